/- What Consistent computes: plain. The plain law of SharederrorPairs: sets as lists; the closures of the law. The tree that grow makes is a rose tree, numbered depth first. The rose tree of nested sets: leaves, sizes, no node with one child. -/
import Derived.Test.YtkfndaebmbnmaaaQ17
import Derived.Test.YtkfndaebmbnmaaaQ21
import Derived.Test.YtkfndaebmbnmaaaQ22
import Derived.Test.YtkfndaebmbnmaaaQ11
import Derived.Test.YtkfndaebmbnmaaaQ19
import Derived.Test.YtkfndaebmbnmaaaQ18
namespace Go.Proofs.Ytkfndaebmbnmaaa
/-- The map of the first k names. -/
def mpK (names : List ByteArray) : Nat → List (ByteArray × Value)
  | 0 => []
  | k + 1 => putS (mpK names k) (gs names k) (.int .i64 k)
def mpL (names : List ByteArray) : List (ByteArray × Value) := mpK names names.length
theorem mpK_uniq (names : List ByteArray) : ∀ k, UniqS (mpK names k)
  | 0 => List.nodup_nil
  | k + 1 => putS_uniq (mpK_uniq names k) _ _
theorem lookup_putS {l : List (ByteArray × Value)} {k j : ByteArray} {v : Value} : (putS l k v).lookup j = if j = k then some v else l.lookup j := by
  unfold putS
  split
  · rename_i h
    have h0 : l.lookup k = none := by simpa using h
    rw [List.lookup_append]
    by_cases e : j = k
    · subst e; rw [if_pos rfl, h0]; simp [List.lookup, ba_self]
    · rw [if_neg e]
      have : List.lookup j [(k, v)] = none := by simp [List.lookup, ba_ne e]
      rw [this]; simp
  · rename_i h
    have h0 : (l.lookup k).isSome := by
      cases hl : l.lookup k with
      | none => rw [hl] at h; exact absurd rfl h
      | some x => rfl
    clear h
    induction l with
    | nil => cases h0
    | cons y l ih =>
      obtain ⟨y1, y2⟩ := y
      rw [List.map_cons]
      by_cases e1 : y1 = k
      · subst e1
        rw [if_pos rfl, List.lookup_cons]
        by_cases e : j = y1
        · subst e; rw [ba_self, if_pos rfl]
        · rw [ba_ne e, if_neg e, List.lookup_cons, ba_ne e]
          have hm : ∀ l : List (ByteArray × Value), List.lookup j (l.map fun x => if x.1 = y1 then (y1, v) else x) = List.lookup j l := by
            intro l
            induction l with
            | nil => rfl
            | cons z l ihl =>
              obtain ⟨z1, z2⟩ := z
              rw [List.map_cons]
              by_cases ez : z1 = y1
              · subst ez; rw [if_pos rfl, List.lookup_cons, ba_ne e, List.lookup_cons, ba_ne e]; exact ihl
              · rw [if_neg ez, List.lookup_cons, List.lookup_cons, ihl]
          exact hm l
      · rw [if_neg e1, List.lookup_cons, List.lookup_cons]
        rw [List.lookup_cons, ba_ne (fun h => e1 h.symm)] at h0
        by_cases e : j = y1
        · subst e; rw [ba_self, if_neg e1]
        · rw [ba_ne e]; exact ih h0
theorem mpK_len (names : List ByteArray) : ∀ k, (mpK names k).length ≤ k
  | 0 => Nat.le_refl _
  | k + 1 => by
    have h := mpK_len names k
    rw [mpK]; unfold putS
    split
    · simp; omega
    · simp; omega
/-- What the map says of a name. -/
theorem mpK_val {names : List ByteArray} {s : ByteArray} {v : Value} : ∀ {k : Nat}, (mpK names k).lookup s = some v → ∃ q, q < k ∧ v = .int .i64 (q : Nat) ∧ gs names q = s ∧ ∀ j, q < j → j < k → gs names j ≠ s
  | 0, h => by cases h
  | k + 1, h => by
    rw [mpK, lookup_putS] at h
    by_cases e : s = gs names k
    · rw [if_pos e] at h
      injection h with h
      exact ⟨k, by omega, h.symm, e.symm, fun j h1 h2 => by omega⟩
    · rw [if_neg e] at h
      obtain ⟨q, h1, h2, h3, h4⟩ := mpK_val h
      exact ⟨q, by omega, h2, h3, fun j h5 h6 => if ej : j = k then by subst ej; exact fun e2 => e e2.symm else h4 j h5 (by omega)⟩
theorem mpK_some {names : List ByteArray} {s : ByteArray} : ∀ {k : Nat}, ((mpK names k).lookup s).isSome = true ↔ ∃ q, q < k ∧ gs names q = s
  | 0 => by simp [mpK]
  | k + 1 => by
    rw [mpK, lookup_putS]
    by_cases e : s = gs names k
    · rw [if_pos e]; simp only [Option.isSome_some, true_iff]; exact ⟨k, by omega, e.symm⟩
    · rw [if_neg e, mpK_some]
      constructor
      · rintro ⟨q, h1, h2⟩; exact ⟨q, by omega, h2⟩
      · rintro ⟨q, h1, h2⟩
        exact ⟨q, by rcases Nat.lt_or_ge q k with h | h
                     · exact h
                     · obtain rfl : q = k := by omega
                       exact absurd h2.symm e, h2⟩
/-- The map has as many entries as there are names exactly if no name stands twice. -/
theorem mpK_nodup {names : List ByteArray} : ∀ {k : Nat}, (mpK names k).length = k ↔ ∀ i j, i < j → j < k → gs names i ≠ gs names j
  | 0 => by simp [mpK]
  | k + 1 => by
    have hl := mpK_len names k
    have ih := mpK_nodup (names := names) (k := k)
    rw [mpK]; unfold putS
    cases hlk : (mpK names k).lookup (gs names k) with
    | none =>
      have hno : ∀ q, q < k → gs names q ≠ gs names k := fun q hq e => by
        have := (mpK_some (names := names) (s := gs names k) (k := k)).2 ⟨q, hq, e⟩
        rw [hlk] at this; cases this
      simp only [Option.isNone_none, if_true, List.length_append, List.length_cons, List.length_nil]
      constructor
      · intro h i j h1 h2
        by_cases ej : j = k
        · subst ej; exact hno i h1
        · exact ih.1 (by omega) i j h1 (by omega)
      · intro h
        rw [ih.2 (fun i j h1 h2 => h i j h1 (by omega))]
    | some x =>
      obtain ⟨q, h1, _, h3, _⟩ := mpK_val hlk
      simp only [Option.isNone_some, Bool.false_eq_true, if_false, List.length_map]
      constructor
      · intro h; omega
      · intro h; exact absurd h3 (h q k h1 (by omega))
/-- A leaf's name is no name, or a name stands twice. -/
def csBad (t : Tre) (names : List ByteArray) (j : Nat) : Bool := !((mpL names).lookup (gs t.ns (gi (leavesL t.ns) j).toNat)).isSome || decide ((mpL names).length ≠ names.length)
def conErr (t : Tre) (names : List ByteArray) (l : List Grp) : Int :=
  if treeErr t ≠ 0 then 1 else if (leavesL t.ns).length ≠ names.length then 9 else if (List.range (leavesL t.ns).length).any (csBad t names) then 9
  else if gcErr l ≠ 0 then gcErr l else if farB l names.length then 2 else 0
/-- The number of a name. -/
def nmIx (names : List ByteArray) (s : ByteArray) : Nat := match (mpL names).lookup s with
  | some (.int _ q) => q.toNat
  | _ => 0
/-- The sets behind node n's round. -/
def ownStep (t : Tre) (num : ByteArray → Nat) (n : Nat) (o : List Nat) : List Nat :=
  if 0 ≤ gi t.ps n then
    (if (gs t.ns n).size ≠ 0 then o.set n (gn o n ||| 2 ^ num (gs t.ns n)) else o).set (gi t.ps n).toNat
      (gn (if (gs t.ns n).size ≠ 0 then o.set n (gn o n ||| 2 ^ num (gs t.ns n)) else o) (gi t.ps n).toNat ||| gn (if (gs t.ns n).size ≠ 0 then o.set n (gn o n ||| 2 ^ num (gs t.ns n)) else o) n)
  else if (gs t.ns n).size ≠ 0 then o.set n (gn o n ||| 2 ^ num (gs t.ns n)) else o
def ownD (t : Tre) (num : ByteArray → Nat) : Nat → List Nat → List Nat
  | 0, o => o
  | n + 1, o => ownD t num n (ownStep t num n o)
/-- The sets of leaves below all nodes. -/
def ownF (t : Tre) (names : List ByteArray) : List Nat := ownD t (nmIx names) t.ps.length (List.replicate t.ps.length 0)
def conOne (t : Tre) (names : List ByteArray) (l : List Grp) (k : Nat) : List Int := if ofS (gg l k).src ∈ ownF t names then [] else [(k : Int)]
def conK (t : Tre) (names : List ByteArray) (l : List Grp) : Nat → List Int
  | 0 => []
  | k + 1 => conK t names l k ++ conOne t names l k
def conL (t : Tre) (names : List ByteArray) (l : List Grp) : List Int := if conErr t names l ≠ 0 then [] else conK t names l l.length
theorem conK_len (t : Tre) (names : List ByteArray) (l : List Grp) : ∀ k, (conK t names l k).length ≤ k
  | 0 => Nat.le_refl _
  | k + 1 => by
    have h := conK_len t names l k
    rw [conK, List.length_append]; unfold conOne; split <;> simp <;> omega
theorem ownStep_len (t : Tre) (num : ByteArray → Nat) (n : Nat) (o : List Nat) : (ownStep t num n o).length = o.length := by
  unfold ownStep
  split
  · rw [List.length_set]; split
    · rw [List.length_set]
    · rfl
  · split
    · rw [List.length_set]
    · rfl
theorem ownD_len (t : Tre) (num : ByteArray → Nat) : ∀ (n : Nat) (o : List Nat), (ownD t num n o).length = o.length
  | 0, _ => rfl
  | n + 1, o => by rw [ownD, ownD_len t num n, ownStep_len]
/-- What an accepted list of names has. -/
theorem conErr_zero {t : Tre} {names : List ByteArray} {l : List Grp} (h : conErr t names l = 0) : treeErr t = 0 ∧ (leavesL t.ns).length = names.length ∧ (∀ j, j < (leavesL t.ns).length → csBad t names j = false) ∧ gcErr l = 0 ∧ farB l names.length = false := by
  unfold conErr at h
  split at h
  · cases h
  · rename_i h1
    split at h
    · cases h
    · rename_i h2
      split at h
      · cases h
      · rename_i h3
        split at h
        · rename_i h4; exact absurd h h4
        · rename_i h4
          split at h
          · cases h
          · rename_i h5
            have h3 : ((List.range (leavesL t.ns).length).any (csBad t names)) = false := by simpa using h3
            exact ⟨Classical.not_not.1 h1, Classical.not_not.1 h2, fun j hj => any_false h3 hj, Classical.not_not.1 h4, by simpa using h5⟩
theorem nmIx_at {names : List ByteArray} {s : ByteArray} (h : ((mpL names).lookup s).isSome = true) : (mpL names).lookup s = some (.int .i64 (nmIx names s : Nat)) ∧ nmIx names s < names.length ∧ gs names (nmIx names s) = s := by
  cases hl : (mpL names).lookup s with
  | none => rw [hl] at h; cases h
  | some v =>
    obtain ⟨q, h1, h2, h3, _⟩ := mpK_val hl
    subst h2
    have : nmIx names s = q := by unfold nmIx; rw [hl]; simp
    rw [this]; exact ⟨rfl, h1, h3⟩
end Go.Proofs.Ytkfndaebmbnmaaa
namespace Go.Proofs.Ytkfndaebmbnmaaa
open Go.RowKit Go.Deep
theorem testBit_ofK {l : List Int} (h : Small l) (i : Nat) : ∀ {k : Nat}, k ≤ l.length → ((ofK l k).testBit i = true ↔ ∃ j, j < k ∧ gi l j = i)
  | 0, _ => by simp [ofK]
  | k + 1, hk => by
    have ih := testBit_ofK h i (k := k) (by omega)
    have hb := h k (by omega)
    show ((ofK l k ||| 2 ^ (gi l k).toNat).testBit i = true ↔ _)
    rw [Nat.testBit_or, Bool.or_eq_true, ih, Nat.testBit_two_pow, decide_eq_true_eq]
    constructor
    · rintro (⟨j, h1, h2⟩ | h1)
      · exact ⟨j, by omega, h2⟩
      · exact ⟨k, by omega, by omega⟩
    · rintro ⟨j, h1, h2⟩
      by_cases e : j = k
      · subst e; exact .inr (by omega)
      · exact .inl ⟨j, by omega, h2⟩
theorem testBit_ofS {l : List Int} (h : Small l) (i : Nat) : (ofS l).testBit i = true ↔ (i : Int) ∈ l := by
  unfold ofS
  rw [testBit_ofK h i (Nat.le_refl _)]
  constructor
  · rintro ⟨j, h1, h2⟩; rw [← h2]; exact gi_mem h1
  · intro hm
    obtain ⟨j, hj, e⟩ := List.getElem_of_mem hm
    exact ⟨j, hj, by simp [gi, hj, e]⟩
theorem ofS_u64 {l : List Int} (h : Small l) : U64 (ofS l) := Nat.lt_trans (ofS_lt h) (by decide)
theorem small_mem {l : List Int} (h : Small l) {x : Int} (hx : x ∈ l) : ∃ i : Nat, x = i ∧ i < 32 := by
  obtain ⟨j, hj, e⟩ := List.getElem_of_mem hx
  have h1 := h j hj
  have h2 : gi l j = x := by simp [gi, hj, e]
  rw [h2] at h1
  exact ⟨x.toNat, by omega, by omega⟩
theorem within_mem {a b : List Int} (ha : Small a) (hb : Small b) : withinB (ofS a) (ofS b) = true ↔ ∀ x ∈ a, x ∈ b := by
  rw [withinB_iff (ofS_u64 ha) (ofS_u64 hb)]
  constructor
  · intro h x hx
    obtain ⟨i, rfl, _⟩ := small_mem ha hx
    exact (testBit_ofS hb i).1 (h i ((testBit_ofS ha i).2 hx))
  · intro h i hi
    exact (testBit_ofS hb i).2 (h _ ((testBit_ofS ha i).1 hi))
theorem and_mem {a b : List Int} (ha : Small a) (hb : Small b) : ofS a &&& ofS b ≠ 0 ↔ ∃ x ∈ a, x ∈ b := by
  constructor
  · intro h
    have : ∃ i, (ofS a &&& ofS b).testBit i = true := by
      refine Classical.byContradiction fun hn => h (Nat.eq_of_testBit_eq fun i => ?_)
      rw [Nat.zero_testBit]
      cases hc : (ofS a &&& ofS b).testBit i
      · rfl
      · exact absurd ⟨i, hc⟩ hn
    obtain ⟨i, hi⟩ := this
    rw [Nat.testBit_and, Bool.and_eq_true] at hi
    exact ⟨i, (testBit_ofS ha i).1 hi.1, (testBit_ofS hb i).1 hi.2⟩
  · rintro ⟨x, h1, h2⟩ h0
    obtain ⟨i, rfl, _⟩ := small_mem ha h1
    have h3 : (ofS a &&& ofS b).testBit i = true := by rw [Nat.testBit_and, (testBit_ofS ha i).2 h1, (testBit_ofS hb i).2 h2]; rfl
    rw [h0, Nat.zero_testBit] at h3; cases h3
def lacksB (a b : List Int) : Bool := (List.range a.length).any fun j => !decide (gi a j ∈ b)
def commonB (a b : List Int) : Bool := (List.range a.length).any fun j => decide (gi a j ∈ b)
theorem lacksB_iff {a b : List Int} : lacksB a b = true ↔ ∃ x ∈ a, x ∉ b := by
  unfold lacksB
  rw [List.any_eq_true]
  constructor
  · rintro ⟨j, hj, h⟩
    exact ⟨gi a j, gi_mem (List.mem_range.1 hj), by simpa using h⟩
  · rintro ⟨x, hx, h⟩
    obtain ⟨j, hj, e⟩ := List.getElem_of_mem hx
    have h2 : gi a j = x := by simp [gi, hj, e]
    exact ⟨j, List.mem_range.2 hj, by rw [h2]; simpa using h⟩
theorem commonB_iff {a b : List Int} : commonB a b = true ↔ ∃ x ∈ a, x ∈ b := by
  unfold commonB
  rw [List.any_eq_true]
  constructor
  · rintro ⟨j, hj, h⟩
    exact ⟨gi a j, gi_mem (List.mem_range.1 hj), by simpa using h⟩
  · rintro ⟨x, hx, h⟩
    obtain ⟨j, hj, e⟩ := List.getElem_of_mem hx
    have h2 : gi a j = x := by simp [gi, hj, e]
    exact ⟨j, List.mem_range.2 hj, by rw [h2]; simpa using h⟩
theorem conf_lists {a b : List Int} (ha : Small a) (hb : Small b) : confB (ofS a) (ofS b) = (lacksB a b && lacksB b a && commonB a b) := by
  have h1 : withinB (ofS a) (ofS b) = !lacksB a b := by
    rw [Bool.eq_iff_iff, within_mem ha hb, Bool.not_eq_true', ← Bool.not_eq_true, lacksB_iff]
    constructor
    · rintro h ⟨x, h1, h2⟩; exact h2 (h x h1)
    · intro h x hx; exact Classical.byContradiction fun hn => h ⟨x, hx, hn⟩
  have h2 : withinB (ofS b) (ofS a) = !lacksB b a := by
    rw [Bool.eq_iff_iff, within_mem hb ha, Bool.not_eq_true', ← Bool.not_eq_true, lacksB_iff]
    constructor
    · rintro h ⟨x, h1, h2⟩; exact h2 (h x h1)
    · intro h x hx; exact Classical.byContradiction fun hn => h ⟨x, hx, hn⟩
  have h3 : decide (ofS a &&& ofS b ≠ 0) = commonB a b := by
    rw [Bool.eq_iff_iff, decide_eq_true_eq, and_mem ha hb, commonB_iff]
  unfold confB
  rw [h1, h2, h3, Bool.not_not, Bool.not_not]
  cases commonB a b <;> cases lacksB a b <;> cases lacksB b a <;> rfl
set_option maxRecDepth 100000 in
set_option maxHeartbeats 400000 in
theorem pairs11_t (S : Nat → Prop) (w : World) (bx : Nat) (vb : Value) (b : List Int) (x : Int) (hc : w.cell? ⟨bx, 0, none⟩ = some vb) (hb : IntsAt S w vb b) (hn : b.length ≤ 1000000) :
    FnIs 19 #[.pointer (some ⟨bx, 0, none⟩)] #[.int .i64 x] (.bool (!decide (x ∈ b))) w := by
  unfold FnIs
  show Calls Try.prog 19 #[.int .i64 x, .pointer (some ⟨bx, 0, none⟩)] w _
  have HC := Lib.hid (contains_int_t S w vb b x hb hn)
  rw [any_memI] at HC
  clear hb
  go_enter Try.func19, Try.ntmps19
  go_wp2_with fail
  refine HC.out.mono ?_
  rintro e w' ⟨rfl, rfl⟩
  go_wp2_with fail
  go_ret
  exact ⟨rfl, rfl⟩
set_option maxRecDepth 100000 in
set_option maxHeartbeats 400000 in
theorem pairs1_t (S T : Nat → Prop) (w : World) (va vb : Value) (a b : List Int) (ha : IntsAt S w va a) (hb : IntsAt T w vb b) (hn : a.length ≤ 1000000) (hm : b.length ≤ 1000000) :
    Calls Try.prog 17 #[va, vb] w fun e w' => e = .returned (.bool (lacksB a b)) ∧ Up w w' := by
  obtain ⟨q, c, rfl, _, _⟩ := SlAt.open hb
  have hb : IntsAt T w (.slice q b.length c) b := hb
  have hu := Up.alloc w (.cells #[.slice q b.length c] 23)
  have hbx := box1_0 w (.slice q b.length c) 23
  have HI := Lib.hid (ints_has_t 19 #[.pointer (some ⟨w.heap.size, 0, none⟩)] (enters_of Try.func19 (by kernel_rfl) rfl) S _ _ a.length _ (fun j => !decide (gi a j ∈ b)) (IntsAt.keep ha (hu.kept S)) hn
    (fun j _ => pairs11_t T _ w.heap.size _ b (gi a j) hbx (IntsAt.keep hb (hu.kept T)) hm))
  have HL : Hid (lacksB a b = (List.range a.length).any fun j => !decide (gi a j ∈ b)) := rfl
  have HU := Lib.hid hu
  clear ha hb hu hbx
  go_enter Try.func17, Try.ntmps17
  go_wp2_with fail
  refine HI.out.mono ?_
  rintro e w' ⟨rfl, rfl⟩
  go_wp2_with fail
  go_ret
  exact ⟨ret_bool HL.out.symm, HU.out⟩
set_option maxRecDepth 100000 in
set_option maxHeartbeats 400000 in
theorem pairs2_t (S : Nat → Prop) (w : World) (bx : Nat) (vb : Value) (b : List Int) (x : Int) (hc : w.cell? ⟨bx, 2, none⟩ = some vb) (hb : IntsAt S w vb b) (hn : b.length ≤ 1000000) :
    FnIs 20 #[.pointer (some ⟨bx, 0, none⟩)] #[.int .i64 x] (.bool (decide (x ∈ b))) w := by
  unfold FnIs
  show Calls Try.prog 20 #[.int .i64 x, .pointer (some ⟨bx, 0, none⟩)] w _
  have HC := Lib.hid (contains_int_t S w vb b x hb hn)
  rw [any_memI] at HC
  clear hb
  go_enter Try.func20, Try.ntmps20
  go_wp2_with fail
  refine HC.out.mono ?_
  rintro e w' ⟨rfl, rfl⟩
  go_wp2_with fail
  go_ret
  exact ⟨rfl, rfl⟩
theorem common_t (S T : Nat → Prop) (w : World) (va vb : Value) (a b : List Int) (bx : Nat) (ha : IntsAt S w va a) (hc : w.cell? ⟨bx, 2, none⟩ = some vb) (hb : IntsAt T w vb b) (hn : a.length ≤ 1000000) (hm : b.length ≤ 1000000) :
    Calls Try.prog 18 #[va, .func (.func 20) #[] #[.pointer (some ⟨bx, 0, none⟩)]] w fun e w' => e = .returned (.bool (commonB a b)) ∧ w = w' :=
  ints_has_t 20 #[.pointer (some ⟨bx, 0, none⟩)] (enters_of Try.func20 (by kernel_rfl) rfl) S w va a.length _ (fun j => decide (gi a j ∈ b)) ha hn (fun j _ => pairs2_t T w bx vb b (gi a j) hc hb hm)
end Go.Proofs.Ytkfndaebmbnmaaa
namespace Go.Proofs.Ytkfndaebmbnmaaa
def Tre.app (t : Tre) (r : RT) (p : Int) : Tre := ⟨t.ps ++ psR r t.ps.length p, t.ns ++ nsR r⟩
def Tre.apps (t : Tre) (rs : List RT) (own : Nat) : Tre := ⟨t.ps ++ psRs rs own t.ps.length, t.ns ++ nsRs rs⟩
theorem psRs_app : ∀ (a b : List RT) (own n : Nat), psRs (a ++ b) own n = psRs a own n ++ psRs b own (n + sizeRs a)
  | [], _, _, _ => rfl
  | r :: a, b, own, n => by rw [List.cons_append, psRs, psRs, psRs_app a b own (n + sizeR r), sizeRs, List.append_assoc, Nat.add_assoc]
theorem nsRs_app : ∀ (a b : List RT), nsRs (a ++ b) = nsRs a ++ nsRs b
  | [], _ => rfl
  | r :: a, b => by rw [List.cons_append, nsRs, nsRs, nsRs_app a b, List.append_assoc]
theorem apps_nil (t : Tre) (own : Nat) : t.apps [] own = t := by simp [Tre.apps, psRs, nsRs]
theorem apps_apps (t : Tre) (a b : List RT) (own : Nat) : (t.apps a own).apps b own = t.apps (a ++ b) own := by
  unfold Tre.apps
  rw [psRs_app, nsRs_app, List.append_assoc, List.append_assoc, List.length_append, psRs_len]
theorem apps_app (t : Tre) (a : List RT) (r : RT) (own : Nat) : (t.apps a own).app r (own : Int) = t.apps (a ++ [r]) own := by
  rw [← apps_apps]
  simp [Tre.apps, Tre.app, psRs, nsRs]
def leafN (names : List ByteArray) (s : Nat) : RT := .node (gs names s) []
def leavesN (names : List ByteArray) (left k : Nat) : List RT := ((List.range k).filter fun s => left.testBit s).map (leafN names)
theorem leafK_eq (names : List ByteArray) (left own : Nat) (t : Tre) : ∀ s, leafK names left (own : Int) s t = t.apps (leavesN names left s) own
  | 0 => (apps_nil t own).symm
  | s + 1 => by
    rw [leafK, leafK_eq names left own t s]
    unfold leavesN
    rw [List.range_succ, List.filter_append, List.map_append]
    by_cases h : left.testBit s = true
    · rw [if_pos h, List.filter_cons_of_pos h, List.filter_nil, List.map_cons, List.map_nil, ← apps_app]
      simp [Tre.push, Tre.app, leafN, psR, psRs, nsR, nsRs]
    · rw [if_neg h, List.filter_cons_of_neg h, List.filter_nil, List.map_nil, List.append_nil]
def kidsI (inner : List Nat) (x k : Nat) : List Nat := (inner.take k).filter (isKid inner x)
theorem kidF_eq {g : Nat → Int → Tre → Tre} {gr : Nat → RT} (inner : List Nat) (x : Nat) (hg : ∀ y ∈ inner, isKid inner x y = true → ∀ (p : Int) (t : Tre), g y p t = t.app (gr y) p) (own : Nat) (t : Tre) :
    ∀ k, k ≤ inner.length → kidF g inner x (own : Int) k (x, t) = ((kidsI inner x k).foldl minus x, t.apps ((kidsI inner x k).map gr) own)
  | 0, _ => by rw [kidF]; simp [kidsI, apps_nil]
  | k + 1, hk => by
    have ih := kidF_eq inner x hg own t k (by omega)
    have hgn : gn inner k = inner[k]'(by omega) := by simp [gn, show k < inner.length by omega]
    have hki : kidsI inner x (k + 1) = kidsI inner x k ++ (if isKid inner x (gn inner k) then [gn inner k] else []) := by
      unfold kidsI
      rw [List.take_succ_eq_append_getElem (show k < inner.length by omega), List.filter_append, ← hgn]
      congr 1
      by_cases h : isKid inner x (gn inner k) = true
      · rw [if_pos h, List.filter_cons_of_pos h, List.filter_nil]
      · rw [if_neg h, List.filter_cons_of_neg h, List.filter_nil]
    rw [kidF, ih, hki]
    by_cases h : isKid inner x (gn inner k) = true
    · rw [if_pos h, if_pos h, hg _ (by rw [hgn]; exact List.getElem_mem _) h, apps_app, List.foldl_append, List.map_append]; rfl
    · rw [if_neg h, if_neg h, List.append_nil]
def kidsX (inner : List Nat) (x : Nat) : List Nat := inner.filter (isKid inner x)
def leftX (inner : List Nat) (x : Nat) : Nat := (kidsX inner x).foldl minus x
/-- The rose tree that grow makes. -/
def growR (names : List ByteArray) (inner : List Nat) : Nat → Nat → RT
  | 0, _ => .node ByteArray.empty []
  | d + 1, x => .node ByteArray.empty ((kidsX inner x).map (growR names inner d) ++ leavesN names (leftX inner x) names.length)
theorem isKid_lt {inner : List Nat} {x y : Nat} (hx : U64 x) (hy : U64 y) (h : isKid inner x y = true) : y < x := by
  unfold isKid at h
  simp only [Bool.and_eq_true, decide_eq_true_eq] at h
  have := within_le hy hx h.1.2
  have := h.1.1
  omega
theorem growF_eq (names : List ByteArray) (inner : List Nat) (hi : ∀ y ∈ inner, U64 y) : ∀ (d x : Nat) (p : Int) (t : Tre), x < d → U64 x → growF names inner d x p t = t.app (growR names inner d x) p
  | 0, _, _, _, h, _ => by omega
  | d + 1, x, p, t, h, hx => by
    have hg : ∀ y ∈ inner, isKid inner x y = true → ∀ (p : Int) (t : Tre), growF names inner d y p t = t.app (growR names inner d y) p := fun y hy hk p t => by
      have := isKid_lt hx (hi y hy) hk
      exact growF_eq names inner hi d y p t (by omega) (hi y hy)
    rw [growF, kidF_eq inner x hg t.ps.length (t.push p ByteArray.empty) inner.length (Nat.le_refl _)]
    show leafK names _ _ _ _ = _
    rw [leafK_eq, apps_apps, growR]
    unfold kidsI
    rw [List.take_length]
    simp [Tre.apps, Tre.app, Tre.push, psR, nsR, kidsX, leftX]
/-- The tree that Tree puts into canonical form. -/
theorem rawT_flat (names : List ByteArray) (l : List Grp) (hn : names.length ≤ 32) (hc : gcErr l = 0) : rawT names l = flat (growR names (innL l (allN names.length)) (allN names.length + 1) (allN names.length)) := by
  have hall : U64 (allN names.length) := by
    unfold U64 allN
    have : 2 ^ names.length ≤ 2 ^ 32 := Nat.pow_le_pow_right (by decide) hn
    omega
  unfold rawT
  rw [growF_eq names _ (fun y hy => by
    obtain ⟨j, hj, e⟩ := List.getElem_of_mem hy
    have := inn_u64 hc (allN names.length) l.length j (Nat.le_refl _)
    unfold innL at hj e
    simp only [gn, List.getD_eq_getElem?_getD, List.getElem?_eq_getElem hj, Option.getD_some] at this
    rw [e] at this; exact this) _ _ _ _ (by omega) hall]
  rfl
end Go.Proofs.Ytkfndaebmbnmaaa
namespace Go.Proofs.Ytkfndaebmbnmaaa
def bitsN (n x : Nat) : List Nat := (List.range n).filter fun i => x.testBit i
theorem mem_bitsN {n x i : Nat} : i ∈ bitsN n x ↔ i < n ∧ x.testBit i = true := by unfold bitsN; rw [List.mem_filter, List.mem_range]
theorem testBit_minus {a b i : Nat} (hb : U64 b) (hi : i < 32) : (minus a b).testBit i = (a.testBit i && !b.testBit i) := by
  unfold minus
  have e : 18446744073709551615 - b = 2 ^ 64 - (b + 1) := by unfold U64 at hb; omega
  have hb2 : b < 2 ^ 64 := hb
  rw [e, Nat.testBit_and, Nat.testBit_two_pow_sub_succ hb2]
  simp [show i < 64 by omega]
theorem filter_split (p q r : Nat → Bool) : ∀ l : List Nat, (∀ i ∈ l, p i = (q i || r i) ∧ ¬ (q i = true ∧ r i = true)) → (l.filter p).Perm (l.filter q ++ l.filter r)
  | [], _ => List.Perm.refl _
  | a :: l, h => by
    have ih := filter_split p q r l (fun i hi => h i (by simp [hi]))
    obtain ⟨h1, h2⟩ := h a (by simp)
    cases hq : q a
    · cases hr : r a
      · rw [hq, hr] at h1
        rw [List.filter_cons_of_neg (by rw [h1]; simp), List.filter_cons_of_neg (by rw [hq]; simp), List.filter_cons_of_neg (by rw [hr]; simp)]; exact ih
      · rw [hq, hr] at h1
        rw [List.filter_cons_of_pos (by rw [h1]; simp), List.filter_cons_of_neg (by rw [hq]; simp), List.filter_cons_of_pos hr]
        exact (ih.cons a).trans List.perm_middle.symm
    · cases hr : r a
      · rw [hq, hr] at h1
        rw [List.filter_cons_of_pos (by rw [h1]; simp), List.filter_cons_of_pos hq, List.filter_cons_of_neg (by rw [hr]; simp)]
        exact ih.cons a
      · exact absurd ⟨hq, hr⟩ h2
def Apart (y z : Nat) : Prop := ∀ i, ¬ (y.testBit i = true ∧ z.testBit i = true)
theorem bits_minus {n a b : Nat} (hn : n ≤ 32) (hb : U64 b) (hs : ∀ i, b.testBit i = true → a.testBit i = true) : (bitsN n a).Perm (bitsN n b ++ bitsN n (minus a b)) := by
  unfold bitsN
  refine filter_split _ _ _ _ fun i hi => ?_
  have hi : i < n := List.mem_range.1 hi
  rw [testBit_minus hb (by omega)]
  have := hs i
  cases h1 : a.testBit i <;> cases h2 : b.testBit i <;> simp_all
theorem bits_fold {n : Nat} (hn : n ≤ 32) : ∀ (ks : List Nat) (a : Nat), (∀ y ∈ ks, U64 y ∧ (∀ i, y.testBit i = true → i < n ∧ a.testBit i = true)) → ks.Pairwise Apart → (bitsN n a).Perm (ks.flatMap (bitsN n) ++ bitsN n (ks.foldl minus a))
  | [], _, _, _ => List.Perm.refl _
  | y :: ks, a, h, hp => by
    obtain ⟨h1, h2⟩ := List.pairwise_cons.1 hp
    have hy := h y (by simp)
    have ih := bits_fold hn ks (minus a y) (fun z hz => ⟨(h z (by simp [hz])).1, fun i hi => by
      have hz2 := (h z (by simp [hz])).2 i hi
      refine ⟨hz2.1, ?_⟩
      rw [testBit_minus hy.1 (by omega), hz2.2]
      cases hyi : y.testBit i
      · rfl
      · exact absurd ⟨hyi, hi⟩ (h1 z hz i)⟩) h2
    rw [List.flatMap_cons, List.foldl_cons, List.append_assoc]
    exact (bits_minus hn hy.1 (fun i hi => (hy.2 i hi).2)).trans (ih.append_left _)
structure Lam (inner : List Nat) (n : Nat) : Prop where
  u : ∀ y ∈ inner, U64 y
  sub : ∀ y ∈ inner, ∀ i, y.testBit i = true → i < n
  two : ∀ y ∈ inner, 2 ≤ (bitsN n y).length
  lam : ∀ y ∈ inner, ∀ z ∈ inner, withinB y z = true ∨ withinB z y = true ∨ y &&& z = 0
  nd : inner.Nodup
theorem isKid_parts {inner : List Nat} {x y : Nat} (h : isKid inner x y = true) : y ≠ x ∧ withinB y x = true ∧ ∀ z ∈ inner, midB x y z = false := by
  unfold isKid at h
  simp only [Bool.and_eq_true, decide_eq_true_eq, Bool.not_eq_true'] at h
  refine ⟨h.1.1, h.1.2, fun z hz => ?_⟩
  obtain ⟨j, hj, e⟩ := List.getElem_of_mem hz
  have := any_false h.2 hj
  have hg : gn inner j = z := by simp [gn, hj, e]
  rw [hg] at this; exact this
theorem kids_apart {inner : List Nat} {n x : Nat} (h : Lam inner n) : (kidsX inner x).Pairwise Apart := by
  unfold kidsX
  refine List.Pairwise.imp_of_mem ?_ (List.Pairwise.filter _ h.nd)
  intro y z hy hz hne i hi
  obtain ⟨hy1, hy2⟩ := List.mem_filter.1 hy
  obtain ⟨hz1, hz2⟩ := List.mem_filter.1 hz
  obtain ⟨a1, a2, a3⟩ := isKid_parts hy2
  obtain ⟨b1, b2, b3⟩ := isKid_parts hz2
  rcases h.lam y hy1 z hz1 with h1 | h1 | h1
  · have := a3 z hz1
    unfold midB at this
    simp [b1, b2, h1, Ne.symm hne] at this
  · have := b3 y hy1
    unfold midB at this
    simp [a1, a2, h1, hne] at this
  · have : (y &&& z).testBit i = true := by rw [Nat.testBit_and, hi.1, hi.2]; rfl
    rw [h1] at this; simp at this
theorem perm_flatMap {α β : Type} {f g : α → List β} : ∀ l : List α, (∀ a ∈ l, (f a).Perm (g a)) → (l.flatMap f).Perm (l.flatMap g)
  | [], _ => List.Perm.refl _
  | a :: l, h => by
    rw [List.flatMap_cons, List.flatMap_cons]
    exact (h a (by simp)).append (perm_flatMap l fun b hb => h b (by simp [hb]))
/-- A part as it should be: inner parts without a name, leaves named, not one child. -/
def PartOk (s : RT) : Prop := (s.kids ≠ [] → s.nm.size = 0) ∧ (s.kids = [] → namedB s.nm.data.toList = true) ∧ s.kids.length ≠ 1
def fltN (l : List ByteArray) : List ByteArray := l.filter fun s => decide (s.size ≠ 0)
theorem fltN_app (a b : List ByteArray) : fltN (a ++ b) = fltN a ++ fltN b := List.filter_append _ _
theorem leafR_node {nm : ByteArray} {ks : List RT} (h : nm.size = 0) : leafR (.node nm ks) = ks.flatMap leafR := by
  have key : ∀ ks : List RT, fltN (nsRs ks) = ks.flatMap leafR := by
    intro ks
    induction ks with
    | nil => rfl
    | cons r rs ih => rw [nsRs, fltN_app, ih, List.flatMap_cons]; rfl
  show fltN (nsR _) = _
  rw [nsR, ← key]
  unfold fltN
  rw [List.filter_cons_of_neg (by simp [h])]
theorem leafR_leaf {nm : ByteArray} (h : nm.size ≠ 0) : leafR (.node nm []) = [nm] := by
  show List.filter _ (nsR _) = _
  rw [nsR, nsRs, List.filter_cons_of_pos (by simpa using h)]; rfl
mutual
theorem size_le : ∀ r : RT, (∀ s ∈ subR r, PartOk s) → sizeR r + 1 ≤ 2 * (leafR r).length
  | .node nm [], h => by
    have h1 : namedB nm.data.toList = true := (h (.node nm []) (by rw [subR]; simp)).2.1 rfl
    rw [leafR_leaf (named_size h1)]; simp [sizeR, sizeRs]
  | .node nm (k :: ks), h => by
    have h0 := h (.node nm (k :: ks)) (by rw [subR]; simp)
    have h1 : nm.size = 0 := h0.1 (by simp [RT.kids])
    have h2 : (k :: ks).length ≠ 1 := h0.2.2
    rw [leafR_node h1]
    have h3 := sizes_le (k :: ks) (fun s hs => h s (by rw [subR]; exact List.mem_cons_of_mem _ hs))
    rw [List.length_cons] at h2 h3
    rw [sizeR]; omega
theorem sizes_le : ∀ rs : List RT, (∀ s ∈ subRs rs, PartOk s) → sizeRs rs + rs.length ≤ 2 * (rs.flatMap leafR).length
  | [], _ => by simp [sizeRs]
  | r :: rs, h => by
    have h1 := size_le r (fun s hs => h s (by rw [subRs]; exact List.mem_append_left _ hs))
    have h2 := sizes_le rs (fun s hs => h s (by rw [subRs]; exact List.mem_append_right _ hs))
    rw [sizeRs, List.flatMap_cons, List.length_append, List.length_cons]; omega
end
theorem growR_ok {names : List ByteArray} {inner : List Nat} (hn : names.length ≤ 32) (hnm : ∀ s, s < names.length → namedB (gs names s).data.toList = true) (hL : Lam inner names.length) : ∀ (d x : Nat), x < d → U64 x → (∀ i, x.testBit i = true → i < names.length) → 2 ≤ (bitsN names.length x).length →
    (leafR (growR names inner d x)).Perm ((bitsN names.length x).map (gs names)) ∧ ∀ s ∈ subR (growR names inner d x), PartOk s
  | 0, _, h, _, _, _ => by omega
  | d + 1, x, h, hx, hs, h2 => by
    have hk : ∀ y ∈ kidsX inner x, y ∈ inner ∧ isKid inner x y = true := fun y hy => List.mem_filter.1 hy
    have hsub : ∀ y ∈ kidsX inner x, U64 y ∧ (∀ i, y.testBit i = true → i < names.length ∧ x.testBit i = true) := fun y hy =>
      ⟨hL.u y (hk y hy).1, fun i hi => ⟨hL.sub y (hk y hy).1 i hi, (withinB_iff (hL.u y (hk y hy).1) hx).1 (isKid_parts (hk y hy).2).2.1 i hi⟩⟩
    have ih := fun (y : Nat) (hy : y ∈ kidsX inner x) => growR_ok hn hnm hL d y (by
      have := isKid_lt hx (hL.u y (hk y hy).1) (hk y hy).2
      omega) (hL.u y (hk y hy).1) (hL.sub y (hk y hy).1) (hL.two y (hk y hy).1)
    have hf := bits_fold hn (kidsX inner x) x hsub (kids_apart hL)
    have hlv : (leavesN names (leftX inner x) names.length).flatMap leafR = (bitsN names.length (leftX inner x)).map (gs names) := by
      unfold leavesN
      show (List.map (leafN names) (bitsN names.length (leftX inner x))).flatMap leafR = _
      rw [List.flatMap_map]
      have key : ∀ l : List Nat, (∀ i ∈ l, i < names.length) → (l.flatMap fun a => leafR (leafN names a)) = l.map (gs names) := by
        intro l
        induction l with
        | nil => intro _; rfl
        | cons a l ihl =>
          intro hl
          rw [List.flatMap_cons, ihl (fun i hi => hl i (by simp [hi])), List.map_cons]
          unfold leafN
          rw [leafR_leaf (named_size (hnm a (hl a (by simp))))]; rfl
      exact key _ (fun i hi => (mem_bitsN.1 hi).1)
    have h0 : (ByteArray.empty).size = 0 := rfl
    constructor
    · rw [growR, leafR_node h0, List.flatMap_append, hlv, List.flatMap_map]
      have h3 : ((kidsX inner x).flatMap fun y => leafR (growR names inner d y)).Perm ((kidsX inner x).flatMap fun y => (bitsN names.length y).map (gs names)) := perm_flatMap _ fun y hy => (ih y hy).1
      refine (h3.append_right _).trans ?_
      rw [← List.map_flatMap, ← List.map_append]
      exact (hf.map (gs names)).symm
    · intro s hsm
      rw [growR, subR, List.mem_cons] at hsm
      rcases hsm with rfl | hsm
      · have hlen : ((kidsX inner x).map (growR names inner d) ++ leavesN names (leftX inner x) names.length).length = (kidsX inner x).length + (bitsN names.length (leftX inner x)).length := by
          rw [List.length_append, List.length_map]; unfold leavesN bitsN; rw [List.length_map]
        have h4 : 2 ≤ (kidsX inner x).length + (bitsN names.length (leftX inner x)).length := by
          cases hkx : kidsX inner x with
          | nil =>
            have : leftX inner x = x := by unfold leftX; rw [hkx]; rfl
            rw [this]; simp only [List.length_nil]; omega
          | cons y l =>
            cases l with
            | cons z l => simp only [List.length_cons]; omega
            | nil =>
              have hy : y ∈ kidsX inner x := by rw [hkx]; simp
              have hl : leftX inner x = minus x y := by unfold leftX; rw [hkx]; rfl
              cases hb : bitsN names.length (leftX inner x) with
              | cons b bs => simp only [List.length_cons, List.length_nil]; omega
              | nil =>
                exfalso
                have hw : withinB x y = true := (withinB_iff hx (hsub y hy).1).2 fun i hi => by
                  cases hyi : y.testBit i with
                  | true => rfl
                  | false =>
                    have hin : i ∈ bitsN names.length (leftX inner x) := mem_bitsN.2 ⟨hs i hi, by
                      rw [hl, testBit_minus (hsub y hy).1 (by have := hs i hi; omega), hi, hyi]; rfl⟩
                    rw [hb] at hin; cases hin
                have h5 := within_le hx (hsub y hy).1 hw
                have h6 := isKid_lt hx (hsub y hy).1 (hk y hy).2
                omega
        refine ⟨fun _ => h0, fun e => ?_, ?_⟩
        · have e : (kidsX inner x).map (growR names inner d) ++ leavesN names (leftX inner x) names.length = [] := e
          rw [e] at hlen; simp only [List.length_nil] at hlen; omega
        · show ((kidsX inner x).map (growR names inner d) ++ leavesN names (leftX inner x) names.length).length ≠ 1
          rw [hlen]; omega
      · rw [subRs_flat, List.flatMap_append, List.mem_append] at hsm
        rcases hsm with hsm | hsm
        · obtain ⟨q, hq, hs2⟩ := List.mem_flatMap.1 hsm
          obtain ⟨y, hy, rfl⟩ := List.mem_map.1 hq
          exact (ih y hy).2 s hs2
        · obtain ⟨q, hq, hs2⟩ := List.mem_flatMap.1 hsm
          unfold leavesN at hq
          obtain ⟨i, hi, rfl⟩ := List.mem_map.1 hq
          have hi2 : i < names.length := List.mem_range.1 (List.mem_filter.1 hi).1
          unfold leafN at hs2
          rw [subR, subRs] at hs2
          obtain rfl : s = .node (gs names i) [] := by simpa using hs2
          exact ⟨fun e => absurd rfl e, fun _ => hnm i hi2, by simp [RT.kids]⟩
end Go.Proofs.Ytkfndaebmbnmaaa
