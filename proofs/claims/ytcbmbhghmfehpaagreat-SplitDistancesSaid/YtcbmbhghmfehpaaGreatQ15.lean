/- The contract of slices.Sort at ints: the laying. slices.Sort at ints that the call has built. The law's leaves. What the sets of Consistent hold; at Tree's tree. The walk of SharederrorLeaves. The walk of SharederrorNested. The contracts of layer 35's reference's beyond and GreatNames, of layer 31's reference's Great. The contract of layer 31's reference's Great. Sets and splits: what intset and split compute. Plain. Lists of splits: ordered, each once. Plain. -/
import Derived.Shelf.SlGeneric
import Derived.Shelf.SlLaysM
import Derived.Ground.SlgmProg
import Derived.Test.YtcbmbhghmfehpaaGreatProg
import Derived.Test.YtcbmbhghmfehpaaGreatQ3
import Derived.Test.YtcbmbhghmfehpaaGreatQ1
import Derived.Shelf.SortM.Plain
import Derived.Shelf.SortM.SortNone
import Derived.Sort.OwnSortedInts
import Derived.Test.YtcbmbhghmfehpaaGreatQ12
import Derived.Test.YtcbmbhghmfehpaaGreatQ14
import Derived.Test.YtcbmbhghmfehpaaGreatQ4
import Derived.Test.YtcbmbhghmfehpaaGreatQ7
namespace Go.Proofs
open Go.Shelf
def Tryz.sortZ_ren : Go.Shelf.Ren := ⟨fun | 5 => 151 | 8 => 94 | 7 => 193 | 19 => 165 | 20 => 166 | 10 => 223 | 11 => 224 | 12 => 225 | 13 => 226 | 14 => 227 | 15 => 228 | 16 => 229 | 17 => 230 | 18 => 231 | 30 => 247 | 31 => 199 | 32 => 200 | 33 => 248 | 34 => 249 | 35 => 156 | 40 => 261 | n => n, fun | 23 => 26 | 25 => 3 | 3 => 3 | 32 => 118 | 22 => 26 | 0 => 0 | 44 => 180 | 46 => 96 | 4 => 4 | 36 => 173 | 35 => 172 | 41 => 177 | 5 => 5 | 9 => 9 | 53 => 212 | 57 => 216 | 63 => 248 | 64 => 126 | n => n, fun | n => n⟩
theorem Tryz.sortZ : Go.Proofs.SlLaysM.n5 Tryz.prog Tryz.sortZ_ren := {
  mixed := by kernel_rfl
  f5 := ⟨Tryz.f151.name, by decide, Tryz.func151.trans (congrArg some (by kernel_rfl))⟩
  f7 := ⟨Tryz.f193.name, by decide, Tryz.func193.trans (congrArg some (by kernel_rfl))⟩
  f8 := Tryz.func94.trans (congrArg some (by kernel_rfl))
  f10 := ⟨Tryz.f223.name, by decide, Tryz.func223.trans (congrArg some (by kernel_rfl))⟩
  f11 := ⟨Tryz.f224.name, by decide, Tryz.func224.trans (congrArg some (by kernel_rfl))⟩
  f12 := ⟨Tryz.f225.name, by decide, Tryz.func225.trans (congrArg some (by kernel_rfl))⟩
  f13 := ⟨Tryz.f226.name, by decide, Tryz.func226.trans (congrArg some (by kernel_rfl))⟩
  f14 := ⟨Tryz.f227.name, by decide, Tryz.func227.trans (congrArg some (by kernel_rfl))⟩
  f15 := ⟨Tryz.f228.name, by decide, Tryz.func228.trans (congrArg some (by kernel_rfl))⟩
  f16 := ⟨Tryz.f229.name, by decide, Tryz.func229.trans (congrArg some (by kernel_rfl))⟩
  f17 := ⟨Tryz.f230.name, by decide, Tryz.func230.trans (congrArg some (by kernel_rfl))⟩
  f18 := ⟨Tryz.f231.name, by decide, Tryz.func231.trans (congrArg some (by kernel_rfl))⟩
  f19 := Tryz.func165.trans (congrArg some (by kernel_rfl))
  f20 := Tryz.func166.trans (congrArg some (by kernel_rfl))
  f30 := ⟨Tryz.f247.name, by decide, Tryz.func247.trans (congrArg some (by kernel_rfl))⟩
  f31 := Tryz.func199.trans (congrArg some (by kernel_rfl))
  f32 := Tryz.func200.trans (congrArg some (by kernel_rfl))
  f33 := ⟨Tryz.f248.name, by decide, Tryz.func248.trans (congrArg some (by kernel_rfl))⟩
  f34 := ⟨Tryz.f249.name, by decide, Tryz.func249.trans (congrArg some (by kernel_rfl))⟩
  f35 := ⟨Tryz.f156.name, by decide, Tryz.func156.trans (congrArg some (by kernel_rfl))⟩
  f40 := ⟨Tryz.f261.name, by decide, Tryz.func261.trans (congrArg some (by kernel_rfl))⟩
  t0 := Tryz.underlying0
  a0 := Tryz.isAgg0
  z0 := Tryz.sizeOf0
  v0 := Tryz.zeroValue0
  t3 := Tryz.underlying3
  a3 := Tryz.isAgg3
  z3 := Tryz.sizeOf3
  v3 := Tryz.zeroValue3
  t4 := Tryz.underlying4
  a4 := Tryz.isAgg4
  z4 := Tryz.sizeOf4
  v4 := Tryz.zeroValue4
  t5 := Tryz.underlying5
  a5 := Tryz.isAgg5
  z5 := Tryz.sizeOf5
  v5 := Tryz.zeroValue5
  t9 := Tryz.underlying9
  a9 := Tryz.isAgg9
  z9 := Tryz.sizeOf9
  v9 := Tryz.zeroValue9
  t22 := Tryz.underlying26
  a22 := Tryz.isAgg26
  z22 := Tryz.sizeOf26
  v22 := Tryz.zeroValue26
  t23 := Tryz.underlying26
  a23 := Tryz.isAgg26
  z23 := Tryz.sizeOf26
  v23 := Tryz.zeroValue26
  t25 := Tryz.underlying3
  a25 := Tryz.isAgg3
  z25 := Tryz.sizeOf3
  v25 := Tryz.zeroValue3
  t32 := Tryz.underlying118
  a32 := Tryz.isAgg118
  z32 := Tryz.sizeOf118
  v32 := Tryz.zeroValue118
  t35 := Tryz.underlying172
  a35 := Tryz.isAgg172
  z35 := Tryz.sizeOf172
  v35 := Tryz.zeroValue172
  t36 := Tryz.underlying173
  a36 := Tryz.isAgg173
  z36 := Tryz.sizeOf173
  v36 := Tryz.zeroValue173
  t41 := Tryz.underlying177
  a41 := Tryz.isAgg177
  z41 := Tryz.sizeOf177
  v41 := Tryz.zeroValue177
  t44 := Tryz.underlying180
  a44 := Tryz.isAgg180
  z44 := Tryz.sizeOf180
  v44 := Tryz.zeroValue180
  t46 := Tryz.underlying96
  a46 := Tryz.isAgg96
  z46 := Tryz.sizeOf96
  v46 := Tryz.zeroValue96
  t53 := Tryz.underlying212
  a53 := Tryz.isAgg212
  z53 := Tryz.sizeOf212
  v53 := Tryz.zeroValue212
  t57 := Tryz.underlying216
  a57 := Tryz.isAgg216
  z57 := Tryz.sizeOf216
  v57 := Tryz.zeroValue216
  t63 := Tryz.underlying248
  a63 := Tryz.isAgg248
  z63 := Tryz.sizeOf248
  v63 := Tryz.zeroValue248
  t64 := Tryz.underlying126
  a64 := Tryz.isAgg126
  z64 := Tryz.sizeOf126
  v64 := Tryz.zeroValue126 }
end Go.Proofs
namespace Go.Proofs.YtcbmbhghmfehpaaGreat
open Go.RowKit Go.Shelf Go.Deep Go.Sort
def sortL (xs : List Int) : List Int := xs.mergeSort fun x y => decide (x ≤ y)
theorem sortL_len (xs : List Int) : (sortL xs).length = xs.length := List.length_mergeSort _
end Go.Proofs.YtcbmbhghmfehpaaGreat
namespace Go.Proofs.YtcbmbhghmfehpaaGreat
open Go.RowKit Go.Deep
end Go.Proofs.YtcbmbhghmfehpaaGreat
namespace Go.Proofs.YtcbmbhghmfehpaaGreat
/-- A leaf below node i has the number b. -/
def Under (t : Tre) (num : ByteArray → Nat) (i b : Nat) : Prop := ∃ j, j < t.ps.length ∧ (gs t.ns j).size ≠ 0 ∧ hitB t.ps i j = true ∧ num (gs t.ns j) = b
structure OwnInv (t : Tre) (num : ByteArray → Nat) (k : Nat) (o : List Nat) : Prop where
  len : o.length = t.ps.length
  up : ∀ i, k ≤ i → i < t.ps.length → ∀ b, (gn o i).testBit b = true ↔ Under t num i b
  down : ∀ i, i < k → i < t.ps.length → ∀ b, (gn o i).testBit b = true ↔ ∃ c, k ≤ c ∧ c < t.ps.length ∧ gi t.ps c = (i : Int) ∧ Under t num c b
section
variable {names : List ByteArray} {l : List Grp}
theorem lvs_count (ns : List ByteArray) : (leavesL ns).length = (fltN ns).length := by
  unfold leavesL
  rw [List.length_map]
  have h : ∀ k, k ≤ ns.length → ((List.range k).filter fun i => (gs ns i).size ≠ 0).length = (fltN (ns.take k)).length := by
    intro k
    induction k with
    | zero => intro _; rfl
    | succ k ih =>
      intro hk
      have hg : gs ns k = ns[k] := by simp [gs, show k < ns.length by omega]
      rw [List.range_succ, List.filter_append, List.length_append, ih (by omega), List.take_succ_eq_append_getElem (show k < ns.length by omega), fltN_app, List.length_append, ← hg]
      congr 1
      unfold fltN
      by_cases e : (gs ns k).size ≠ 0
      · rw [List.filter_cons_of_pos (by simpa using e), List.filter_cons_of_pos (by simpa using e)]; rfl
      · rw [List.filter_cons_of_neg (by simpa using e), List.filter_cons_of_neg (by simpa using e)]; rfl
  have := h ns.length (Nat.le_refl _)
  rw [List.take_length] at this
  exact this
end
end Go.Proofs.YtcbmbhghmfehpaaGreat
namespace Go.Proofs.YtcbmbhghmfehpaaGreat
open Go.RowKit Go.Deep
end Go.Proofs.YtcbmbhghmfehpaaGreat
namespace Go.Proofs.YtcbmbhghmfehpaaGreat
open Go.RowKit Go.Deep
end Go.Proofs.YtcbmbhghmfehpaaGreat
namespace Go.Proofs.YtcbmbhghmfehpaaGreat
open Go.RowKit Go.Deep
end Go.Proofs.YtcbmbhghmfehpaaGreat
namespace Go.Proofs.YtcbmbhghmfehpaaGreat
open Go.RowKit Go.Deep
def gt31B (t : Tre) (n : Nat) : Bool := (decide (n < t.ps.length) && decide (t.ps.length ≤ 64)) || decide (66 < t.ps.length) || decide (t.ps.length + 2 < t.ns.length) || (List.range t.ns.length).any fun k => decide (20 < (gs t.ns k).size)
set_option maxRecDepth 100000 in
set_option maxHeartbeats 2000000 in
theorem great31_t (S : Nat → Prop) (w : World) (v : Value) (t : Tre) (n : Nat) (hT : TreeAt S w v t) (hp : t.ps.length ≤ 9223372036854775807) (hn : t.ns.length ≤ 9223372036854775807) (hz : ∀ k, (gs t.ns k).size ≤ 9223372036854775807) :
    Calls Tryz.prog 107 #[v, .int .i64 n] w fun e w' => e = .returned (.bool (gt31B t n)) ∧ Below w.heap.size w w' := by
  obtain ⟨P, N, rfl, hP, hN⟩ := hT
  have hu := Up.alloc w (.cells #[P, N] 45)
  have HU := Lib.hid hu
  have HN := Lib.hid (StrsAt.keep hN (hu.kept S))
  obtain ⟨pp, pc, rfl, _, _⟩ := SlAt.open hP
  obtain ⟨np, nc, rfl, _, _⟩ := SlAt.open hN
  have HB0 := Lib.hid (box2_0 w (.slice pp t.ps.length pc) (.slice np t.ns.length nc) 45)
  have HB1 := Lib.hid (box2_1 w (.slice pp t.ps.length pc) (.slice np t.ns.length nc) 45)
  have hc0 := HB0.out
  have hc1 := HB1.out
  have HZ := Lib.hid hz
  have HE : Hid (gt31B t n = ((decide (n < t.ps.length) && decide (t.ps.length ≤ 64)) || decide (66 < t.ps.length) || decide (t.ps.length + 2 < t.ns.length) || (List.range t.ns.length).any fun k => decide (20 < (gs t.ns k).size))) := rfl
  clear hu hP hN hz
  generalize gt31B t n = r at *
  obtain ⟨ps, ns⟩ := t
  simp only at *
  generalize ps.length = m at *
  go_enter Tryz.func107, Tryz.ntmps107
  go_wp2_with fail
  all_goals generalize w.alloc (.cells #[.slice pp m pc, .slice np ns.length nc] 45) = w1 at *
  all_goals try (go_ret; exact ⟨ret_bool (by rw [HE.out]; clear HE; symm; simp; omega), HU.out⟩)
  all_goals have HT : Hid (∀ k, k < ns.length → decide (20 < (gs ns k).size) = true → r = true) := fun k hk hb => by rw [HE.out, any_at (p := fun k => decide (20 < (gs ns k).size)) hk hb]; simp
  all_goals have HF : Hid ((∀ k, k < ns.length → decide (20 < (gs ns k).size) = false) → r = false) := fun hb => by rw [HE.out, any_none (p := fun k => decide (20 < (gs ns k).size)) hb]; clear HE; simp; omega
  all_goals clear HE
  all_goals go_loop [5] (fun i => ∃ k : Nat, k ≤ ns.length ∧ i = .int .i64 k ∧ Hid (∀ j, j < k → decide (20 < (gs ns j).size) = false)) (fun i => ns.length - (intOf i).toNat)
  case atStart => exact ⟨0, Nat.zero_le _, rfl, fun j hj => absurd hj (Nat.not_lt_zero _)⟩
  case atStart => exact ⟨0, Nat.zero_le _, rfl, fun j hj => absurd hj (Nat.not_lt_zero _)⟩
  all_goals
    obtain ⟨k, hk, rfl, hd⟩ := hrel
    by_cases hlt : k < ns.length
    · obtain ⟨b, off, rfl, hc⟩ := strs_get HN.out hlt
      have i1 : (0 : Int) ≤ (k : Int) := by omega
      have i2 : (k : Int) < (ns.length : Int) := by omega
      have hzk := HZ.out k
      have HTK := Lib.hid (HT.out k hlt)
      have HDK : Hid (decide (20 < (gs ns k).size) = false → ∀ j, j < k + 1 → decide (20 < (gs ns j).size) = false) := fun hx j hj => if e : j = k then by subst e; exact hx else hd.out j (by omega)
      generalize gs ns k = y at *
      by_cases h1 : 20 < y.size
      · have e0 : decide ((20 : Int) < (y.size : Int)) = true := by simp; omega
        have HQ := Lib.hid (HTK.out (by simpa using h1))
        clear h1
        go_wp2_with fail
        go_ret
        exact ⟨ret_bool HQ.out.symm, HU.out⟩
      · have e0 : decide ((20 : Int) < (y.size : Int)) = false := by simp; omega
        have HQ := Lib.hid (HDK.out (by simpa using h1))
        clear h1
        go_wp2_with fail
        go_round
        case rel => exact ⟨k + 1, by omega, by go_num, HQ.out⟩
        case measure => simp [intOf]; omega
    · obtain rfl : k = ns.length := by omega
      have HQ := Lib.hid (HF.out hd.out)
      clear hlt hk
      go_wp2_with fail
      go_ret
      exact ⟨ret_bool HQ.out.symm, HU.out⟩
end Go.Proofs.YtcbmbhghmfehpaaGreat
namespace Go.Proofs.YtcbmbhghmfehpaaGreat
def setBad (l : List Int) (i : Nat) : Int := if gi l i < 0 ∨ 63 < gi l i then 2 else if 0 < i ∧ gi l i ≤ gi l (i - 1) then 10 else 0
def setErr (l : List Int) : Int := firstNZ (setBad l) l.length
/-- A set: ascending, from 0 to 63. -/
structure SetOk (l : List Int) : Prop where
  asc : l.Pairwise (· < ·)
  bd : ∀ x ∈ l, 0 ≤ x ∧ x ≤ 63
theorem pair_of_next {l : List Int} (h : ∀ i, i + 1 < l.length → gi l i < gi l (i + 1)) : l.Pairwise (· < ·) := by
  have key : ∀ d i, i + d + 1 < l.length → gi l i < gi l (i + d + 1) := by
    intro d
    induction d with
    | zero => intro i hi; exact h i hi
    | succ d ih =>
      intro i hi
      have h1 := ih i (by omega)
      have h2 := h (i + d + 1) (by omega)
      rw [show i + (d + 1) + 1 = i + d + 1 + 1 by omega]
      omega
  refine List.pairwise_iff_getElem.2 fun i j hi hj hij => ?_
  have h1 := key (j - i - 1) i (by omega)
  rw [show i + (j - i - 1) + 1 = j by omega] at h1
  simpa [gi, hi, hj] using h1
theorem pair_lt {l : List Int} (h : l.Pairwise (· < ·)) {i j : Nat} (hij : i < j) (hj : j < l.length) : gi l i < gi l j := by
  have := List.pairwise_iff_getElem.1 h i j (by omega) hj hij
  simpa [gi, hj, show i < l.length by omega] using this
theorem gi_in {l : List Int} {k : Nat} (h : k < l.length) : gi l k ∈ l := by simp [gi, h]
theorem in_gi {l : List Int} {x : Int} (h : x ∈ l) : ∃ k, k < l.length ∧ gi l k = x := by
  obtain ⟨k, hk, e⟩ := List.mem_iff_getElem.1 h
  exact ⟨k, hk, by simp [gi, hk, e]⟩
theorem setErr_zero {l : List Int} : setErr l = 0 ↔ SetOk l := by
  constructor
  · intro h
    have hb := firstNZ_eq_zero h
    refine ⟨pair_of_next fun i hi => ?_, fun x hx => ?_⟩
    · have := hb (i + 1) hi
      unfold setBad at this
      split at this
      · cases this
      · split at this
        · cases this
        · rename_i h2
          rw [Nat.add_sub_cancel] at h2
          omega
    · obtain ⟨k, hk, e⟩ := in_gi hx
      have := hb k hk
      unfold setBad at this
      split at this
      · cases this
      · omega
  · intro h
    refine firstNZ_zero fun j hj => ?_
    have hb := h.bd _ (gi_in hj)
    unfold setBad
    rw [if_neg (by omega), if_neg]
    rintro ⟨h1, h2⟩
    have := pair_lt h.asc (i := j - 1) (j := j) (by omega) hj
    omega
/-- Why s is no split of n leaves. -/
def splErr (n : Int) (s : List Int) : Int :=
  if n < 1 ∨ 32 < n then 2 else if setErr s ≠ 0 then setErr s else if 0 < s.length ∧ (gi s 0 = 0 ∨ n ≤ gi s (s.length - 1)) then 2 else if (s.length : Int) < 2 ∨ n - 2 < s.length then 8 else 0
structure SplOk (n : Int) (s : List Int) : Prop where
  n1 : 1 ≤ n ∧ n ≤ 32
  set : SetOk s
  bd : ∀ x ∈ s, 1 ≤ x ∧ x < n
  len : 2 ≤ s.length ∧ (s.length : Int) ≤ n - 2
theorem set_last {s : List Int} (h : SetOk s) {x : Int} (hx : x ∈ s) : gi s 0 ≤ x ∧ x ≤ gi s (s.length - 1) := by
  obtain ⟨k, hk, rfl⟩ := in_gi hx
  constructor
  · by_cases e : k = 0
    · subst e; exact Int.le_refl _
    · exact Int.le_of_lt (pair_lt h.asc (by omega) hk)
  · by_cases e : k = s.length - 1
    · subst e; exact Int.le_refl _
    · exact Int.le_of_lt (pair_lt h.asc (by omega) (by omega))
theorem splErr_zero {n : Int} {s : List Int} : splErr n s = 0 ↔ SplOk n s := by
  constructor
  · intro h
    unfold splErr at h
    split at h
    · cases h
    · split at h
      · rename_i h2; exact absurd h h2
      · rename_i h2
        have hs := setErr_zero.1 (Classical.not_not.1 h2)
        split at h
        · cases h
        · rename_i h3
          split at h
          · cases h
          · refine ⟨by omega, hs, fun x hx => ?_, by omega⟩
            have h4 := set_last hs hx
            have h5 := hs.bd x hx
            have h6 : 0 < s.length := List.length_pos_of_mem hx
            have h7 := hs.bd _ (gi_in h6)
            omega
  · intro h
    have h1 := h.n1
    have h2 := h.len
    unfold splErr
    rw [if_neg (by omega), if_neg (fun e => e (setErr_zero.2 h.set)), if_neg, if_neg (by omega)]
    rintro ⟨h3, h4⟩
    have h5 := h.bd _ (gi_in h3)
    have h6 := h.bd _ (gi_in (l := s) (k := s.length - 1) (by omega))
    omega
/-- The numbers below n for which p holds. -/
def memK (p : Int → Bool) (n : Nat) : List Int := ((List.range n).map fun (i : Nat) => (i : Int)).filter p
theorem memK_succ (p : Int → Bool) (n : Nat) : memK p (n + 1) = memK p n ++ if p n = true then [(n : Int)] else [] := by
  unfold memK
  rw [List.range_succ, List.map_append, List.filter_append]
  congr 1
  simp only [List.map_cons, List.map_nil, List.filter_cons, List.filter_nil]
theorem memK_len (p : Int → Bool) (n : Nat) : (memK p n).length ≤ n := by
  unfold memK; exact Nat.le_trans (List.length_filter_le _ _) (by simp)
theorem mem_memK {p : Int → Bool} {n : Nat} {x : Int} : x ∈ memK p n ↔ 0 ≤ x ∧ x < n ∧ p x = true := by
  unfold memK
  rw [List.mem_filter, List.mem_map]
  constructor
  · rintro ⟨⟨i, hi, rfl⟩, h2⟩
    have := List.mem_range.1 hi
    exact ⟨by omega, by omega, h2⟩
  · rintro ⟨h0, h1, h2⟩
    obtain ⟨i, rfl⟩ := Int.eq_ofNat_of_zero_le h0
    exact ⟨⟨i, List.mem_range.2 (by omega), rfl⟩, h2⟩
theorem memK_asc (p : Int → Bool) (n : Nat) : (memK p n).Pairwise (· < ·) := by
  refine List.Pairwise.filter _ ?_
  rw [List.pairwise_map]
  exact List.pairwise_lt_range.imp fun h => by omega
theorem asc_ext {a b : List Int} (ha : a.Pairwise (· < ·)) (hb : b.Pairwise (· < ·)) (h : ∀ x, x ∈ a ↔ x ∈ b) : a = b := by
  induction a generalizing b with
  | nil =>
    cases b with
    | nil => rfl
    | cons y b => exact absurd ((h y).2 (by simp)) (by simp)
  | cons x a ih =>
    cases b with
    | nil => exact absurd ((h x).1 (by simp)) (by simp)
    | cons y b =>
      rw [List.pairwise_cons] at ha hb
      have e : x = y := by
        have h1 := (h x).1 (by simp)
        have h2 := (h y).2 (by simp)
        rw [List.mem_cons] at h1 h2
        rcases h1 with h1 | h1
        · exact h1
        · rcases h2 with h2 | h2
          · exact h2.symm
          · have := ha.1 y h2; have := hb.1 x h1; omega
      subst e
      congr 1
      refine ih ha.2 hb.2 fun z => ?_
      constructor
      · intro hz
        have h1 := (h z).1 (by simp [hz])
        rw [List.mem_cons] at h1
        rcases h1 with rfl | h1
        · have := ha.1 _ hz; omega
        · exact h1
      · intro hz
        have h1 := (h z).2 (by simp [hz])
        rw [List.mem_cons] at h1
        rcases h1 with rfl | h1
        · have := hb.1 _ hz; omega
        · exact h1
def interL (a b : List Int) : List Int := memK (fun x => a.contains x && b.contains x) 64
def complL (n : Int) (a : List Int) : List Int := memK (fun x => !a.contains x) n.toNat
theorem mem_interL {a b : List Int} (ha : SetOk a) {x : Int} : x ∈ interL a b ↔ x ∈ a ∧ x ∈ b := by
  unfold interL
  rw [mem_memK]
  simp only [Bool.and_eq_true, List.contains_iff_mem]
  exact ⟨fun h => h.2.2, fun h => by have := ha.bd x h.1; exact ⟨by omega, by omega, h⟩⟩
theorem mem_complL {n : Int} {a : List Int} {x : Int} : x ∈ complL n a ↔ 0 ≤ x ∧ x < n ∧ x ∉ a := by
  unfold complL
  rw [mem_memK]
  constructor
  · rintro ⟨h1, h2, h3⟩
    exact ⟨h1, by omega, fun h => by rw [List.contains_iff_mem.2 h] at h3; cases h3⟩
  · rintro ⟨h1, h2, h3⟩
    refine ⟨h1, by omega, ?_⟩
    cases e : a.contains x with
    | false => rfl
    | true => exact absurd (List.contains_iff_mem.1 e) h3
theorem set_nodup {a : List Int} (h : a.Pairwise (· < ·)) : a.Nodup := h.imp fun h e => by omega
theorem asc_filter {a b : List Int} (ha : a.Pairwise (· < ·)) (hb : b.Pairwise (· < ·)) (h : ∀ x ∈ a, x ∈ b) : b.filter (fun x => a.contains x) = a :=
  asc_ext (hb.filter _) ha fun x => by
    rw [List.mem_filter, List.contains_iff_mem]
    exact ⟨fun e => e.2, fun e => ⟨h x e, e⟩⟩
theorem asc_sub_len {a b : List Int} (ha : a.Pairwise (· < ·)) (hb : b.Pairwise (· < ·)) (h : ∀ x ∈ a, x ∈ b) : a.length ≤ b.length := by
  rw [← asc_filter ha hb h]; exact List.length_filter_le _ _
theorem asc_sub_eq {a b : List Int} (ha : a.Pairwise (· < ·)) (hb : b.Pairwise (· < ·)) (h : ∀ x ∈ a, x ∈ b) (hl : a.length = b.length) : ∀ x ∈ b, x ∈ a := by
  have h1 := asc_filter ha hb h
  have h2 : (b.filter (fun x => a.contains x)).length = b.length := by rw [h1, hl]
  exact fun x hx => List.contains_iff_mem.1 (List.length_filter_eq_length_iff.1 h2 x hx)
/-- Are two splits compatible? -/
def compB (a b : List Int) : Bool := decide ((interL a b).length = 0) || decide ((interL a b).length = a.length) || decide ((interL a b).length = b.length)
theorem interL_asc (a b : List Int) : (interL a b).Pairwise (· < ·) := memK_asc _ _
theorem compB_iff {a b : List Int} (ha : SetOk a) (hb : SetOk b) : compB a b = true ↔ (∀ x ∈ a, x ∉ b) ∨ (∀ x ∈ a, x ∈ b) ∨ (∀ x ∈ b, x ∈ a) := by
  unfold compB
  simp only [Bool.or_eq_true, decide_eq_true_eq]
  have e0 : (interL a b).length = 0 ↔ ∀ x ∈ a, x ∉ b := by
    rw [List.length_eq_zero_iff]
    constructor
    · intro h x h1 h2
      have := (mem_interL ha).2 ⟨h1, h2⟩
      rw [h] at this; cases this
    · intro h
      refine List.eq_nil_iff_forall_not_mem.2 fun x hx => ?_
      obtain ⟨h1, h2⟩ := (mem_interL ha).1 hx
      exact h x h1 h2
  have e1 : (interL a b).length = a.length ↔ ∀ x ∈ a, x ∈ b := by
    constructor
    · intro h x hx
      exact ((mem_interL ha).1 (asc_sub_eq (interL_asc a b) ha.asc (fun y hy => ((mem_interL ha).1 hy).1) h x hx)).2
    · intro h
      have h1 := asc_sub_len (interL_asc a b) ha.asc (b := a) fun y hy => ((mem_interL ha).1 hy).1
      have h2 := asc_sub_len ha.asc (interL_asc a b) fun y hy => (mem_interL ha).2 ⟨hy, h y hy⟩
      omega
  have e2 : (interL a b).length = b.length ↔ ∀ x ∈ b, x ∈ a := by
    constructor
    · intro h x hx
      exact ((mem_interL ha).1 (asc_sub_eq (interL_asc a b) hb.asc (fun y hy => ((mem_interL ha).1 hy).2) h x hx)).1
    · intro h
      have h1 := asc_sub_len (interL_asc a b) hb.asc fun y hy => ((mem_interL ha).1 hy).2
      have h2 := asc_sub_len hb.asc (interL_asc a b) fun y hy => (mem_interL ha).2 ⟨h y hy, hy⟩
      omega
  rw [e0, e1, e2, or_assoc]
/-- The first pair that is not compatible. -/
def rowPair (l : List (List Int)) (i : Nat) : Int := firstIx (fun k => decide (i < k) && !compB (gl l i) (gl l k)) l.length
def pairI (l : List (List Int)) : Int := firstIx (fun i => decide (0 ≤ rowPair l i)) l.length
def pairK (l : List (List Int)) : Int := rowPair l (pairI l).toNat
end Go.Proofs.YtcbmbhghmfehpaaGreat
namespace Go.Proofs.YtcbmbhghmfehpaaGreat
/-- How two lists of numbers compare. -/
def cmpL : List Int → List Int → Int
  | [], [] => 0
  | [], _ :: _ => -1
  | _ :: _, [] => 1
  | a :: a1, b :: bs => if a < b then -1 else if b < a then 1 else cmpL a1 bs
theorem cmpL_self : ∀ a : List Int, cmpL a a = 0
  | [] => rfl
  | a :: a1 => by rw [cmpL, if_neg (by omega), if_neg (by omega)]; exact cmpL_self a1
theorem cmpL_zero : ∀ {a b : List Int}, cmpL a b = 0 → a = b
  | [], [], _ => rfl
  | [], _ :: _, h => by rw [cmpL] at h; omega
  | _ :: _, [], h => by rw [cmpL] at h; omega
  | a :: a1, b :: bs, h => by
    rw [cmpL] at h
    split at h
    · omega
    · split at h
      · omega
      · rw [cmpL_zero h]; congr 1; omega
theorem cmpL_anti : ∀ a b : List Int, cmpL b a = - cmpL a b
  | [], [] => rfl
  | [], _ :: _ => rfl
  | _ :: _, [] => rfl
  | a :: a1, b :: bs => by
    rw [cmpL, cmpL]
    by_cases h1 : a < b
    · simp only [if_pos h1, if_neg (show ¬ b < a by omega)]; rfl
    · by_cases h2 : b < a
      · simp only [if_pos h2, if_neg h1]
      · rw [if_neg h1, if_neg h2, if_neg h2, if_neg h1]; exact cmpL_anti a1 bs
theorem cmpL_trans : ∀ {a b c : List Int}, cmpL a b < 0 → cmpL b c < 0 → cmpL a c < 0
  | [], [], c, h, _ => by rw [cmpL] at h; omega
  | [], _ :: _, [], _, h => by rw [cmpL] at h; omega
  | [], _ :: _, _ :: _, _, _ => by rw [cmpL]; omega
  | _ :: _, [], _, h, _ => by rw [cmpL] at h; omega
  | _ :: _, _ :: _, [], _, h => by rw [cmpL] at h; omega
  | a :: a1, b :: bs, c :: cs, h1, h2 => by
    rw [cmpL] at h1 h2 ⊢
    by_cases x1 : a < b
    · by_cases y1 : b < c
      · rw [if_pos (by omega)]; omega
      · rw [if_neg y1] at h2
        by_cases y2 : c < b
        · rw [if_pos y2] at h2; omega
        · rw [if_pos (by omega)]; omega
    · rw [if_neg x1] at h1
      by_cases x2 : b < a
      · rw [if_pos x2] at h1; omega
      · rw [if_neg x2] at h1
        by_cases y1 : b < c
        · rw [if_pos (by omega)]; omega
        · rw [if_neg y1] at h2
          by_cases y2 : c < b
          · rw [if_pos y2] at h2; omega
          · rw [if_neg y2] at h2
            rw [if_neg (by omega), if_neg (by omega)]
            exact cmpL_trans h1 h2
def ltX (a b : List Int) : Prop := cmpL a b < 0
def leX (a b : List Int) : Prop := cmpL a b ≤ 0
theorem leX_trans {a b c : List Int} (h1 : leX a b) (h2 : leX b c) : leX a c := by
  unfold leX at *
  by_cases e1 : cmpL a b = 0
  · rw [cmpL_zero e1]; exact h2
  · by_cases e2 : cmpL b c = 0
    · rw [← cmpL_zero e2]; exact h1
    · have h3 : cmpL a b < 0 := by omega
      have h4 : cmpL b c < 0 := by omega
      exact Int.le_of_lt (cmpL_trans h3 h4)
def insX (a : List Int) : List (List Int) → List (List Int)
  | [] => [a]
  | b :: l => if cmpL a b ≤ 0 then a :: b :: l else b :: insX a l
def sortX : List (List Int) → List (List Int)
  | [] => []
  | a :: l => insX a (sortX l)
theorem insX_perm (a : List Int) : ∀ l : List (List Int), (insX a l).Perm (a :: l)
  | [] => List.Perm.refl _
  | b :: l => by
    rw [insX]
    split
    · exact List.Perm.refl _
    · exact (List.Perm.cons b (insX_perm a l)).trans (List.Perm.swap a b l)
theorem sortX_perm : ∀ l : List (List Int), (sortX l).Perm l
  | [] => List.Perm.refl _
  | a :: l => (insX_perm a _).trans (List.Perm.cons a (sortX_perm l))
theorem insX_sorted (a : List Int) : ∀ {l : List (List Int)}, l.Pairwise leX → (insX a l).Pairwise leX
  | [], _ => by simp [insX]
  | b :: l, h => by
    rw [insX]
    rw [List.pairwise_cons] at h
    split
    · rename_i h1
      refine List.pairwise_cons.2 ⟨fun c hc => ?_, List.pairwise_cons.2 h⟩
      rcases List.mem_cons.1 hc with rfl | hc
      · exact h1
      · exact leX_trans h1 (h.1 c hc)
    · rename_i h1
      refine List.pairwise_cons.2 ⟨fun c hc => ?_, insX_sorted a h.2⟩
      rcases List.mem_cons.1 ((insX_perm a l).mem_iff.1 hc) with rfl | hc
      · unfold leX; have := cmpL_anti c b; omega
      · exact h.1 c hc
theorem sortX_sorted : ∀ l : List (List Int), (sortX l).Pairwise leX
  | [] => List.Pairwise.nil
  | a :: l => insX_sorted a (sortX_sorted l)
theorem sortX_uniq {a b : List (List Int)} (hp : a.Perm b) (h : a.Pairwise leX) : a = sortX b :=
  List.Perm.eq_of_pairwise (le := leX) (fun x y _ _ h1 h2 => cmpL_zero (by unfold leX at h1 h2; have := cmpL_anti x y; omega)) h (sortX_sorted b) (hp.trans (sortX_perm b).symm)
/-- Neighbours that are the same, once. -/
def cptX : List (List Int) → List (List Int)
  | [] => []
  | a :: l => if l.head? = some a then cptX l else a :: cptX l
theorem mem_cptX {x : List Int} : ∀ {l : List (List Int)}, x ∈ cptX l ↔ x ∈ l
  | [] => by rw [cptX]
  | a :: l => by
    rw [cptX]
    split
    · rename_i h
      rw [mem_cptX, List.mem_cons]
      constructor
      · exact .inr
      · rintro (rfl | h1)
        · exact List.mem_of_head? h
        · exact h1
    · rw [List.mem_cons, List.mem_cons, mem_cptX]
theorem cptX_strict : ∀ {l : List (List Int)}, l.Pairwise leX → (cptX l).Pairwise ltX
  | [], _ => List.Pairwise.nil
  | a :: l, h => by
    rw [List.pairwise_cons] at h
    rw [cptX]
    split
    · exact cptX_strict h.2
    · rename_i hne
      refine List.pairwise_cons.2 ⟨fun c hc => ?_, cptX_strict h.2⟩
      have hc := mem_cptX.1 hc
      have h1 := h.1 c hc
      unfold ltX
      unfold leX at h1
      by_cases e : cmpL a c = 0
      · exfalso
        have e := cmpL_zero e
        subst e
        cases l with
        | nil => cases hc
        | cons b l =>
          rw [List.head?_cons] at hne
          have h2 := h.1 b (by simp)
          rcases List.mem_cons.1 hc with rfl | hc
          · exact hne rfl
          · have h3 := (List.pairwise_cons.1 h.2).1 _ hc
            unfold leX at h2 h3
            have := cmpL_anti a b
            exact hne (by rw [cmpL_zero (a := a) (b := b) (by omega)])
      · omega
theorem ltX_ext {a b : List (List Int)} (ha : a.Pairwise ltX) (hb : b.Pairwise ltX) (h : ∀ x, x ∈ a ↔ x ∈ b) : a = b := by
  have nd : ∀ {q : List (List Int)}, q.Pairwise ltX → q.Nodup := fun hq => hq.imp fun {x y} h1 e => by subst e; unfold ltX at h1; rw [cmpL_self] at h1; omega
  have hp : a.Perm b := (List.perm_ext_iff_of_nodup (nd ha) (nd hb)).2 h
  exact List.Perm.eq_of_pairwise (le := ltX) (fun x y _ _ h1 h2 => by unfold ltX at h1 h2; have := cmpL_anti x y; omega) ha hb hp
/-- The list, ordered, each once. -/
def ordX (l : List (List Int)) : List (List Int) := cptX (sortX l)
theorem mem_ordX {x : List Int} {l : List (List Int)} : x ∈ ordX l ↔ x ∈ l := by unfold ordX; rw [mem_cptX]; exact (sortX_perm l).mem_iff
theorem ordX_strict (l : List (List Int)) : (ordX l).Pairwise ltX := cptX_strict (sortX_sorted l)
theorem ordX_congr {a b : List (List Int)} (h : ∀ x, x ∈ a ↔ x ∈ b) : ordX a = ordX b := ltX_ext (ordX_strict a) (ordX_strict b) fun x => by rw [mem_ordX, mem_ordX]; exact h x
end Go.Proofs.YtcbmbhghmfehpaaGreat
