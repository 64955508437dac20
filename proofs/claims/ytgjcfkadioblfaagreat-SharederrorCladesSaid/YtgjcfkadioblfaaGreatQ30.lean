/- The contract of slices.Sort at ints: the laying. slices.Sort at ints that the call has built. The law's leaves. What the sets of Consistent hold; at Tree's tree. -/
import Derived.Shelf.SlGeneric
import Derived.Shelf.SlLaysM
import Derived.Ground.SlgmProg
import Derived.Test.YtgjcfkadioblfaaGreatProg
import Derived.Test.YtgjcfkadioblfaaGreatQ5
import Derived.Test.YtgjcfkadioblfaaGreatQ1
import Derived.Shelf.SortM.Plain
import Derived.Shelf.SortM.SortNone
import Derived.Sort.OwnSortedInts
import Derived.Test.YtgjcfkadioblfaaGreatQ23
import Derived.Test.YtgjcfkadioblfaaGreatQ27
import Derived.Test.YtgjcfkadioblfaaGreatQ28
import Derived.Test.YtgjcfkadioblfaaGreatQ29
namespace Go.Proofs
open Go.Shelf
def Tryz.sortZ_ren : Go.Shelf.Ren := ⟨fun | 5 => 48 | 8 => 99 | 7 => 101 | 19 => 138 | 20 => 139 | 10 => 140 | 11 => 141 | 12 => 142 | 13 => 143 | 14 => 144 | 15 => 145 | 16 => 146 | 17 => 147 | 18 => 148 | 30 => 172 | 31 => 167 | 32 => 168 | 33 => 173 | 34 => 174 | 35 => 175 | 40 => 184 | n => n, fun | 23 => 22 | 25 => 3 | 3 => 3 | 32 => 133 | 22 => 22 | 0 => 0 | 44 => 172 | 46 => 74 | 4 => 4 | 36 => 165 | 35 => 164 | 41 => 89 | 5 => 5 | 9 => 9 | 53 => 193 | 57 => 197 | 63 => 204 | 64 => 205 | n => n, fun | n => n⟩
theorem Tryz.sortZ : Go.Proofs.SlLaysM.n5 Tryz.prog Tryz.sortZ_ren := {
  mixed := by kernel_rfl
  f5 := ⟨Tryz.f48.name, by decide, Tryz.func48.trans (congrArg some (by kernel_rfl))⟩
  f7 := ⟨Tryz.f101.name, by decide, Tryz.func101.trans (congrArg some (by kernel_rfl))⟩
  f8 := Tryz.func99.trans (congrArg some (by kernel_rfl))
  f10 := ⟨Tryz.f140.name, by decide, Tryz.func140.trans (congrArg some (by kernel_rfl))⟩
  f11 := ⟨Tryz.f141.name, by decide, Tryz.func141.trans (congrArg some (by kernel_rfl))⟩
  f12 := ⟨Tryz.f142.name, by decide, Tryz.func142.trans (congrArg some (by kernel_rfl))⟩
  f13 := ⟨Tryz.f143.name, by decide, Tryz.func143.trans (congrArg some (by kernel_rfl))⟩
  f14 := ⟨Tryz.f144.name, by decide, Tryz.func144.trans (congrArg some (by kernel_rfl))⟩
  f15 := ⟨Tryz.f145.name, by decide, Tryz.func145.trans (congrArg some (by kernel_rfl))⟩
  f16 := ⟨Tryz.f146.name, by decide, Tryz.func146.trans (congrArg some (by kernel_rfl))⟩
  f17 := ⟨Tryz.f147.name, by decide, Tryz.func147.trans (congrArg some (by kernel_rfl))⟩
  f18 := ⟨Tryz.f148.name, by decide, Tryz.func148.trans (congrArg some (by kernel_rfl))⟩
  f19 := Tryz.func138.trans (congrArg some (by kernel_rfl))
  f20 := Tryz.func139.trans (congrArg some (by kernel_rfl))
  f30 := ⟨Tryz.f172.name, by decide, Tryz.func172.trans (congrArg some (by kernel_rfl))⟩
  f31 := Tryz.func167.trans (congrArg some (by kernel_rfl))
  f32 := Tryz.func168.trans (congrArg some (by kernel_rfl))
  f33 := ⟨Tryz.f173.name, by decide, Tryz.func173.trans (congrArg some (by kernel_rfl))⟩
  f34 := ⟨Tryz.f174.name, by decide, Tryz.func174.trans (congrArg some (by kernel_rfl))⟩
  f35 := ⟨Tryz.f175.name, by decide, Tryz.func175.trans (congrArg some (by kernel_rfl))⟩
  f40 := ⟨Tryz.f184.name, by decide, Tryz.func184.trans (congrArg some (by kernel_rfl))⟩
  t0 := Tryz.underlying0
  a0 := Tryz.isAgg0
  z0 := Tryz.sizeOf0
  v0 := Tryz.zeroValue0
  t3 := Tryz.underlying3
  a3 := Tryz.isAgg3
  z3 := Tryz.sizeOf3
  v3 := Tryz.zeroValue3
  t4 := Tryz.underlying4
  a4 := Tryz.isAgg4
  z4 := Tryz.sizeOf4
  v4 := Tryz.zeroValue4
  t5 := Tryz.underlying5
  a5 := Tryz.isAgg5
  z5 := Tryz.sizeOf5
  v5 := Tryz.zeroValue5
  t9 := Tryz.underlying9
  a9 := Tryz.isAgg9
  z9 := Tryz.sizeOf9
  v9 := Tryz.zeroValue9
  t22 := Tryz.underlying22
  a22 := Tryz.isAgg22
  z22 := Tryz.sizeOf22
  v22 := Tryz.zeroValue22
  t23 := Tryz.underlying22
  a23 := Tryz.isAgg22
  z23 := Tryz.sizeOf22
  v23 := Tryz.zeroValue22
  t25 := Tryz.underlying3
  a25 := Tryz.isAgg3
  z25 := Tryz.sizeOf3
  v25 := Tryz.zeroValue3
  t32 := Tryz.underlying133
  a32 := Tryz.isAgg133
  z32 := Tryz.sizeOf133
  v32 := Tryz.zeroValue133
  t35 := Tryz.underlying164
  a35 := Tryz.isAgg164
  z35 := Tryz.sizeOf164
  v35 := Tryz.zeroValue164
  t36 := Tryz.underlying165
  a36 := Tryz.isAgg165
  z36 := Tryz.sizeOf165
  v36 := Tryz.zeroValue165
  t41 := Tryz.underlying89
  a41 := Tryz.isAgg89
  z41 := Tryz.sizeOf89
  v41 := Tryz.zeroValue89
  t44 := Tryz.underlying172
  a44 := Tryz.isAgg172
  z44 := Tryz.sizeOf172
  v44 := Tryz.zeroValue172
  t46 := Tryz.underlying74
  a46 := Tryz.isAgg74
  z46 := Tryz.sizeOf74
  v46 := Tryz.zeroValue74
  t53 := Tryz.underlying193
  a53 := Tryz.isAgg193
  z53 := Tryz.sizeOf193
  v53 := Tryz.zeroValue193
  t57 := Tryz.underlying197
  a57 := Tryz.isAgg197
  z57 := Tryz.sizeOf197
  v57 := Tryz.zeroValue197
  t63 := Tryz.underlying204
  a63 := Tryz.isAgg204
  z63 := Tryz.sizeOf204
  v63 := Tryz.zeroValue204
  t64 := Tryz.underlying205
  a64 := Tryz.isAgg205
  z64 := Tryz.sizeOf205
  v64 := Tryz.zeroValue205 }
end Go.Proofs
namespace Go.Proofs.YtgjcfkadioblfaaGreat
open Go.RowKit Go.Shelf Go.Deep Go.Sort
def sortL (xs : List Int) : List Int := xs.mergeSort fun x y => decide (x ≤ y)
theorem sortL_len (xs : List Int) : (sortL xs).length = xs.length := List.length_mergeSort _
set_option maxRecDepth 100000 in
theorem sort_t (w w1 : World) (v : Value) (xs : List Int) (hu : Up w w1) (ho : Owns w.heap.size 3 w1 v (xs.map (Value.int .i64))) (hlen : xs.length ≤ 1000000) :
    Calls Tryz.prog 48 #[v] w1 fun e w' => e = .returned (.tuple #[]) ∧ Up w w' ∧ Owns w.heap.size 3 w' v ((sortL xs).map (Value.int .i64)) := by
  rcases ho.2 with ⟨rfl, h0⟩ | ⟨g, cap, cur, rfl, hg, hc, hn, hcm, hcs, ht⟩
  · have hx : xs = [] := by cases xs with | nil => rfl | cons _ _ => simp at h0
    subst hx
    refine (AnyM.slices_Sort_int_none Tryz.sortZ none 0 w1).mono ?_
    rintro e w' ⟨rfl, rfl⟩
    exact ⟨rfl, hu, by unfold sortL; simpa using ho⟩
  · simp only [List.length_map] at hn ht ho ⊢
    refine (AnyM.slices_Sort_int Tryz.sortZ g 0 cap xs w1 (holds_of_blockI hc (by simpa using ht)) (Array.getElem?_eq_some_iff.1 hc).1 (by omega)).mono ?_
    rintro e w' ⟨rfl, n, os, rfl⟩
    refine ⟨rfl, Below.grown hu (grownBy_sortedI _) hu.size (fun j hj => by cases hj; exact hg), ?_⟩
    have h := ownsRow_sortedI (n := n) (os := os) (ss := xs) (ts := sortL xs) (sortL_len xs) hg hc hn hcm (by simpa using hcs)
    unfold Owns
    rw [List.length_map, sortL_len]
    exact h
end Go.Proofs.YtgjcfkadioblfaaGreat
namespace Go.Proofs.YtgjcfkadioblfaaGreat
open Go.RowKit Go.Deep
def lvL (t : Tre) (n : Nat) : List Int := sortL (lvK t n (t.ps.length - n))
theorem lvNum_at (s : ByteArray) (h : 0 < s.size) : lvNum s = (((s[0]'h).toNat : Int) - 65) % 256 := by
  unfold lvNum
  have h1 : s.data.toList.getD 0 0 = s[0]'h := by
    have h2 : 0 < s.data.toList.length := by simpa using h
    rw [List.getD_eq_getElem?_getD, List.getElem?_eq_getElem h2]; rfl
  rw [h1]
  simp [IntKind.wrap_u8]
def LwPost (w : World) (t : Tre) (n : Nat) (e : Ending) (w' : World) : Prop := Up w w' ∧ ∃ v, e = .returned v ∧ Owns w.heap.size 3 w' v ((lvL t n).map (Value.int .i64))
set_option maxRecDepth 100000 in
set_option maxHeartbeats 2000000 in
theorem lvs_t (S : Nat → Prop) (w : World) (v : Value) (t : Tre) (n : Nat) (h : TreeAt S w v t) (hp : pOkB t.ps = true) (hl : t.ns.length = t.ps.length) (hn : n ≤ t.ps.length) (hz : t.ps.length ≤ 1000000) (hs : ∀ k, (gs t.ns k).size ≤ 70000) :
    Calls Tryz.prog 41 #[v, .int .i64 n] w (LwPost w t n) := by
  obtain ⟨P, N, rfl, hP, hN⟩ := h
  obtain ⟨pp, pc, rfl, _, _⟩ := SlAt.open hP
  obtain ⟨np, nc, rfl, _, _⟩ := SlAt.open hN
  have hP : IntsAt S w (.slice pp t.ps.length pc) t.ps := hP
  have hN : StrsAt S w (.slice np t.ns.length nc) t.ns := hN
  have hu := Up.alloc w (.cells #[.slice pp t.ps.length pc, .slice np t.ns.length nc] 25)
  have a0 := box2_0 w (.slice pp t.ps.length pc) (.slice np t.ns.length nc) 25
  have a1 := box2_1 w (.slice pp t.ps.length pc) (.slice np t.ns.length nc) 25
  have HP := Lib.hid (IntsAt.keep hP (hu.kept S))
  have HN := Lib.hid (StrsAt.keep hN (hu.kept S))
  have HU := Lib.hid hu
  have A0 := Lib.hid a0
  have A1 := Lib.hid a1
  have HNL := Lib.hid hl
  have HPO := Lib.hid hp
  have HSZ := Lib.hid hs
  have i0 : (0 : Int) ≤ (n : Int) := by omega
  clear hP hN hu hl hp hs
  go_enter Tryz.func41, Tryz.ntmps41
  go_wp2_with fail
  clear a0 a1
  generalize w.alloc (.cells #[.slice pp t.ps.length pc, .slice np t.ns.length nc] 25) = w1 at *
  go_loopw [5, 6, 7] (fun d i _ wr => ∃ m : Nat, n + m ≤ t.ps.length ∧ i = .int .i64 (n + m : Nat) ∧ Hid (Owns w1.heap.size 3 wr d ((lvK t n m).map (Value.int .i64))) ∧ Hid (Up w1 wr)) (fun _ i _ _ => t.ps.length - (intOf i).toNat)
  case atStart => exact ⟨0, by omega, rfl, Owns.nil _ _ _, Up.refl _⟩
  case round =>
    obtain ⟨m, hm, rfl, hD, hUr⟩ := hrel
    obtain ⟨wo, rfl⟩ : ∃ wo : World, wo = wr := ⟨_, rfl⟩
    obtain ⟨d, rfl⟩ : ∃ d : Value, d = u5 := ⟨_, rfl⟩
    have a0 := hUr.out.cell A0.out
    have a1 := hUr.out.cell A1.out
    by_cases hlt : n + m < t.ps.length
    · obtain ⟨i, hi⟩ : ∃ i, i = n + m := ⟨_, rfl⟩
      have hK : lvK t n (m + 1) = lvK t n m ++ lvOne t n i := by rw [lvK, hi]
      rw [← hi] at hlt ⊢
      have j1 : (0 : Int) ≤ (i : Int) := by omega
      have j2 : (i : Int) < (t.ps.length : Int) := by omega
      have HK := Lib.hid hK
      have HI := Lib.hid hi
      have HLT := Lib.hid hlt
      have HUW := Lib.hid hUr.out
      have HDW := Lib.hid hD.out
      have HLEN := Lib.hid (lvK_len t n m)
      clear hK hi hm hlt hUr hD a1
      go_wp2_with fail
      go_loop [7] (fun q => ∃ k : Nat, k ≤ i ∧ q = .int .i64 k ∧ Hid (climb t.ps n k k = climb t.ps n i i)) (fun q => (intOf q).toNat)
      case atStart => exact ⟨i, Nat.le_refl _, rfl, rfl⟩
      case round =>
        obtain ⟨k, hk, rfl, hc⟩ := hrel
        by_cases hnk : n < k
        · have hkl : k < t.ps.length := by have := HLT.out; omega
          have hpar := pOkB_par HPO.out hkl (by omega)
          have hst := climb_step HPO.out hkl hnk
          obtain ⟨b, off, rfl, hcell⟩ := ints_get (IntsAt.keep HP.out (HUW.out.kept S)) hkl
          have d1 : decide ((n : Int) < (k : Int)) = true := by simp; omega
          have d2 : decide ((k : Int) < (t.ps.length : Int)) = true := by simp; omega
          have j3 : (0 : Int) ≤ (k : Int) := by omega
          have j4 : (k : Int) < (t.ps.length : Int) := by omega
          obtain ⟨p, hp⟩ : ∃ p : Nat, gi t.ps k = p := ⟨(gi t.ps k).toNat, (Int.toNat_of_nonneg hpar.1).symm⟩
          rw [hp] at hcell hpar hst
          have HST : Hid (climb t.ps n p p = climb t.ps n i i) := by unfold Hid; rw [← hc.out, hst]; rfl
          have hpk : p < k := by omega
          clear hpar hst hp hc
          go_wp2_with fail
          go_round
          case rel => exact ⟨p, by omega, rfl, HST⟩
          case measure => simp [intOf]; omega
        · have d1 : decide ((n : Int) < (k : Int)) = false := by simp; omega
          have hck := hc.out
          rw [climb_stop hnk] at hck
          have HCK := Lib.hid hck
          have hsl : i < t.ns.length := by rw [HNL.out]; exact HLT.out
          obtain ⟨b, off, rfl, hcell⟩ := strs_get (StrsAt.keep HN.out (HUW.out.kept S)) hsl
          have a1 := HUW.out.cell A1.out
          have j3 : (i : Int) < (t.ns.length : Int) := by omega
          have hLO : lvOne t n i = if (decide (k = n) && decide ((gs t.ns i).size = 1)) = true then [lvNum (gs t.ns i)] else [] := by unfold lvOne hitB; rw [← hck]
          have HLO := Lib.hid hLO
          clear hc hck hLO
          have hll : ((lvK t n m).map (Value.int .i64)).length = (lvK t n m).length := List.length_map _
          have hl6 : (lvK t n m).length ≤ 1000000 := by have := HLEN.out; have := HLT.out; have := HI.out; omega
          have hwz := HUW.out.size
          have HLL := Lib.hid hll
          have HL6 := Lib.hid hl6
          clear hll hl6
          by_cases e1 : k = n
          · have d3 : ((k : Int) == (n : Int)) = true := by simp [e1]
            have HE := Lib.hid e1
            clear e1
            generalize gs t.ns i = s at *
            by_cases e2 : s.size = 1
            · have d4 : ((s.size : Int) == 1) = true := by simp [e2]
              have HN1 : Hid (lvK t n (m + 1) = lvK t n m ++ [lvNum s]) := by unfold Hid; rw [HK.out, HLO.out, HE.out, e2]; simp
              have hs0 : 0 < s.size := by omega
              have HLN := Lib.hid (lvNum_at s hs0)
              go_wp2_with (at_builtin; refine wpList_appM wo rfl _ _ 22 rfl w1.heap.size 3 (.int .i64 0) 8 Tryz.underlying22 Tryz.infoI rfl (by decide) HDW.out rfl (.int .i64 (((s[0]'hs0).toNat - 65) % 256)) _ rfl rfl rfl _ HLL.out HL6.out hwz ?_; intro g8 cap8 w8 hown1 hgr1 hbe1)
              go_roundw
              case rel => exact ⟨m + 1, by have := HLT.out; have := HI.out; omega, by have := HI.out; go_num, by unfold Hid; rw [HN1.out, List.map_append, List.map_cons, List.map_nil, HLN.out]; exact hown1, Below.trans HUW.out hbe1⟩
              case measure => have := HLT.out; simp [intOf]; omega
            · have d4 : ((s.size : Int) == 1) = false := by simp; omega
              have HN1 : Hid (lvK t n (m + 1) = lvK t n m) := by unfold Hid; rw [HK.out, HLO.out]; simp [e2]
              go_wp2_with fail
              go_roundw
              case rel => exact ⟨m + 1, by have := HLT.out; have := HI.out; omega, by have := HI.out; go_num, by unfold Hid; rw [HN1.out]; exact HDW.out, HUW.out⟩
              case measure => have := HLT.out; simp [intOf]; omega
          · have d3 : ((k : Int) == (n : Int)) = false := by simp; omega
            have HN1 : Hid (lvK t n (m + 1) = lvK t n m) := by unfold Hid; rw [HK.out, HLO.out]; simp [e1]
            clear e1
            go_wp2_with fail
            go_roundw
            case rel => exact ⟨m + 1, by have := HLT.out; have := HI.out; omega, by have := HI.out; go_num, by unfold Hid; rw [HN1.out]; exact HDW.out, HUW.out⟩
            case measure => have := HLT.out; simp [intOf]; omega
    · have hmn : n + m = t.ps.length := by omega
      have hLL : lvL t n = sortL (lvK t n m) := by unfold lvL; rw [show t.ps.length - n = m by omega]
      have HSO := Lib.hid (sort_t w1 wo d _ hUr.out hD.out (by have := lvK_len t n m; omega))
      rw [← hLL] at HSO
      clear hD hUr a1 hLL
      go_wp2_with fail
      refine HSO.out.mono ?_
      rintro e w9 ⟨rfl, hu9, ho9⟩
      have HU9 := Lib.hid hu9
      have HO9 := Lib.hid ho9
      clear hu9 ho9 HSO
      go_wp2_with fail
      go_ret
      exact ⟨HU.out.trans HU9.out, _, rfl, HO9.out.mono_base HU.out.size⟩
end Go.Proofs.YtgjcfkadioblfaaGreat
namespace Go.Proofs.YtgjcfkadioblfaaGreat
/-- A leaf below node i has the number b. -/
def Under (t : Tre) (num : ByteArray → Nat) (i b : Nat) : Prop := ∃ j, j < t.ps.length ∧ (gs t.ns j).size ≠ 0 ∧ hitB t.ps i j = true ∧ num (gs t.ns j) = b
theorem under_step {t : Tre} (hp : pOkB t.ps = true) (num : ByteArray → Nat) {i b : Nat} (hi : i < t.ps.length) :
    Under t num i b ↔ ((gs t.ns i).size ≠ 0 ∧ num (gs t.ns i) = b) ∨ ∃ c, c < t.ps.length ∧ i < c ∧ gi t.ps c = (i : Int) ∧ Under t num c b := by
  constructor
  · rintro ⟨j, h1, h2, h3, h4⟩
    rcases (hit_kid hp h1).1 h3 with e | ⟨c, c1, c2, c3, c4⟩
    · subst e; exact .inl ⟨h2, h4⟩
    · exact .inr ⟨c, c1, c2, c3, j, h1, h2, c4, h4⟩
  · rintro (⟨h1, h2⟩ | ⟨c, c1, c2, c3, j, h1, h2, h3, h4⟩)
    · exact ⟨i, hi, h1, hit_self i, h2⟩
    · exact ⟨j, h1, h2, (hit_kid hp h1).2 (.inr ⟨c, c1, c2, c3, h3⟩), h4⟩
structure OwnInv (t : Tre) (num : ByteArray → Nat) (k : Nat) (o : List Nat) : Prop where
  len : o.length = t.ps.length
  up : ∀ i, k ≤ i → i < t.ps.length → ∀ b, (gn o i).testBit b = true ↔ Under t num i b
  down : ∀ i, i < k → i < t.ps.length → ∀ b, (gn o i).testBit b = true ↔ ∃ c, k ≤ c ∧ c < t.ps.length ∧ gi t.ps c = (i : Int) ∧ Under t num c b
theorem own_step {t : Tre} (hp : pOkB t.ps = true) (num : ByteArray → Nat) {n : Nat} (hn : n < t.ps.length) {o : List Nat} (h : OwnInv t num (n + 1) o) : OwnInv t num n (ownStep t num n o) := by
  obtain ⟨o1, ho1⟩ : ∃ o1, o1 = if (gs t.ns n).size ≠ 0 then o.set n (gn o n ||| 2 ^ num (gs t.ns n)) else o := ⟨_, rfl⟩
  have hl1 : o1.length = t.ps.length := by rw [ho1]; split <;> simp [h.len]
  have hne : ∀ i, i ≠ n → gn o1 i = gn o i := fun i hi => by
    rw [ho1]; split
    · rw [gn_set (by rw [h.len]; exact hn), if_neg hi]
    · rfl
  have hn1 : ∀ b, (gn o1 n).testBit b = true ↔ Under t num n b := fun b => by
    rw [under_step hp num hn, ho1]
    have hd := h.down n (by omega) hn b
    have hk : (∃ c, n + 1 ≤ c ∧ c < t.ps.length ∧ gi t.ps c = (n : Int) ∧ Under t num c b) ↔ ∃ c, c < t.ps.length ∧ n < c ∧ gi t.ps c = (n : Int) ∧ Under t num c b :=
      ⟨fun ⟨c, c1, c2, c3, c4⟩ => ⟨c, c2, by omega, c3, c4⟩, fun ⟨c, c1, c2, c3, c4⟩ => ⟨c, by omega, c1, c3, c4⟩⟩
    by_cases hs : (gs t.ns n).size ≠ 0
    · rw [if_pos hs, gn_set (by rw [h.len]; exact hn), if_pos rfl, Nat.testBit_or, Nat.testBit_two_pow, Bool.or_eq_true, hd, hk]
      constructor
      · rintro (h1 | h1)
        · exact .inr h1
        · exact .inl ⟨hs, by simpa using h1⟩
      · rintro (⟨_, h1⟩ | h1)
        · exact .inr (by simpa using h1)
        · exact .inl h1
    · rw [if_neg hs, hd, hk]
      constructor
      · exact .inr
      · rintro (⟨h1, _⟩ | h1)
        · exact absurd h1 hs
        · exact h1
  have hst : ownStep t num n o = if 0 ≤ gi t.ps n then o1.set (gi t.ps n).toNat (gn o1 (gi t.ps n).toNat ||| gn o1 n) else o1 := by rw [ho1]; rfl
  by_cases hz : n = 0
  · subst hz
    have hneg : ¬ 0 ≤ gi t.ps 0 := by
      have h1 := pOkB_at hp hn
      unfold okp at h1
      rw [if_pos rfl] at h1
      have : gi t.ps 0 = -1 := by simpa using h1
      omega
    rw [hst, if_neg hneg]
    refine ⟨hl1, fun i _ hi b => ?_, fun i hi => by omega⟩
    by_cases e : i = 0
    · subst e; exact hn1 b
    · rw [hne i e]; exact h.up i (by omega) hi b
  · obtain ⟨hp1, hp2⟩ := pOkB_par hp hn (by omega)
    obtain ⟨p, hpe⟩ : ∃ p : Nat, gi t.ps n = (p : Int) := ⟨(gi t.ps n).toNat, (Int.toNat_of_nonneg hp1).symm⟩
    rw [hst, if_pos hp1, hpe]
    have hpn : p < n := by omega
    have htn : ((p : Nat) : Int).toNat = p := by omega
    rw [htn]
    refine ⟨by rw [List.length_set]; exact hl1, fun i h1 h2 b => ?_, fun i h1 h2 b => ?_⟩
    · rw [gn_set (by omega), if_neg (by omega)]
      by_cases e : i = n
      · subst e; exact hn1 b
      · rw [hne i e]; exact h.up i (by omega) h2 b
    · rw [gn_set (by omega)]
      by_cases e : i = p
      · subst e
        rw [if_pos rfl, Nat.testBit_or, Bool.or_eq_true, hn1 b, hne i (by omega), h.down i (by omega) h2 b]
        constructor
        · rintro (⟨c, c1, c2, c3, c4⟩ | h3)
          · exact ⟨c, by omega, c2, c3, c4⟩
          · exact ⟨n, Nat.le_refl _, hn, hpe, h3⟩
        · rintro ⟨c, c1, c2, c3, c4⟩
          by_cases ec : c = n
          · subst ec; exact .inr c4
          · exact .inl ⟨c, by omega, c2, c3, c4⟩
      · rw [if_neg e, hne i (by omega), h.down i (by omega) h2 b]
        constructor
        · rintro ⟨c, c1, c2, c3, c4⟩; exact ⟨c, by omega, c2, c3, c4⟩
        · rintro ⟨c, c1, c2, c3, c4⟩
          refine ⟨c, ?_, c2, c3, c4⟩
          by_cases ec : c = n
          · subst ec; omega
          · omega
theorem own_down {t : Tre} (hp : pOkB t.ps = true) (num : ByteArray → Nat) : ∀ (k : Nat) (o : List Nat), k ≤ t.ps.length → OwnInv t num k o → OwnInv t num 0 (ownD t num k o)
  | 0, _, _, h => h
  | k + 1, o, hk, h => own_down hp num k _ (by omega) (own_step hp num (by omega) h)
/-- Node i's set holds the numbers of the leaves below it. -/
theorem own_bits {t : Tre} (hp : pOkB t.ps = true) (names : List ByteArray) : (ownF t names).length = t.ps.length ∧ ∀ i, i < t.ps.length → ∀ b, (gn (ownF t names) i).testBit b = true ↔ Under t (nmIx names) i b := by
  have h := own_down hp (nmIx names) t.ps.length (List.replicate t.ps.length 0) (Nat.le_refl _) ⟨by simp, fun i h1 h2 => by omega, fun i _ _ b => by
    rw [gn_zeros]
    constructor
    · intro e; simp at e
    · rintro ⟨c, c1, c2, _⟩; omega⟩
  exact ⟨h.len, fun i hi => h.up i (Nat.zero_le _) hi⟩
/-- At a tree numbered depth first: the leaves of the part. -/
theorem under_flat {r : RT} {i : Nat} {s : RT} (h : (subR r)[i]? = some s) (num : ByteArray → Nat) (b : Nat) : Under (flat r) num i b ↔ ∃ nm ∈ leafR s, num nm = b := by
  obtain ⟨h1, _, _, h4⟩ := psR_int r 0 (-1) i s h
  have hl := flat_ps r
  have hg : ∀ m, m < sizeR s → gs (flat r).ns (i + m) = gs (nsR s) m := fun m hm => by
    have h5 : (nsR r)[i + m]? = (nsR s)[m]? := by
      rw [← List.getElem?_drop, h4, List.getElem?_append_left (by rw [nsR_len]; exact hm)]
    show (nsR r).getD (i + m) _ = (nsR s).getD m _
    rw [List.getD_eq_getElem?_getD, List.getD_eq_getElem?_getD, h5]
  constructor
  · rintro ⟨j, j1, j2, j3, j4⟩
    rw [hit_flat h (by omega)] at j3
    have j3 := of_decide_eq_true j3
    obtain ⟨m, rfl⟩ : ∃ m, j = i + m := ⟨j - i, by omega⟩
    rw [hg m (by omega)] at j2 j4
    refine ⟨_, List.mem_filter.2 ⟨?_, by simpa using j2⟩, j4⟩
    have : m < (nsR s).length := by rw [nsR_len]; omega
    simp [gs, this]
  · rintro ⟨nm, hm, hb⟩
    obtain ⟨h5, h6⟩ := List.mem_filter.1 hm
    obtain ⟨m, hm1, hm2⟩ := List.getElem_of_mem h5
    have hms : m < sizeR s := by rw [nsR_len] at hm1; exact hm1
    have hgm : gs (nsR s) m = nm := by simp [gs, hm1, hm2]
    refine ⟨i + m, by omega, ?_, ?_, ?_⟩
    · rw [hg m hms, hgm]; simpa using h6
    · rw [hit_flat h (by omega)]; exact decide_eq_true (by omega)
    · rw [hg m hms, hgm]; exact hb
theorem all_u64 {n : Nat} (hn : n ≤ 32) : U64 (allN n) := Nat.lt_trans (all_lt hn) (by decide)
theorem all_bit {n i : Nat} (h : i < n) : (allN n).testBit i = true := by
  have h1 : i ∈ bitsN n (allN n) := by rw [all_bits]; exact List.mem_range.2 h
  exact (mem_bitsN.1 h1).2
theorem innK_in {l : List Grp} {all k : Nat} (h1 : 1 < (gg l k).src.length) (h2 : ofS (gg l k).src ≠ all) : ∀ {m : Nat}, k < m → ofS (gg l k).src ∈ innK l all m
  | 0, h => by omega
  | m + 1, h => by
    rw [innK]
    by_cases e : k = m
    · subst e
      by_cases hi : ofS (gg l k).src ∈ innK l all k
      · rw [if_neg (fun h => h.2.2 hi)]; exact hi
      · rw [if_pos ⟨h1, h2, hi⟩]; simp
    · have ih := innK_in h1 h2 (m := m) (by omega)
      split
      · exact List.mem_append_left _ ih
      · exact ih
theorem innK_has {l : List Grp} {all k : Nat} (hk : k < l.length) (h1 : 1 < (gg l k).src.length) (h2 : ofS (gg l k).src ≠ all) : ofS (gg l k).src ∈ innL l all := innK_in h1 h2 hk
section
variable {names : List ByteArray} {l : List Grp}
theorem nmIx_gs (h : ShOk names l) {q : Nat} (hq : q < names.length) : nmIx names (gs names q) = q := by
  have h1 : ((mpL names).lookup (gs names q)).isSome = true := mpK_some.2 ⟨q, hq, rfl⟩
  obtain ⟨_, h2, h3⟩ := nmIx_at h1
  by_cases e : nmIx names (gs names q) = q
  · exact e
  · exfalso
    rcases Nat.lt_or_gt_of_ne e with h4 | h4
    · exact h.nd _ _ h4 hq h3.symm
    · exact h.nd _ _ h4 h2 h3
theorem part_own {r : RT} (h : ShOk names l) {i : Nat} {s : RT} (hs : (subR r)[i]? = some s) {x : Nat} (hx : ∀ b, x.testBit b = true → b < names.length) (hl : (leafR s).Perm ((bitsN names.length x).map (gs names))) : gn (ownF (flat r) names) i = x := by
  have hi : i < (flat r).ps.length := by
    rw [flat_ps, ← subR_len]; exact (List.getElem?_eq_some_iff.1 hs).1
  apply Nat.eq_of_testBit_eq
  intro b
  rw [Bool.eq_iff_iff, (own_bits (pOk_flat r) names).2 i hi b, under_flat hs]
  constructor
  · rintro ⟨nm, hm, hb⟩
    obtain ⟨q, hq, rfl⟩ := List.mem_map.1 (hl.mem_iff.1 hm)
    obtain ⟨h1, h2⟩ := mem_bitsN.1 hq
    rw [nmIx_gs h h1] at hb
    subst hb; exact h2
  · intro hb
    have h1 := hx b hb
    exact ⟨gs names b, hl.mem_iff.2 (List.mem_map.2 ⟨b, mem_bitsN.2 ⟨h1, hb⟩, rfl⟩), nmIx_gs h h1⟩
theorem far_lt (h : ShOk names l) {k : Nat} (hk : k < l.length) : ∀ b, (ofS (gg l k).src).testBit b = true → b < names.length := fun b hb => by
  have := h.far k hk _ ((h.bits hk).1 hb); omega
/-- Each group has a part in Tree's tree. -/
theorem group_part (h0 : shErr names l = 0) {k : Nat} (hk : k < l.length) : ∃ s ∈ subR (finR names l), (leafR s).Perm ((bitsN names.length (ofS (gg l k).src)).map (gs names)) := by
  have h := shErr_ok h0
  have hsrc := ((gcErr_zero h.gc).2 k hk).2.2.2
  have hb := src_bits (n := names.length) hsrc (fun x hx => h.far k hk x hx)
  obtain ⟨_, hpos, _⟩ := srcOk_small hsrc
  by_cases h1 : names.length = 1
  · obtain ⟨hl, _, _⟩ := finR_ok h0
    refine ⟨finR names l, by cases hf : finR names l with | node nm ks => rw [subR]; simp, hl.trans ?_⟩
    have h2 : (bitsN names.length (ofS (gg l k).src)).length = (gg l k).src.length := by
      have := congrArg List.length hb
      rw [List.length_map] at this; exact this.symm
    have h3 : bitsN names.length (ofS (gg l k).src) = [0] := by
      have h4 : ∀ q ∈ bitsN names.length (ofS (gg l k).src), q = 0 := fun q hq => by have := (mem_bitsN.1 hq).1; omega
      have h5 : (bitsN names.length (ofS (gg l k).src)).length ≤ 1 := by
        unfold bitsN
        refine Nat.le_trans (List.length_filter_le _ _) ?_
        simp [h1]
      cases hbn : bitsN names.length (ofS (gg l k).src) with
      | nil => rw [hbn] at h2; simp at h2; omega
      | cons a q =>
        rw [hbn] at h4 h5
        have : q = [] := by simp at h5; exact h5
        subst this
        rw [h4 a (by simp)]
    rw [h3]
    have : names = [gs names 0] := by
      refine List.ext_getElem (by simp [h1]) fun i i1 i2 => ?_
      obtain rfl : i = 0 := by omega
      simp [gs, i1]
    rw [this]; exact List.Perm.refl _
  · have h2 : 2 ≤ names.length := by have := h.pos; omega
    have hfin : finR names l = sortR (shR names l) := by unfold finR; rw [if_neg h1]
    have key : ∀ q ∈ subR (shR names l), ∀ m, (leafR q).Perm m → ∃ s ∈ subR (finR names l), (leafR s).Perm m := fun q hq m hm => by
      rw [hfin]
      exact ⟨sortR q, (subR_sort _).mem_iff.2 (List.mem_map.2 ⟨q, hq, rfl⟩), (leafR_sort q).trans hm⟩
    have hself : shR names l ∈ subR (shR names l) := by cases hf : shR names l with | node nm ks => rw [subR]; simp
    obtain ⟨hl, hpt⟩ := shR_ok h h2
    by_cases e1 : (gg l k).src.length = 1
    · obtain ⟨a, ha⟩ : ∃ a, (gg l k).src = [a] := List.length_eq_one_iff.1 e1
      rw [ha] at hb
      have hbl := congrArg List.length hb
      rw [List.length_map] at hbl
      obtain ⟨q, hq⟩ : ∃ q, bitsN names.length (ofS [a]) = [q] := List.length_eq_one_iff.1 hbl.symm
      have hqn : q < names.length := (mem_bitsN.1 (show q ∈ bitsN names.length (ofS [a]) by rw [hq]; simp)).1
      have hm : gs names q ∈ leafR (shR names l) := hl.mem_iff.2 (by simp [gs, hqn])
      refine key _ (leaf_part hpt hm) _ ?_
      rw [ha, hq, leafR_leaf (named_size (h.nm q hqn))]; exact List.Perm.refl _
    · by_cases e2 : ofS (gg l k).src = allN names.length
      · refine key _ hself _ ?_
        rw [e2, all_bits, range_gs]; exact hl
      · have hm : ofS (gg l k).src ∈ innL l (allN names.length) := innK_has hk (by omega) e2
        have hL := h.lam
        obtain ⟨e, he, hs⟩ := set_part (names := names) hL.u (allN names.length + 1) (allN names.length) _ (by omega) (all_u64 h.le) hm
          ((withinB_iff (hL.u _ hm) (all_u64 h.le)).2 fun i hi => all_bit (hL.sub _ hm i hi))
        exact key _ hs _ (growR_ok h.le h.nm hL e _ he (hL.u _ hm) (hL.sub _ hm) (hL.two _ hm)).1
theorem lvs_count (ns : List ByteArray) : (leavesL ns).length = (fltN ns).length := by
  unfold leavesL
  rw [List.length_map]
  have h : ∀ k, k ≤ ns.length → ((List.range k).filter fun i => (gs ns i).size ≠ 0).length = (fltN (ns.take k)).length := by
    intro k
    induction k with
    | zero => intro _; rfl
    | succ k ih =>
      intro hk
      have hg : gs ns k = ns[k] := by simp [gs, show k < ns.length by omega]
      rw [List.range_succ, List.filter_append, List.length_append, ih (by omega), List.take_succ_eq_append_getElem (show k < ns.length by omega), fltN_app, List.length_append, ← hg]
      congr 1
      unfold fltN
      by_cases e : (gs ns k).size ≠ 0
      · rw [List.filter_cons_of_pos (by simpa using e), List.filter_cons_of_pos (by simpa using e)]; rfl
      · rw [List.filter_cons_of_neg (by simpa using e), List.filter_cons_of_neg (by simpa using e)]; rfl
  have := h ns.length (Nat.le_refl _)
  rw [List.take_length] at this
  exact this
theorem shErr_far (h : shErr names l = 0) : farB l names.length = false ∧ cfL l = [] := by
  unfold shErr at h
  split at h
  · cases h
  · split at h
    · cases h
    · split at h
      · rename_i h3; exact absurd h h3
      · split at h
        · rename_i h4; exact absurd h h4
        · split at h
          · cases h
          · rename_i h5
            split at h
            · cases h
            · rename_i h6
              exact ⟨by simpa using h5, Classical.not_not.1 h6⟩
theorem mpL_nodup (h : ShOk names l) : (mpL names).length = names.length := mpK_nodup.2 fun i j h1 h2 e => h.nd i j h1 h2 e.symm
/-- Consistent accepts Tree's tree, and finds no group that is not in it. -/
theorem con_tree (h0 : shErr names l = 0) : conErr (shTree names l) names l = 0 ∧ conL (shTree names l) names l = [] := by
  have h := shErr_ok h0
  obtain ⟨t1, _, t3, _⟩ := shTree_law h0
  have hlv : (leavesL (shTree names l).ns).length = names.length := by rw [lvs_count]; exact t3.length_eq
  have hall : ∀ j, j < names.length → csBad (shTree names l) names j = false := fun j hj => by
    have hm : gi (leavesL (shTree names l).ns) j ∈ leavesL (shTree names l).ns := by simp [gi, show j < (leavesL (shTree names l).ns).length by omega]
    obtain ⟨q, hq, hql, hqs⟩ := mem_leavesL.1 hm
    have h1 : gs (shTree names l).ns q ∈ fltN (shTree names l).ns := List.mem_filter.2 ⟨by simp [gs, hql], by simpa using hqs⟩
    obtain ⟨i, hi, e⟩ := List.getElem_of_mem (t3.mem_iff.1 h1)
    have h2 : ((mpL names).lookup (gs (shTree names l).ns q)).isSome = true := mpK_some.2 ⟨i, hi, by simp [gs, hi, e]⟩
    unfold csBad
    rw [hq, show ((q : Nat) : Int).toNat = q by omega, h2, mpL_nodup h]; simp
  have hE : conErr (shTree names l) names l = 0 := by
    rw [con_tail t1 hlv hall, if_neg (by simp [h.gc]), (shErr_far h0).1]; rfl
  refine ⟨hE, ?_⟩
  unfold conL
  rw [if_neg (by simp [hE])]
  have key : ∀ k, k ≤ l.length → conK (shTree names l) names l k = [] := by
    intro k
    induction k with
    | zero => intro _; rfl
    | succ k ih =>
      intro hk
      obtain ⟨s, hs, hp⟩ := group_part h0 (show k < l.length by omega)
      obtain ⟨i, hi, e⟩ := List.getElem_of_mem hs
      have hat : (subR (finR names l))[i]? = some s := by rw [List.getElem?_eq_getElem hi, e]
      have hown := part_own h hat (far_lt h (show k < l.length by omega)) hp
      have hmem : ofS (gg l k).src ∈ ownF (shTree names l) names := by
        rw [shTree_fin h0, ← hown]
        refine gn_mem ?_
        rw [(own_bits (pOk_flat _) names).1, flat_ps, ← subR_len]; exact hi
      rw [conK, ih (by omega)]
      unfold conOne
      rw [if_pos hmem]; rfl
  exact key _ (Nat.le_refl _)
theorem sortL_of {a b : List Int} (h : a.Perm b) (hb : b.Pairwise (· < ·)) : sortL a = b := by
  unfold sortL
  refine List.Perm.eq_of_pairwise (le := fun a b => decide (a ≤ b) = true) (fun x y _ _ h1 h2 => ?_) (List.pairwise_mergeSort (fun a b c h1 h2 => by simp only [decide_eq_true_eq] at *; omega) (fun a b => by simp only [Bool.or_eq_true, decide_eq_true_eq]; omega) a) (hb.imp fun h => by simp only [decide_eq_true_eq]; omega) ((List.mergeSort_perm a _).trans h)
  simp only [decide_eq_true_eq] at h1 h2; omega
theorem oneN_leaf {r : RT} (h : ∀ nm ∈ leafR r, nm.size = 1) : oneN (nsR r) = (leafR r).map lvNum := by
  unfold oneN leafR
  congr 1
  refine List.filter_congr fun nm hm => ?_
  by_cases e : nm.size = 0
  · simp [e]
  · have := h nm (List.mem_filter.2 ⟨hm, by simpa using e⟩)
    simp [this]
/-- Below the root, what has more than one leaf is a group. -/
theorem part_group (h0 : shErr names l = 0) (h1 : ∀ q, q < names.length → (gs names q).size = 1 ∧ lvNum (gs names q) = q) {i : Nat} (hi0 : 0 < i) (hi : i < (shTree names l).ps.length) (h2 : 1 < (lvL (shTree names l) i).length) :
    ∃ k, k < l.length ∧ (gg l k).src = lvL (shTree names l) i := by
  have h := shErr_ok h0
  rw [shTree_fin h0, flat_ps] at hi
  have hi2 : i < (subR (finR names l)).length := by rw [subR_len]; exact hi
  obtain ⟨s, hs⟩ : ∃ s, (subR (finR names l))[i]? = some s := ⟨_, List.getElem?_eq_getElem hi2⟩
  have hlv : lvL (shTree names l) i = sortL (oneN (nsR s)) := by
    unfold lvL; rw [shTree_fin h0, lvK_flat hs]
  rw [hlv] at h2 ⊢
  rw [sortL_len] at h2
  by_cases e1 : names.length = 1
  · exfalso
    unfold finR at hi
    rw [if_pos e1, sizeR, sizeRs] at hi; omega
  · have hfin : finR names l = sortR (shR names l) := by unfold finR; rw [if_neg e1]
    have hn2 : 2 ≤ names.length := by have := h.pos; omega
    have htail : ∃ q ∈ subRs (shR names l).kids, s = sortR q := by
      rw [hfin] at hs
      cases hsh : shR names l with
      | node nm ks =>
        rw [hsh, sortR, subR] at hs
        obtain ⟨m, rfl⟩ : ∃ m, i = m + 1 := ⟨i - 1, by omega⟩
        rw [List.getElem?_cons_succ] at hs
        have hm := List.mem_of_getElem? hs
        have hp : (subRs (sortRs ks)).Perm ((subRs ks).map sortR) := (subRs_perm (sortRs_perm ks)).trans (subRs_sort ks)
        obtain ⟨q, hq, e⟩ := List.mem_map.1 (hp.mem_iff.1 hm)
        exact ⟨q, hq, e.symm⟩
    obtain ⟨q, hq, rfl⟩ := htail
    have hL := h.lam
    have hperm : (oneN (nsR (sortR q))).Perm (oneN (nsR q)) := ((nsR_sort q).filter (fun s : ByteArray => decide (s.size = 1))).map lvNum
    have hlen : (oneN (nsR (sortR q))).length = (oneN (nsR q)).length := hperm.length_eq
    rcases subs_grow names (innL l (allN names.length)) (allN names.length + 1) (allN names.length) q hL.u (all_u64 h.le) (by omega) hq with ⟨a, ha, rfl⟩ | ⟨y, e, hy, hye, rfl⟩
    · exfalso
      rw [hlen, nsR, nsRs] at h2
      have : (oneN [gs names a]).length ≤ 1 := by unfold oneN; rw [List.length_map]; exact Nat.le_trans (List.length_filter_le _ _) (by simp)
      omega
    · obtain ⟨k, hk, rfl, _, _⟩ := innK_mem hy
      refine ⟨k, hk, ?_⟩
      obtain ⟨hg, _⟩ := growR_ok h.le h.nm hL e _ hye (hL.u _ hy) (hL.sub _ hy) (hL.two _ hy)
      have hsrc := ((gcErr_zero h.gc).2 k hk).2.2.2
      have hb := src_bits (n := names.length) hsrc (fun x hx => h.far k hk x hx)
      have hone : ∀ nm ∈ leafR (growR names (innL l (allN names.length)) e (ofS (gg l k).src)), nm.size = 1 := fun nm hm => by
        obtain ⟨q, hq, rfl⟩ := List.mem_map.1 (hg.mem_iff.1 hm)
        exact (h1 q (mem_bitsN.1 hq).1).1
      have hmap : ((bitsN names.length (ofS (gg l k).src)).map (gs names)).map lvNum = (gg l k).src := by
        rw [List.map_map]
        conv => rhs; rw [hb]
        exact List.map_congr_left fun q hq => (h1 q (mem_bitsN.1 hq).1).2
      have hp2 : (oneN (nsR (sortR (growR names (innL l (allN names.length)) e (ofS (gg l k).src))))).Perm (gg l k).src := by
        refine hperm.trans ?_
        rw [oneN_leaf hone]
        have := hg.map lvNum
        rw [hmap] at this; exact this
      refine (sortL_of hp2 ?_).symm
      rw [hb, List.pairwise_map]
      exact (bits_asc _ _).imp fun h => Int.ofNat_lt.2 h
end
end Go.Proofs.YtgjcfkadioblfaaGreat
