/- The contract of slices.Sort at strings: the laying. slices.Sort at strings that the call has built. The law's names: A, B, .. slices.Equal at strings. The plain law of SharederrorLeaves. A region that draws its order, only reads, and ends in one operation that may write: outside a round. -/
import Derived.Shelf.SlGeneric
import Derived.Shelf.Lays
import Derived.Shelf.Sort.Plain
import Derived.Ground.NamesProg
import Derived.Test.YtgjcfkadioblfaaGreatProg
import Derived.Test.YtgjcfkadioblfaaGreatQ5
import Derived.Test.YtgjcfkadioblfaaGreatQ1
import Derived.Sort.OwnSorted
import Derived.Shelf.Slices.In.SortNone
import Derived.Test.YtgjcfkadioblfaaGreatQ23
import Derived.Laws.IdiomStrings
import Derived.Test.YtgjcfkadioblfaaGreatQ2
import Derived.Test.YtgjcfkadioblfaaGreatQ26
import Derived.Test.YtgjcfkadioblfaaGreatQ4
namespace Go.Proofs
open Go.Shelf
def Tryz.sortS_ren : Go.Shelf.Ren := ⟨fun | 190 => 44 | 125 => 99 | 258 => 98 | 128 => 138 | 129 => 139 | 302 => 129 | 303 => 130 | 304 => 131 | 305 => 132 | 306 => 133 | 307 => 134 | 308 => 135 | 309 => 136 | 310 => 137 | 333 => 166 | 329 => 167 | 330 => 168 | 334 => 169 | 335 => 170 | 336 => 171 | 344 => 183 | n => n, fun | 31 => 23 | 9 => 9 | 3 => 3 | 46 => 133 | 0 => 0 | 51 => 172 | 53 => 74 | 4 => 4 | 183 => 165 | 182 => 164 | 131 => 89 | 5 => 5 | 218 => 193 | 222 => 197 | 228 => 204 | 229 => 205 | n => n, fun | n => n⟩
theorem Tryz.sortS : Go.Proofs.Lays.n190 Tryz.prog Tryz.sortS_ren := {
  mixed := by kernel_rfl
  f125 := Tryz.func99.trans (congrArg some (by kernel_rfl))
  f128 := Tryz.func138.trans (congrArg some (by kernel_rfl))
  f129 := Tryz.func139.trans (congrArg some (by kernel_rfl))
  f190 := Tryz.func44.trans (congrArg some (by kernel_rfl))
  f258 := Tryz.func98.trans (congrArg some (by kernel_rfl))
  f302 := Tryz.func129.trans (congrArg some (by kernel_rfl))
  f303 := Tryz.func130.trans (congrArg some (by kernel_rfl))
  f304 := Tryz.func131.trans (congrArg some (by kernel_rfl))
  f305 := Tryz.func132.trans (congrArg some (by kernel_rfl))
  f306 := Tryz.func133.trans (congrArg some (by kernel_rfl))
  f307 := Tryz.func134.trans (congrArg some (by kernel_rfl))
  f308 := Tryz.func135.trans (congrArg some (by kernel_rfl))
  f309 := Tryz.func136.trans (congrArg some (by kernel_rfl))
  f310 := Tryz.func137.trans (congrArg some (by kernel_rfl))
  f329 := Tryz.func167.trans (congrArg some (by kernel_rfl))
  f330 := Tryz.func168.trans (congrArg some (by kernel_rfl))
  f333 := Tryz.func166.trans (congrArg some (by kernel_rfl))
  f334 := Tryz.func169.trans (congrArg some (by kernel_rfl))
  f335 := Tryz.func170.trans (congrArg some (by kernel_rfl))
  f336 := Tryz.func171.trans (congrArg some (by kernel_rfl))
  f344 := Tryz.func183.trans (congrArg some (by kernel_rfl))
  t0 := Tryz.underlying0
  a0 := Tryz.isAgg0
  z0 := Tryz.sizeOf0
  v0 := Tryz.zeroValue0
  t3 := Tryz.underlying3
  a3 := Tryz.isAgg3
  z3 := Tryz.sizeOf3
  v3 := Tryz.zeroValue3
  t4 := Tryz.underlying4
  a4 := Tryz.isAgg4
  z4 := Tryz.sizeOf4
  v4 := Tryz.zeroValue4
  t5 := Tryz.underlying5
  a5 := Tryz.isAgg5
  z5 := Tryz.sizeOf5
  v5 := Tryz.zeroValue5
  t9 := Tryz.underlying9
  a9 := Tryz.isAgg9
  z9 := Tryz.sizeOf9
  v9 := Tryz.zeroValue9
  t31 := Tryz.underlying23
  a31 := Tryz.isAgg23
  z31 := Tryz.sizeOf23
  v31 := Tryz.zeroValue23
  t46 := Tryz.underlying133
  a46 := Tryz.isAgg133
  z46 := Tryz.sizeOf133
  v46 := Tryz.zeroValue133
  t51 := Tryz.underlying172
  a51 := Tryz.isAgg172
  z51 := Tryz.sizeOf172
  v51 := Tryz.zeroValue172
  t53 := Tryz.underlying74
  a53 := Tryz.isAgg74
  z53 := Tryz.sizeOf74
  v53 := Tryz.zeroValue74
  t131 := Tryz.underlying89
  a131 := Tryz.isAgg89
  z131 := Tryz.sizeOf89
  v131 := Tryz.zeroValue89
  t182 := Tryz.underlying164
  a182 := Tryz.isAgg164
  z182 := Tryz.sizeOf164
  v182 := Tryz.zeroValue164
  t183 := Tryz.underlying165
  a183 := Tryz.isAgg165
  z183 := Tryz.sizeOf165
  v183 := Tryz.zeroValue165
  t218 := Tryz.underlying193
  a218 := Tryz.isAgg193
  z218 := Tryz.sizeOf193
  v218 := Tryz.zeroValue193
  t222 := Tryz.underlying197
  a222 := Tryz.isAgg197
  z222 := Tryz.sizeOf197
  v222 := Tryz.zeroValue197
  t228 := Tryz.underlying204
  a228 := Tryz.isAgg204
  z228 := Tryz.sizeOf204
  v228 := Tryz.zeroValue204
  t229 := Tryz.underlying205
  a229 := Tryz.isAgg205
  z229 := Tryz.sizeOf205
  v229 := Tryz.zeroValue205 }
end Go.Proofs
namespace Go.Proofs.YtgjcfkadioblfaaGreat
open Go.RowKit Go.Sort Go.Shelf Go.Deep
def ofL (l : List UInt8) : ByteArray := ⟨l.toArray⟩
def toL (b : ByteArray) : List UInt8 := b.data.toList
theorem ofL_toL (b : ByteArray) : ofL (toL b) = b := by cases b; simp [ofL, toL]
theorem toL_ofL (l : List UInt8) : toL (ofL l) = l := by simp [ofL, toL]
def srtL (ss : List (List UInt8)) : List (List UInt8) := ss.mergeSort fun x y => decide (x ≤ y)
/-- The strings, sorted. -/
def sortS (xs : List ByteArray) : List ByteArray := (srtL (xs.map toL)).map ofL
theorem sortS_len (xs : List ByteArray) : (sortS xs).length = xs.length := by unfold sortS srtL; rw [List.length_map, List.length_mergeSort, List.length_map]
theorem enc_map (ss : List (List UInt8)) : ss.map encStr = (ss.map ofL).map Value.string := by rw [List.map_map]; rfl
theorem enc_map' (xs : List ByteArray) : (xs.map toL).map encStr = xs.map Value.string := by
  rw [List.map_map]
  refine List.map_congr_left fun b _ => ?_
  show Value.string (ofL (toL b)) = _
  rw [ofL_toL]
set_option maxRecDepth 100000 in
theorem sort_str_t (w w1 : World) (v : Value) (xs : List ByteArray) (hu : Up w w1) (ho : Owns w.heap.size 9 w1 v (xs.map Value.string)) (hlen : xs.length ≤ 1000000) :
    Calls Tryz.prog 44 #[v] w1 fun e w' => e = .returned (.tuple #[]) ∧ Up w w' ∧ Owns w.heap.size 9 w' v ((sortS xs).map Value.string) := by
  rcases ho.2 with ⟨rfl, h0⟩ | ⟨g, cap, cur, rfl, hg, hc, hn, hcm, hcs, ht⟩
  · have hx : xs = [] := by cases xs with | nil => rfl | cons _ _ => simp at h0
    subst hx
    refine (Any.slices_Sort_string_none Tryz.sortS none 0 w1).mono ?_
    rintro e w' ⟨rfl, rfl⟩
    exact ⟨rfl, hu, by unfold sortS srtL; simpa using ho⟩
  · simp only [List.length_map] at hn ht ho ⊢
    have hln : (xs.map toL).length = xs.length := List.length_map _
    have hH : Holds encStr w1 g 0 (xs.map toL).toArray := holds_of_block hc (by rw [enc_map', hln]; simpa using ht)
    have hS := Any.slices_Sort_string Tryz.sortS g 0 cap (xs.map toL) w1 hH (Array.getElem?_eq_some_iff.1 hc).1 (by rw [hln]; omega)
    rw [hln] at hS
    refine hS.mono ?_
    rintro e w' ⟨rfl, n, os, rfl⟩
    refine ⟨rfl, Below.grown hu (grownBy_sorted _) hu.size (fun j hj => by cases hj; exact hg), ?_⟩
    have h := ownsRow_sorted (n := n) (os := os) (ss := xs.map toL) (ts := srtL (xs.map toL)) (List.length_mergeSort _) hg hc (by rw [hln]; exact hn) hcm (by simpa using hcs)
    unfold Owns
    rw [List.length_map, sortS_len]
    rw [hln, enc_map] at h
    exact h
end Go.Proofs.YtgjcfkadioblfaaGreat
namespace Go.Proofs.YtgjcfkadioblfaaGreat
open Go.RowKit Go.Deep
/-- The name of number i. -/
def nmLt (i : Nat) : ByteArray := ⟨#[UInt8.ofNat (65 + i)]⟩
def namesA (n : Nat) : List ByteArray := (List.range n).map nmLt
theorem namesA_succ (n : Nat) : namesA (n + 1) = namesA n ++ [nmLt n] := by unfold namesA; rw [List.range_succ, List.map_append]; rfl
theorem namesA_len (n : Nat) : (namesA n).length = n := by simp [namesA]
def NmPost (w : World) (n : Nat) (e : Ending) (w' : World) : Prop := Up w w' ∧ ∃ v, e = .returned v ∧ Owns w.heap.size 9 w' v ((namesA n).map Value.string)
set_option maxRecDepth 100000 in
set_option maxHeartbeats 1000000 in
theorem names_t (w : World) (n : Nat) (hn : n ≤ 64) : Calls Tryz.prog 42 #[.int .i64 n] w (NmPost w n) := by
  have i0 : (0 : Int) ≤ (n : Int) := by omega
  go_enter Tryz.func42, Tryz.ntmps42
  go_wp2_with fail
  go_loopw [3, 4, 6] (fun d _ i wr => ∃ k : Nat, k ≤ n ∧ i = .int .i64 k ∧ Hid (Owns w.heap.size 9 wr d ((namesA k).map Value.string)) ∧ Hid (Up w wr)) (fun _ _ i _ => n - (intOf i).toNat)
  case atStart => exact ⟨0, Nat.zero_le _, rfl, Owns.nil _ _ _, Up.refl _⟩
  case round =>
    obtain ⟨k, hk, rfl, hD, hU⟩ := hrel
    obtain ⟨wo, rfl⟩ : ∃ wo : World, wo = wr := ⟨_, rfl⟩
    obtain ⟨d, rfl⟩ : ∃ d : Value, d = u3 := ⟨_, rfl⟩
    by_cases hlt : k < n
    · have i1 : (0 : Int) ≤ (k : Int) := by omega
      have i2 : (k : Int) < (n : Int) := by omega
      have d1 : decide ((k : Int) < (n : Int)) = true := by simp; omega
      have hcv : (convert 58 9 (.slice (some ⟨wo.heap.size, 0, none⟩) 1 1)).run Tryz.prog (wo.alloc (.cells #[.int .u8 (65 + (k : Int))] 5)) = .ok (.string (nmLt k)) (wo.alloc (.cells #[.int .u8 (65 + (k : Int))] 5)) :=
        run_convert_bytes_back _ 58 9 5 ⟨wo.heap.size, 0, none⟩ 1 [UInt8.ofNat (65 + k)] Tryz.underlying58 Tryz.underlying5 Tryz.underlying9 (fun j hj => by
          obtain rfl : j = 0 := by simp at hj; omega
          show (wo.alloc _).cell? ⟨wo.heap.size, 0, none⟩ = _
          rw [box1_0]
          have e : (UInt8.ofNat (65 + k)).toNat = 65 + k := by simp; omega
          show some (Value.int .u8 (65 + (k : Int))) = some (Value.int .u8 (((UInt8.ofNat (65 + k)).toNat : Nat) : Int))
          rw [e]; rfl)
      have HSN := Lib.hid (namesA_succ k)
      have hal := Up.alloc wo (.cells #[.int .u8 (65 + (k : Int))] 5)
      have HUA := Lib.hid (hU.out.trans hal)
      have HDA := Lib.hid (hD.out.kept fun b _ hb => Below.block hal b hb)
      have HLN : Hid (((namesA k).map Value.string).length = k) := by unfold Hid; rw [List.length_map, namesA_len]
      have hsz : (wo.alloc (.cells #[.int .u8 (65 + (k : Int))] 5)).heap.size = wo.heap.size + 1 := World.size_alloc _ _
      have hwz : w.heap.size ≤ (wo.alloc (.cells #[.int .u8 (65 + (k : Int))] 5)).heap.size := HUA.out.size
      clear hal
      go_wp2_with (at_builtin; refine wpList_appM (wo.alloc (.cells #[.int .u8 (65 + (k : Int))] 5)) rfl _ _ 23 rfl w.heap.size 9 (.string ⟨#[]⟩) 16 Tryz.underlying23 Tryz.infoStr2 rfl (by decide) HDA.out rfl (.string (nmLt k)) _ hsz rfl rfl k HLN.out (by omega) hwz ?_; intro g8 cap8 w8 hown1 hgr1 hbe1)
      go_roundw
      case rel => exact ⟨k + 1, by omega, by go_num, by unfold Hid; rw [HSN.out, List.map_append]; exact hown1, Below.trans HUA.out hbe1⟩
      case measure => simp [intOf]; omega
    · obtain rfl : k = n := by omega
      have d1 : decide ((k : Int) < (k : Int)) = false := by simp
      go_wp2_with fail
      go_ret
      exact ⟨hU.out, _, rfl, hD.out⟩
end Go.Proofs.YtgjcfkadioblfaaGreat
namespace Go.Proofs.YtgjcfkadioblfaaGreat
open Go.RowKit Go.Deep
/-- Equal strings, one by one. -/
theorem strs_ext {xs ys : List ByteArray} (hl : xs.length = ys.length) (h : ∀ j, j < xs.length → gs xs j = gs ys j) : xs = ys := by
  refine List.ext_getElem hl fun i h1 h2 => ?_
  have := h i h1
  simpa [gs, h1, h2] using this
set_option maxRecDepth 100000 in
set_option maxHeartbeats 400000 in
theorem equal_str_t (S T : Nat → Prop) (w : World) (v u : Value) (xs ys : List ByteArray) (h : StrsAt S w v xs) (h2 : StrsAt T w u ys) (hn : xs.length ≤ 1000000) (hn2 : ys.length ≤ 1000000) :
    Calls Tryz.prog 45 #[v, u] w (EqPost w (decide (xs = ys))) := by
  obtain ⟨p, cap, rfl, hcap, _⟩ := SlAt.open h
  obtain ⟨q, cap2, rfl, hcap2, _⟩ := SlAt.open h2
  have HX : Hid (StrsAt S w (.slice p xs.length cap) xs) := h
  have HY : Hid (StrsAt T w (.slice q ys.length cap2) ys) := h2
  clear h h2
  by_cases hl : xs.length = ys.length
  · have hl1 : ((xs.length : Int) != ys.length) = false := by simp [hl]
    have HL := Lib.hid hl
    clear hl
    go_enter Tryz.func45, Tryz.ntmps45
    go_wp2_with fail
    go_loopw [5, 13] (fun _ i wr => ∃ k n : Nat, k ≤ xs.length ∧ i = .int .i64 k ∧ wr = w.drewN n ∧ Hid (∀ j, j < k → gs xs j = gs ys j)) (fun _ i _ => xs.length - (intOf i).toNat)
    case atStart => exact ⟨0, 0, Nat.zero_le _, rfl, rfl, fun j hj => absurd hj (Nat.not_lt_zero _)⟩
    case round =>
      obtain ⟨k, n, hk, rfl, rfl, hd⟩ := hrel
      by_cases hlt : k < xs.length
      · have hlt2 : k < ys.length := by rw [← HL.out]; exact hlt
        obtain ⟨b, off, rfl, hc⟩ := strs_get HX.out hlt
        obtain ⟨b2, off2, rfl, hc2⟩ := strs_get HY.out hlt2
        have i1 : (0 : Int) ≤ (k : Int) := by omega
        have i2 : (k : Int) < (xs.length : Int) := by omega
        have i3 : (k : Int) < (ys.length : Int) := by omega
        generalize hx : gs xs k = x at *
        generalize hy : gs ys k = y at *
        have HXX := Lib.hid hx
        have HYY := Lib.hid hy
        clear hx hy
        by_cases hxy : x = y
        · have hxy0 : (x.toList == y.toList) = true := by simp [hxy]
          have hxy1 : (x.toList != y.toList) = false := by simp [hxy]
          have HXY := Lib.hid hxy
          clear hxy
          go_wp2_with fail
          go_quiet (fail)
          go_wp2_with fail
          go_roundw
          case rel => exact ⟨k + 1, n + nq, by omega, by go_num, rfl, fun j hj => if e : j = k then by subst e; rw [HXX.out, HYY.out, HXY.out] else hd.out j (by omega)⟩
          case measure => simp [intOf]; omega
        · have hxy0 : (x.toList == y.toList) = false := by
            cases h : (x.toList == y.toList) with
            | false => rfl
            | true => exact absurd (str_yes h) hxy
          have hxy1 : (x.toList != y.toList) = true := by unfold bne; rw [hxy0]; rfl
          have HXY := Lib.hid hxy
          clear hxy
          go_wp2_with fail
          go_quiet (fail)
          go_wp2_with fail
          go_ret
          refine ⟨ret_bool ?_, n + nq, by rw [World.drewN_drewN]⟩
          rw [eq_comm, decide_eq_false_iff_not]
          rintro rfl
          exact HXY.out (by rw [← HXX.out, ← HYY.out])
      · obtain rfl : k = xs.length := by omega
        clear hlt hk
        have hex : xs = ys := strs_ext HL.out hd.out
        have HEX : Hid (decide (xs = ys) = true) := decide_eq_true hex
        clear hex
        go_wp2_with fail
        go_ret
        exact ⟨ret_bool (by rw [HEX.out]), n, rfl⟩
  · have hl1 : ((xs.length : Int) != ys.length) = true := by simp; omega
    have HL := Lib.hid hl
    clear hl
    go_enter Tryz.func45, Tryz.ntmps45
    go_wp2_with fail
    go_ret
    refine ⟨ret_bool ?_, 0, rfl⟩
    rw [eq_comm, decide_eq_false_iff_not]
    rintro rfl
    exact HL.out rfl
end Go.Proofs.YtgjcfkadioblfaaGreat
namespace Go.Proofs.YtgjcfkadioblfaaGreat
theorem nmLt_named : ∀ i, i < 10 → namedB (nmLt i).data.toList = true := by decide +kernel
theorem nmLt_inj : ∀ i, i < 10 → ∀ j, j < 10 → nmLt i = nmLt j → i = j := by decide +kernel
theorem gs_namesA {n k : Nat} (h : k < n) : gs (namesA n) k = nmLt k := by simp [gs, namesA, h]
theorem namesA_err {n : Nat} (hn : n ≤ 10) : firstNZ (nmErr (namesA n)) (namesA n).length = 0 := by
  refine firstNZ_zero fun k hk => ?_
  rw [namesA_len] at hk
  unfold nmErr
  rw [gs_namesA hk, if_neg (by rw [nmLt_named k (by omega)]; decide), if_neg]
  intro e
  obtain ⟨j, hj, e⟩ := List.any_eq_true.1 e
  have hj : j < k := List.mem_range.1 hj
  rw [gs_namesA (show j < n by omega)] at e
  have := nmLt_inj k (by omega) j (by omega) (of_decide_eq_true e)
  omega
/-- Why there is no tree. -/
theorem shErr_A {n : Nat} {l : List Grp} (h0 : 0 < n) (hn : n ≤ 10) (hg : gcErr l = 0) : shErr (namesA n) l = 0 ∨ shErr (namesA n) l = 2 ∨ shErr (namesA n) l = 17 := by
  unfold shErr
  have hl := namesA_len n
  rw [if_neg (by omega), if_neg (by omega), if_neg (by rw [namesA_err hn]; simp), if_neg (by rw [hg]; simp)]
  split
  · exact .inr (.inl rfl)
  · split
    · exact .inr (.inr rfl)
    · exact .inl rfl
section
variable {names : List ByteArray} {l : List Grp}
theorem PartOk.sort {r : RT} (h : ∀ s ∈ subR r, PartOk s) : ∀ s ∈ subR (sortR r), PartOk s := by
  intro s hs
  obtain ⟨q, hq, rfl⟩ := List.mem_map.1 ((subR_sort r).mem_iff.1 hs)
  obtain ⟨h1, h2, h3⟩ := h q hq
  refine ⟨fun e => ?_, fun e => ?_, ?_⟩
  · rw [sortR_nm]; rw [sortR_kids] at e; exact h1 (fun e2 => e (sortRs_nil.2 e2))
  · rw [sortR_nm]; rw [sortR_kids] at e; exact h2 (sortRs_nil.1 e)
  · rw [sortR_kids, (sortRs_perm q.kids).length_eq, List.length_map]; exact h3
theorem one_R (h1 : names.length = 1) : (⟨[-1], names⟩ : Tre) = flat (.node (gs names 0) []) := by
  unfold flat
  rw [psR, psRs, nsR, nsRs]
  congr 1
  refine List.ext_getElem (by simpa using h1) fun i i1 i2 => ?_
  obtain rfl : i = 0 := by omega
  simp [gs, i1]
/-- The rose tree of Tree's tree. -/
def finR (names : List ByteArray) (l : List Grp) : RT := if names.length = 1 then .node (gs names 0) [] else sortR (shR names l)
theorem shTree_fin (h : shErr names l = 0) : shTree names l = flat (finR names l) := by
  have hk := shErr_ok h
  unfold finR
  by_cases h1 : names.length = 1
  · rw [if_pos h1, ← one_R h1]
    unfold shTree
    rw [if_neg (by simp [h]), if_pos h1]
  · rw [if_neg h1]
    exact (shTree_two h (by have := hk.pos; omega)).1
theorem finR_ok (h : shErr names l = 0) : (leafR (finR names l)).Perm names ∧ (∀ s ∈ subR (finR names l), PartOk s) ∧ sortR (finR names l) = finR names l := by
  have hk := shErr_ok h
  unfold finR
  by_cases h1 : names.length = 1
  · rw [if_pos h1]
    have hnm := hk.nm 0 (by omega)
    refine ⟨?_, fun s hs => ?_, rfl⟩
    · rw [leafR_leaf (named_size hnm)]
      have : [gs names 0] = names := by
        refine List.ext_getElem (by simp [h1]) fun i i1 i2 => ?_
        obtain rfl : i = 0 := by simp at i1; omega
        simp [gs, i2]
      rw [this]
    · rw [subR, subRs] at hs
      obtain rfl : s = .node (gs names 0) [] := by simpa using hs
      exact ⟨fun e => absurd rfl e, fun _ => hnm, by simp [RT.kids]⟩
  · rw [if_neg h1]
    obtain ⟨h3, h4⟩ := shR_ok hk (by have := hk.pos; omega)
    exact ⟨(leafR_sort _).trans h3, PartOk.sort h4, sortR_idem _⟩
theorem finR_good (h : shErr names l = 0) : GoodR (finR names l) ∧ sizeR (finR names l) ≤ 64 := by
  have hk := shErr_ok h
  obtain ⟨h1, h2, _⟩ := finR_ok h
  refine ⟨⟨fun s hs e => (h2 s hs).1 e, fun s hs e => (h2 s hs).2.1 e, h1.nodup_iff.2 (names_nodup hk)⟩, ?_⟩
  have := size_le _ h2
  rw [h1.length_eq] at this
  have := hk.le
  omega
/-- Tree's tree is valid and canonical; its leaves are the names. -/
theorem shTree_law (h : shErr names l = 0) : treeErr (shTree names l) = 0 ∧ canT (shTree names l) = shTree names l ∧ (fltN (shTree names l).ns).Perm names ∧ shRes names l = 0 := by
  have hk := shErr_ok h
  obtain ⟨h1, h2, h3⟩ := finR_ok h
  obtain ⟨h4, h5⟩ := finR_good h
  have h6 := treeErr_flat h4 h5
  rw [shTree_fin h]
  refine ⟨h6, by rw [canT_flat h6, toR_flat, h3], h1, ?_⟩
  by_cases e : names.length = 1
  · unfold shRes; rw [if_neg (by simp [h]), if_pos e]
  · exact (shTree_two h (by have := hk.pos; omega)).2
/-- How often a number stands among the first k. -/
def cntI (ps : List Int) (i : Int) : Nat → Nat
  | 0 => 0
  | k + 1 => if gi ps k = i then cntI ps i k + 1 else cntI ps i k
theorem cnt_kids {ps : List Int} (h : pOkB ps = true) (i : Nat) : ∀ k, k ≤ ps.length → cntI ps (i : Int) k = (kidsK ps i k).length
  | 0, _ => rfl
  | k + 1, hk => by
    rw [cntI, kidsK_succ, List.length_append, cnt_kids h i k (by omega)]
    by_cases e : gi ps k = i
    · have h1 := pOkB_at h (show k < ps.length by omega)
      unfold okp at h1
      have hlt : i < k := by
        by_cases hz : k = 0
        · rw [if_pos hz, e] at h1
          have : (i : Int) = -1 := by simp at h1
          omega
        · rw [if_neg hz, e] at h1
          simp only [Bool.and_eq_true, decide_eq_true_eq] at h1
          omega
      rw [if_pos e, if_pos ⟨hlt, e⟩]; rfl
    · rw [if_neg e, if_neg (fun q => e q.2)]; rfl
theorem hdR_len : ∀ (rs : List RT) (n : Nat), (hdR rs n).length = rs.length
  | [], _ => rfl
  | r :: rs, n => by rw [hdR, List.length_cons, hdR_len rs, List.length_cons]
/-- No node of Tree's tree has one child. -/
theorem shTree_one (h : shErr names l = 0) {i : Nat} (hi : i < (shTree names l).ps.length) : cntI (shTree names l).ps (i : Int) (shTree names l).ps.length ≠ 1 := by
  rw [shTree_fin h] at hi ⊢
  rw [cnt_kids (pOk_flat _) i _ (Nat.le_refl _)]
  show (kidsL _ i).length ≠ 1
  rw [flat_ps] at hi
  have hi2 : i < (subR (finR names l)).length := by rw [subR_len]; exact hi
  have hs : (subR (finR names l))[i]? = some (subR (finR names l))[i] := List.getElem?_eq_getElem hi2
  rw [kids_flat hs, hdR_len]
  exact ((finR_ok h).2.1 _ (List.getElem_mem hi2)).2.2
end
theorem srtL_perm {a b : List (List UInt8)} (h : a.Perm b) : srtL a = srtL b := by
  have tr : ∀ a b c : List UInt8, decide (a ≤ b) = true → decide (b ≤ c) = true → decide (a ≤ c) = true := fun a b c h1 h2 => by
    simp only [decide_eq_true_eq] at *
    exact List.le_trans h1 h2
  have tt : ∀ a b : List UInt8, (decide (a ≤ b) || decide (b ≤ a)) = true := fun a b => by
    simp only [Bool.or_eq_true, decide_eq_true_eq]
    exact List.le_total a b
  refine List.Perm.eq_of_pairwise (le := fun a b => decide (a ≤ b) = true) (fun x y _ _ h1 h2 => ?_) (List.pairwise_mergeSort tr tt a) (List.pairwise_mergeSort tr tt b) (((List.mergeSort_perm a _).trans h).trans (List.mergeSort_perm b _).symm)
  simp only [decide_eq_true_eq] at h1 h2
  exact List.le_antisymm h1 h2
theorem sortS_perm {a b : List ByteArray} (h : a.Perm b) : sortS a = sortS b := by unfold sortS; rw [srtL_perm (h.map toL)]
theorem nmLt_le : ∀ i, i < 10 → ∀ j, j < 10 → i ≤ j → toL (nmLt i) ≤ toL (nmLt j) := by decide +kernel
theorem sortS_A {n : Nat} (hn : n ≤ 10) : sortS (namesA n) = namesA n := by
  unfold sortS srtL
  rw [List.mergeSort_of_pairwise]
  · rw [List.map_map]
    have : (ofL ∘ toL) = id := funext ofL_toL
    rw [this, List.map_id]
  · unfold namesA
    rw [List.map_map]
    refine List.pairwise_map.2 (List.Pairwise.imp_of_mem (fun {a b} ha hb hab => ?_) List.pairwise_lt_range)
    have ha := List.mem_range.1 ha
    have hb := List.mem_range.1 hb
    simpa using nmLt_le a (by omega) b (by omega) (by omega)
/-- The leaves, sorted, are the names. -/
theorem leaves_A {n : Nat} {l : List Grp} (hn : n ≤ 10) (h : shErr (namesA n) l = 0) : sortS (fltN (shTree (namesA n) l).ns) = namesA n := by
  rw [sortS_perm (shTree_law h).2.2.1, sortS_A hn]
/-- The bound that shTree_t asks. -/
theorem raw_small {names : List ByteArray} {l : List Grp} (h : shErr names l = 0) : (rawT names l).ps.length ≤ 1000000 := by
  have hk := shErr_ok h
  by_cases h2 : 2 ≤ names.length
  · have := rawT_small hk h2; omega
  · have h1 : names.length = 1 := by have := hk.pos; omega
    have hin : innL l (allN names.length) = [] := by
      cases hc : innL l (allN names.length) with
      | nil => rfl
      | cons y q =>
        have h3 := hk.lam.two y (by rw [hc]; simp)
        have h4 : (bitsN names.length y).length ≤ names.length := by unfold bitsN; exact Nat.le_trans (List.length_filter_le _ _) (by simp)
        omega
    rw [rawT_R hk, flat_ps]
    unfold shR
    rw [hin, growR]
    have e1 : kidsX [] (allN names.length) = [] := rfl
    rw [e1, List.map_nil, List.nil_append, sizeR]
    have h5 : ∀ k lf, sizeRs (leavesN names lf k) ≤ k := by
      intro k lf
      unfold leavesN
      have : ∀ q : List Nat, sizeRs (q.map (leafN names)) = q.length := by
        intro q
        induction q with
        | nil => rfl
        | cons a q ih => rw [List.map_cons, sizeRs, ih]; unfold leafN; rw [sizeR, sizeRs, List.length_cons]; omega
      rw [this]
      exact Nat.le_trans (List.length_filter_le _ _) (by simp)
    have := h5 names.length (leftX [] (allN names.length))
    omega
end Go.Proofs.YtgjcfkadioblfaaGreat
namespace Go.Proofs.YtgjcfkadioblfaaGreat
open Go.RowKit Go.Shelf Go.Deep
section
variable {P : Program} {C : World → Prop}
theorem wpQuietP_append {ops : Array Oper} {Q : Act → Prop} : ∀ {l₁ l₂ : List Oper} {a : Act}, wpQuiet P ops C (fun a => wpQuiet P ops C Q l₂ a) l₁ a → wpQuiet P ops C Q (l₁ ++ l₂) a
  | [], _, _, h => h
  | o :: l₁, l₂, a, h => by
    have h2 := h
    unfold wpQuiet at h2
    show (if _ then _ else _)
    split
    · rename_i hw; rw [if_pos hw] at h2; exact Oper.quiet_mono (fun a h => wpQuietP_append h) h2
    · rename_i hw; rw [if_neg hw] at h2; exact wpQuietP_append h2
theorem wpQuietP_ops {ops ops' : Array Oper} (hy : yielded ops' = yielded ops) {Q : Act → Prop} : ∀ {l : List Oper} {a : Act}, wpQuiet P ops C Q l a → wpQuiet P ops' C Q l a
  | [], _, h => h
  | o :: l, a, h => by
    have h2 := h
    unfold wpQuiet at h2
    show (if _ then _ else _)
    rw [hy]
    split
    · rename_i hw; rw [if_pos hw] at h2; exact Oper.quiet_mono (fun a h => wpQuietP_ops hy h) h2
    · rename_i hw; rw [if_neg hw] at h2; exact wpQuietP_ops hy h2
theorem any_tailP {l : List Oper} {m : Nat} {Q : Exit → Act → World → Prop} (hl : l.length = m + 1) (hb : backB l = true) (hsk : Region.sinkB .any l.toArray m = true) (hch : Region.chainB .any l.toArray m = true) (hlast : ∀ o, l[m]? = some o → o.guard = none ∧ o.dst = none) (fuel : Nat) :
    ∀ (listed : Array Bool) (a : Act) (w : World), C w → HeadInv .any l.toArray m listed →
      wpAnyQ P .any (blankAt l m).toArray C (fun a => ∀ w, C w → wpOp P l.toArray Q m (fun a w => Q .normal a w) a w) fuel listed a → wpAny P .any l.toArray Q fuel listed a w := by
  have hm : m < l.toArray.size := by simp; omega
  induction fuel with
  | zero =>
    intro listed a w _ inv h
    have h1 := h.1
    rw [blank_ready] at h1
    exact absurd h1 (ready_some hl hb inv.size ⟨m, Nat.le_refl _, inv.tail m (Nat.le_refl _) hm⟩)
  | succ fuel ih =>
    intro listed a w hw inv h
    refine ⟨fun h0 => absurd h0 (ready_some hl hb inv.size ⟨m, Nat.le_refl _, inv.tail m (Nat.le_refl _) hm⟩), fun i hi => ?_⟩
    have h2 := h.2 i (by rw [blank_ready]; exact hi)
    have hil : i < l.toArray.size := (Array.getElem?_eq_some_iff.1 (mem_ready.1 hi).2.choose_spec.1).1
    by_cases e : i = m
    · subst e
      have hall : ∀ j, j < i → listed.getD j true = true := fun j hj => by
        cases hx : listed.getD j true with
        | true => rfl
        | false => exact absurd hi (tail_waits hsk hch hm inv _ j rfl hj hx i (Nat.le_refl _))
      have hnil : Region.ready .any l.toArray (listed.setIfInBounds i true) = [] := by
        rw [List.eq_nil_iff_forall_not_mem]
        intro j hj
        obtain ⟨hj1, o, ho, _⟩ := mem_ready.1 hj
        have hjl : j < l.toArray.size := (Array.getElem?_eq_some_iff.1 ho).1
        have hjl2 : j < i + 1 := by simp at hjl; omega
        by_cases e2 : j = i
        · subst e2
          have : j < listed.size := by rw [inv.size]; exact hjl
          simp [this] at hj1
        · rw [getD_set_ne true (by omega)] at hj1
          rw [hall j (by omega)] at hj1; cases hj1
      have hlt : i < l.length := by omega
      have hbi : (blankAt l i).toArray[i]? = some (blankOp l[i]) := by rw [blankAt_get, if_pos rfl, List.getElem?_eq_getElem hlt]; rfl
      obtain ⟨hg, hd⟩ := hlast l[i] (List.getElem?_eq_getElem hlt)
      unfold qOp at h2
      simp only [hbi] at h2
      have h3 := h2
      have hwt : ∀ y, Region.wanted (blankOp l[i]) y = true := fun y => by unfold Region.wanted blankOp; simp only [hg]
      rw [if_pos (hwt _)] at h3
      obtain ⟨v, _, h4⟩ := h3
      have hput : a.put (blankOp l[i]).dst v = a := by unfold blankOp; simp only [hd]; rfl
      rw [hput] at h4
      have h5 : wpOp P l.toArray Q i (fun a w => Q .normal a w) a w := by
        cases fuel with
        | zero => exact h4.2 w hw
        | succ f => exact h4.1 (by rw [blank_ready]; exact hnil) w hw
      refine wpOp_mono (fun a w hq => ?_) h5
      cases fuel with
      | zero => exact ⟨hnil, hq⟩
      | succ f => exact ⟨fun _ => hq, fun j hj => by rw [hnil] at hj; cases hj⟩
    · have him : i < m := by simp at hil; omega
      have hbi : (blankAt l m).toArray[i]? = l.toArray[i]? := by rw [blankAt_get, if_neg e]
      have h3 : qOp P l.toArray C i (wpAnyQ P .any (blankAt l m).toArray C (fun a => ∀ w, C w → wpOp P l.toArray Q m (fun a w => Q .normal a w) a w) fuel (listed.setIfInBounds i true)) a := by
        unfold qOp at h2 ⊢
        rw [hbi, blank_yielded] at h2
        exact h2
      exact wpOp_of_qOp hw (fun a' w' hw' hk => ih _ a' w' hw' (inv.set hi him) hk) h3
theorem region_tail_p {id : Nat} {Q : Exit → Act → World → Prop} {a : Act} {w : World} {l : List Oper} (m : Nat) (hm : P.follows .mixedOrders = true) (hB : tailB l m = true)
    (h : wpQuiet P l.toArray (fun w' => ∃ n, w' = w.drewN n) (fun a' => ∀ w', (∃ n, w' = w.drewN n) → wpList P l.toArray Q (l.drop m) a' w') (l.take m) a) : (Code.region id l.toArray true).wp P Q a w := by
  unfold tailB at hB
  simp only [Bool.and_eq_true, decide_eq_true_eq] at hB
  obtain ⟨⟨⟨⟨⟨⟨hl, hlex⟩, hbk⟩, hsk⟩, hch⟩, hdf⟩, hlast⟩ := hB
  have hmem : l[m]? = some (l[m]'(by omega)) := List.getElem?_eq_getElem (by omega)
  rw [hmem] at hlast
  simp only [Bool.and_eq_true, Option.isNone_iff_eq_none] at hlast
  simp only [Region.lexB, Bool.and_eq_true] at hlex
  have inv0 : HeadInv .any l.toArray m (Array.replicate l.toArray.size false) :=
    ⟨by simp, fun j oj _ hl => (by rw [getD_replicate_false] at hl; cases hl), fun t _ ht => getD_in (by simpa using ht) (getD_replicate_false _ _)⟩
  refine wp_region_any hm (any_tailP (C := fun w' => ∃ n, w' = w.drewN n) hl hbk hsk hch (fun o ho => by rw [hmem] at ho; cases ho; exact hlast) _ _ _ _ ⟨1, rfl⟩ inv0 ?_)
  have hsplit : blankAt l m = l.take m ++ [blankOp (l[m]'(by omega))] := by
    unfold blankAt; rw [hmem]
    simp only
    rw [List.set_eq_take_append_cons_drop, if_pos (by omega), List.drop_of_length_le (by omega)]
  have h1 : wpQuiet P (blankAt l m).toArray (fun w' => ∃ n, w' = w.drewN n) (fun a => ∀ w', (∃ n, w' = w.drewN n) → wpOp P l.toArray Q m (fun a w => Q .normal a w) a w') (blankAt l m) a := by
    refine wpQuietP_ops (blank_yielded l m) ?_
    rw [hsplit]
    refine wpQuietP_append ?_
    have hd : l.drop m = [l[m]'(by omega)] := by rw [List.drop_eq_getElem_cons (by omega), List.drop_of_length_le (by omega)]
    rw [hd] at h
    have hmono : ∀ {Q Q' : Act → Prop} (hq : ∀ a, Q a → Q' a) {l' : List Oper} {a : Act}, wpQuiet P l.toArray (fun w' => ∃ n, w' = w.drewN n) Q l' a → wpQuiet P l.toArray (fun w' => ∃ n, w' = w.drewN n) Q' l' a := by
      intro Q Q' hq l'
      induction l' with
      | nil => intro a h; exact hq a h
      | cons o l' ih =>
        intro a h
        have h2 := h
        unfold wpQuiet at h2
        show (if _ then _ else _)
        split
        · rename_i hw; rw [if_pos hw] at h2; exact Oper.quiet_mono (fun a h => ih h) h2
        · rename_i hw; rw [if_neg hw] at h2; exact ih h2
    refine hmono (fun a' hq => ?_) h
    show (if _ then _ else _)
    have hwt : ∀ y, Region.wanted (blankOp (l[m]'(by omega))) y = true := fun y => by unfold Region.wanted blankOp; simp only [hlast.1]
    rw [if_pos (hwt _)]
    refine ⟨undef, fun w' _ => ?_, fun w' hw' => ?_⟩
    · exact ⟨rfl, rfl⟩
    · have hput : a'.put (blankOp (l[m]'(by omega))).dst undef = a' := by unfold blankOp; simp only [hlast.2]; rfl
      rw [hput]
      have h2 := hq w' hw'
      unfold wpOp
      have hma : l.toArray[m]? = some (l[m]'(by omega)) := by simp
      rw [hma]
      simp only
      exact h2
  have h2 := wpAnyQ_lex (C := fun w' => ∃ n, w' = w.drewN n) (md := .any) hlex.1 (blankAt l m) 0 (Array.replicate (blankAt l m).toArray.size false) a (by simp) (by simpa using hlex.2) h1
  have hlen : (blankAt l m).length = l.toArray.size := by rw [← blankAt_size l m]; simp
  rw [hlen, blankAt_size] at h2
  exact h2
end
end Go.Proofs.YtgjcfkadioblfaaGreat
