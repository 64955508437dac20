/- The contract of slices.Sort at strings: the laying. slices.Sort at strings that the call has built. The law's names: A, B, .. slices.Equal at strings. Rose trees: the tree of a forest below a node is the rose tree, numbered depth first. Sorted rose trees; the rose tree of a tree numbered depth first is the tree again. -/
import Derived.Shelf.SlGeneric
import Derived.Shelf.Lays
import Derived.Shelf.Sort.Plain
import Derived.Ground.NamesProg
import Derived.Test.YtkfndaebmbnmaaaProg
import Derived.Test.YtkfndaebmbnmaaaQ5
import Derived.Test.YtkfndaebmbnmaaaQ1
import Derived.Sort.OwnSorted
import Derived.Shelf.Slices.In.SortNone
import Derived.Test.YtkfndaebmbnmaaaQ18
import Derived.Laws.IdiomStrings
import Derived.Test.YtkfndaebmbnmaaaQ4
import Derived.Test.YtkfndaebmbnmaaaQ2
import Derived.Test.YtkfndaebmbnmaaaQ17
import Derived.Test.YtkfndaebmbnmaaaQ19
namespace Go.Proofs
open Go.Shelf
def Try.sortS_ren : Go.Shelf.Ren := ⟨fun | 190 => 38 | 125 => 70 | 258 => 69 | 128 => 93 | 129 => 94 | 302 => 84 | 303 => 85 | 304 => 86 | 305 => 87 | 306 => 88 | 307 => 89 | 308 => 90 | 309 => 91 | 310 => 92 | 333 => 102 | 329 => 103 | 330 => 104 | 334 => 105 | 335 => 106 | 336 => 107 | 344 => 123 | n => n, fun | 31 => 53 | 9 => 9 | 3 => 3 | 46 => 89 | 0 => 0 | 51 => 115 | 53 => 69 | 4 => 4 | 183 => 108 | 182 => 107 | 131 => 92 | 5 => 5 | 218 => 129 | 222 => 133 | 228 => 144 | 229 => 145 | n => n, fun | n => n⟩
theorem Try.sortS : Go.Proofs.Lays.n190 Try.prog Try.sortS_ren := {
  mixed := by kernel_rfl
  f125 := Try.func70.trans (congrArg some (by kernel_rfl))
  f128 := Try.func93.trans (congrArg some (by kernel_rfl))
  f129 := Try.func94.trans (congrArg some (by kernel_rfl))
  f190 := Try.func38.trans (congrArg some (by kernel_rfl))
  f258 := Try.func69.trans (congrArg some (by kernel_rfl))
  f302 := Try.func84.trans (congrArg some (by kernel_rfl))
  f303 := Try.func85.trans (congrArg some (by kernel_rfl))
  f304 := Try.func86.trans (congrArg some (by kernel_rfl))
  f305 := Try.func87.trans (congrArg some (by kernel_rfl))
  f306 := Try.func88.trans (congrArg some (by kernel_rfl))
  f307 := Try.func89.trans (congrArg some (by kernel_rfl))
  f308 := Try.func90.trans (congrArg some (by kernel_rfl))
  f309 := Try.func91.trans (congrArg some (by kernel_rfl))
  f310 := Try.func92.trans (congrArg some (by kernel_rfl))
  f329 := Try.func103.trans (congrArg some (by kernel_rfl))
  f330 := Try.func104.trans (congrArg some (by kernel_rfl))
  f333 := Try.func102.trans (congrArg some (by kernel_rfl))
  f334 := Try.func105.trans (congrArg some (by kernel_rfl))
  f335 := Try.func106.trans (congrArg some (by kernel_rfl))
  f336 := Try.func107.trans (congrArg some (by kernel_rfl))
  f344 := Try.func123.trans (congrArg some (by kernel_rfl))
  t0 := Try.underlying0
  a0 := Try.isAgg0
  z0 := Try.sizeOf0
  v0 := Try.zeroValue0
  t3 := Try.underlying3
  a3 := Try.isAgg3
  z3 := Try.sizeOf3
  v3 := Try.zeroValue3
  t4 := Try.underlying4
  a4 := Try.isAgg4
  z4 := Try.sizeOf4
  v4 := Try.zeroValue4
  t5 := Try.underlying5
  a5 := Try.isAgg5
  z5 := Try.sizeOf5
  v5 := Try.zeroValue5
  t9 := Try.underlying9
  a9 := Try.isAgg9
  z9 := Try.sizeOf9
  v9 := Try.zeroValue9
  t31 := Try.underlying53
  a31 := Try.isAgg53
  z31 := Try.sizeOf53
  v31 := Try.zeroValue53
  t46 := Try.underlying89
  a46 := Try.isAgg89
  z46 := Try.sizeOf89
  v46 := Try.zeroValue89
  t51 := Try.underlying115
  a51 := Try.isAgg115
  z51 := Try.sizeOf115
  v51 := Try.zeroValue115
  t53 := Try.underlying69
  a53 := Try.isAgg69
  z53 := Try.sizeOf69
  v53 := Try.zeroValue69
  t131 := Try.underlying92
  a131 := Try.isAgg92
  z131 := Try.sizeOf92
  v131 := Try.zeroValue92
  t182 := Try.underlying107
  a182 := Try.isAgg107
  z182 := Try.sizeOf107
  v182 := Try.zeroValue107
  t183 := Try.underlying108
  a183 := Try.isAgg108
  z183 := Try.sizeOf108
  v183 := Try.zeroValue108
  t218 := Try.underlying129
  a218 := Try.isAgg129
  z218 := Try.sizeOf129
  v218 := Try.zeroValue129
  t222 := Try.underlying133
  a222 := Try.isAgg133
  z222 := Try.sizeOf133
  v222 := Try.zeroValue133
  t228 := Try.underlying144
  a228 := Try.isAgg144
  z228 := Try.sizeOf144
  v228 := Try.zeroValue144
  t229 := Try.underlying145
  a229 := Try.isAgg145
  z229 := Try.sizeOf145
  v229 := Try.zeroValue145 }
end Go.Proofs
namespace Go.Proofs.Ytkfndaebmbnmaaa
open Go.RowKit Go.Sort Go.Shelf Go.Deep
def ofL (l : List UInt8) : ByteArray := ⟨l.toArray⟩
def toL (b : ByteArray) : List UInt8 := b.data.toList
theorem ofL_toL (b : ByteArray) : ofL (toL b) = b := by cases b; simp [ofL, toL]
theorem toL_ofL (l : List UInt8) : toL (ofL l) = l := by simp [ofL, toL]
def srtL (ss : List (List UInt8)) : List (List UInt8) := ss.mergeSort fun x y => decide (x ≤ y)
/-- The strings, sorted. -/
def sortS (xs : List ByteArray) : List ByteArray := (srtL (xs.map toL)).map ofL
theorem sortS_len (xs : List ByteArray) : (sortS xs).length = xs.length := by unfold sortS srtL; rw [List.length_map, List.length_mergeSort, List.length_map]
theorem enc_map (ss : List (List UInt8)) : ss.map encStr = (ss.map ofL).map Value.string := by rw [List.map_map]; rfl
theorem enc_map' (xs : List ByteArray) : (xs.map toL).map encStr = xs.map Value.string := by
  rw [List.map_map]
  refine List.map_congr_left fun b _ => ?_
  show Value.string (ofL (toL b)) = _
  rw [ofL_toL]
set_option maxRecDepth 100000 in
theorem sort_str_t (w w1 : World) (v : Value) (xs : List ByteArray) (hu : Up w w1) (ho : Owns w.heap.size 9 w1 v (xs.map Value.string)) (hlen : xs.length ≤ 1000000) :
    Calls Try.prog 38 #[v] w1 fun e w' => e = .returned (.tuple #[]) ∧ Up w w' ∧ Owns w.heap.size 9 w' v ((sortS xs).map Value.string) := by
  rcases ho.2 with ⟨rfl, h0⟩ | ⟨g, cap, cur, rfl, hg, hc, hn, hcm, hcs, ht⟩
  · have hx : xs = [] := by cases xs with | nil => rfl | cons _ _ => simp at h0
    subst hx
    refine (Any.slices_Sort_string_none Try.sortS none 0 w1).mono ?_
    rintro e w' ⟨rfl, rfl⟩
    exact ⟨rfl, hu, by unfold sortS srtL; simpa using ho⟩
  · simp only [List.length_map] at hn ht ho ⊢
    have hln : (xs.map toL).length = xs.length := List.length_map _
    have hH : Holds encStr w1 g 0 (xs.map toL).toArray := holds_of_block hc (by rw [enc_map', hln]; simpa using ht)
    have hS := Any.slices_Sort_string Try.sortS g 0 cap (xs.map toL) w1 hH (Array.getElem?_eq_some_iff.1 hc).1 (by rw [hln]; omega)
    rw [hln] at hS
    refine hS.mono ?_
    rintro e w' ⟨rfl, n, os, rfl⟩
    refine ⟨rfl, Below.grown hu (grownBy_sorted _) hu.size (fun j hj => by cases hj; exact hg), ?_⟩
    have h := ownsRow_sorted (n := n) (os := os) (ss := xs.map toL) (ts := srtL (xs.map toL)) (List.length_mergeSort _) hg hc (by rw [hln]; exact hn) hcm (by simpa using hcs)
    unfold Owns
    rw [List.length_map, sortS_len]
    rw [hln, enc_map] at h
    exact h
end Go.Proofs.Ytkfndaebmbnmaaa
namespace Go.Proofs.Ytkfndaebmbnmaaa
open Go.RowKit Go.Deep
/-- The name of number i. -/
def nmLt (i : Nat) : ByteArray := ⟨#[UInt8.ofNat (65 + i)]⟩
def namesA (n : Nat) : List ByteArray := (List.range n).map nmLt
theorem namesA_succ (n : Nat) : namesA (n + 1) = namesA n ++ [nmLt n] := by unfold namesA; rw [List.range_succ, List.map_append]; rfl
theorem namesA_len (n : Nat) : (namesA n).length = n := by simp [namesA]
def NmPost (w : World) (n : Nat) (e : Ending) (w' : World) : Prop := Up w w' ∧ ∃ v, e = .returned v ∧ Owns w.heap.size 9 w' v ((namesA n).map Value.string)
set_option maxRecDepth 100000 in
set_option maxHeartbeats 1000000 in
theorem names_t (w : World) (n : Nat) (hn : n ≤ 64) : Calls Try.prog 35 #[.int .i64 n] w (NmPost w n) := by
  have i0 : (0 : Int) ≤ (n : Int) := by omega
  go_enter Try.func35, Try.ntmps35
  go_wp2_with fail
  go_loopw [3, 4, 6] (fun d _ i wr => ∃ k : Nat, k ≤ n ∧ i = .int .i64 k ∧ Hid (Owns w.heap.size 9 wr d ((namesA k).map Value.string)) ∧ Hid (Up w wr)) (fun _ _ i _ => n - (intOf i).toNat)
  case atStart => exact ⟨0, Nat.zero_le _, rfl, Owns.nil _ _ _, Up.refl _⟩
  case round =>
    obtain ⟨k, hk, rfl, hD, hU⟩ := hrel
    obtain ⟨wo, rfl⟩ : ∃ wo : World, wo = wr := ⟨_, rfl⟩
    obtain ⟨d, rfl⟩ : ∃ d : Value, d = u3 := ⟨_, rfl⟩
    by_cases hlt : k < n
    · have i1 : (0 : Int) ≤ (k : Int) := by omega
      have i2 : (k : Int) < (n : Int) := by omega
      have d1 : decide ((k : Int) < (n : Int)) = true := by simp; omega
      have hcv : (convert 85 9 (.slice (some ⟨wo.heap.size, 0, none⟩) 1 1)).run Try.prog (wo.alloc (.cells #[.int .u8 (65 + (k : Int))] 5)) = .ok (.string (nmLt k)) (wo.alloc (.cells #[.int .u8 (65 + (k : Int))] 5)) :=
        run_convert_bytes_back _ 85 9 5 ⟨wo.heap.size, 0, none⟩ 1 [UInt8.ofNat (65 + k)] Try.underlying85 Try.underlying5 Try.underlying9 (fun j hj => by
          obtain rfl : j = 0 := by simp at hj; omega
          show (wo.alloc _).cell? ⟨wo.heap.size, 0, none⟩ = _
          rw [box1_0]
          have e : (UInt8.ofNat (65 + k)).toNat = 65 + k := by simp; omega
          show some (Value.int .u8 (65 + (k : Int))) = some (Value.int .u8 (((UInt8.ofNat (65 + k)).toNat : Nat) : Int))
          rw [e]; rfl)
      have HSN := Lib.hid (namesA_succ k)
      have hal := Up.alloc wo (.cells #[.int .u8 (65 + (k : Int))] 5)
      have HUA := Lib.hid (hU.out.trans hal)
      have HDA := Lib.hid (hD.out.kept fun b _ hb => Below.block hal b hb)
      have HLN : Hid (((namesA k).map Value.string).length = k) := by unfold Hid; rw [List.length_map, namesA_len]
      have hsz : (wo.alloc (.cells #[.int .u8 (65 + (k : Int))] 5)).heap.size = wo.heap.size + 1 := World.size_alloc _ _
      have hwz : w.heap.size ≤ (wo.alloc (.cells #[.int .u8 (65 + (k : Int))] 5)).heap.size := HUA.out.size
      clear hal
      go_wp2_with (at_builtin; refine wpList_appM (wo.alloc (.cells #[.int .u8 (65 + (k : Int))] 5)) rfl _ _ 53 rfl w.heap.size 9 (.string ⟨#[]⟩) 16 Try.underlying53 Try.infoStr2 rfl (by decide) HDA.out rfl (.string (nmLt k)) _ hsz rfl rfl k HLN.out (by omega) hwz ?_; intro g8 cap8 w8 hown1 hgr1 hbe1)
      go_roundw
      case rel => exact ⟨k + 1, by omega, by go_num, by unfold Hid; rw [HSN.out, List.map_append]; exact hown1, Below.trans HUA.out hbe1⟩
      case measure => simp [intOf]; omega
    · obtain rfl : k = n := by omega
      have d1 : decide ((k : Int) < (k : Int)) = false := by simp
      go_wp2_with fail
      go_ret
      exact ⟨hU.out, _, rfl, hD.out⟩
end Go.Proofs.Ytkfndaebmbnmaaa
namespace Go.Proofs.Ytkfndaebmbnmaaa
open Go.RowKit Go.Deep
/-- Equal strings, one by one. -/
theorem strs_ext {xs ys : List ByteArray} (hl : xs.length = ys.length) (h : ∀ j, j < xs.length → gs xs j = gs ys j) : xs = ys := by
  refine List.ext_getElem hl fun i h1 h2 => ?_
  have := h i h1
  simpa [gs, h1, h2] using this
set_option maxRecDepth 100000 in
set_option maxHeartbeats 400000 in
theorem equal_str_t (S T : Nat → Prop) (w : World) (v u : Value) (xs ys : List ByteArray) (h : StrsAt S w v xs) (h2 : StrsAt T w u ys) (hn : xs.length ≤ 1000000) (hn2 : ys.length ≤ 1000000) :
    Calls Try.prog 39 #[v, u] w (EqPost w (decide (xs = ys))) := by
  obtain ⟨p, cap, rfl, hcap, _⟩ := SlAt.open h
  obtain ⟨q, cap2, rfl, hcap2, _⟩ := SlAt.open h2
  have HX : Hid (StrsAt S w (.slice p xs.length cap) xs) := h
  have HY : Hid (StrsAt T w (.slice q ys.length cap2) ys) := h2
  clear h h2
  by_cases hl : xs.length = ys.length
  · have hl1 : ((xs.length : Int) != ys.length) = false := by simp [hl]
    have HL := Lib.hid hl
    clear hl
    go_enter Try.func39, Try.ntmps39
    go_wp2_with fail
    go_loopw [5, 13] (fun _ i wr => ∃ k n : Nat, k ≤ xs.length ∧ i = .int .i64 k ∧ wr = w.drewN n ∧ Hid (∀ j, j < k → gs xs j = gs ys j)) (fun _ i _ => xs.length - (intOf i).toNat)
    case atStart => exact ⟨0, 0, Nat.zero_le _, rfl, rfl, fun j hj => absurd hj (Nat.not_lt_zero _)⟩
    case round =>
      obtain ⟨k, n, hk, rfl, rfl, hd⟩ := hrel
      by_cases hlt : k < xs.length
      · have hlt2 : k < ys.length := by rw [← HL.out]; exact hlt
        obtain ⟨b, off, rfl, hc⟩ := strs_get HX.out hlt
        obtain ⟨b2, off2, rfl, hc2⟩ := strs_get HY.out hlt2
        have i1 : (0 : Int) ≤ (k : Int) := by omega
        have i2 : (k : Int) < (xs.length : Int) := by omega
        have i3 : (k : Int) < (ys.length : Int) := by omega
        generalize hx : gs xs k = x at *
        generalize hy : gs ys k = y at *
        have HXX := Lib.hid hx
        have HYY := Lib.hid hy
        clear hx hy
        by_cases hxy : x = y
        · have hxy0 : (x.toList == y.toList) = true := by simp [hxy]
          have hxy1 : (x.toList != y.toList) = false := by simp [hxy]
          have HXY := Lib.hid hxy
          clear hxy
          go_wp2_with fail
          go_quiet (fail)
          go_wp2_with fail
          go_roundw
          case rel => exact ⟨k + 1, n + nq, by omega, by go_num, rfl, fun j hj => if e : j = k then by subst e; rw [HXX.out, HYY.out, HXY.out] else hd.out j (by omega)⟩
          case measure => simp [intOf]; omega
        · have hxy0 : (x.toList == y.toList) = false := by
            cases h : (x.toList == y.toList) with
            | false => rfl
            | true => exact absurd (str_yes h) hxy
          have hxy1 : (x.toList != y.toList) = true := by unfold bne; rw [hxy0]; rfl
          have HXY := Lib.hid hxy
          clear hxy
          go_wp2_with fail
          go_quiet (fail)
          go_wp2_with fail
          go_ret
          refine ⟨ret_bool ?_, n + nq, by rw [World.drewN_drewN]⟩
          rw [eq_comm, decide_eq_false_iff_not]
          rintro rfl
          exact HXY.out (by rw [← HXX.out, ← HYY.out])
      · obtain rfl : k = xs.length := by omega
        clear hlt hk
        have hex : xs = ys := strs_ext HL.out hd.out
        have HEX : Hid (decide (xs = ys) = true) := decide_eq_true hex
        clear hex
        go_wp2_with fail
        go_ret
        exact ⟨ret_bool (by rw [HEX.out]), n, rfl⟩
  · have hl1 : ((xs.length : Int) != ys.length) = true := by simp; omega
    have HL := Lib.hid hl
    clear hl
    go_enter Try.func39, Try.ntmps39
    go_wp2_with fail
    go_ret
    refine ⟨ret_bool ?_, 0, rfl⟩
    rw [eq_comm, decide_eq_false_iff_not]
    rintro rfl
    exact HL.out rfl
end Go.Proofs.Ytkfndaebmbnmaaa
namespace Go.Proofs.Ytkfndaebmbnmaaa
inductive RT where
  | node (nm : ByteArray) (kids : List RT)
namespace RT
def nm : RT → ByteArray | .node n _ => n
def kids : RT → List RT | .node _ k => k
end RT
mutual
def sizeR : RT → Nat
  | .node _ ks => 1 + sizeRs ks
def sizeRs : List RT → Nat
  | [] => 0
  | r :: rs => sizeR r + sizeRs rs
end
mutual
/-- The parents, the node's own number and its parent's given. -/
def psR : RT → Nat → Int → List Int
  | .node _ ks, n, p => p :: psRs ks n (n + 1)
def psRs : List RT → Nat → Nat → List Int
  | [], _, _ => []
  | r :: rs, own, n => psR r n (own : Int) ++ psRs rs own (n + sizeR r)
end
mutual
def nsR : RT → List ByteArray
  | .node nm ks => nm :: nsRs ks
def nsRs : List RT → List ByteArray
  | [] => []
  | r :: rs => nsR r ++ nsRs rs
end
def flat (r : RT) : Tre := ⟨psR r 0 (-1), nsR r⟩
mutual
theorem psR_len : ∀ (r : RT) (n : Nat) (p : Int), (psR r n p).length = sizeR r
  | .node _ ks, n, p => by simp only [psR, sizeR, List.length_cons]; rw [psRs_len ks n (n + 1)]; omega
theorem psRs_len : ∀ (rs : List RT) (own n : Nat), (psRs rs own n).length = sizeRs rs
  | [], _, _ => rfl
  | r :: rs, own, n => by simp only [psRs, sizeRs, List.length_append]; rw [psR_len r n own, psRs_len rs own (n + sizeR r)]
end
mutual
theorem nsR_len : ∀ (r : RT), (nsR r).length = sizeR r
  | .node _ ks => by simp only [nsR, sizeR, List.length_cons]; rw [nsRs_len ks]; omega
theorem nsRs_len : ∀ (rs : List RT), (nsRs rs).length = sizeRs rs
  | [] => rfl
  | r :: rs => by simp only [nsRs, sizeRs, List.length_append]; rw [nsR_len r, nsRs_len rs]
end
/-- The rose tree of a forest below node i, d levels deep. -/
def toRD (F : Frs) : Nat → Nat → RT
  | 0, i => .node (F.nm i) []
  | d + 1, i => .node (F.nm i) ((F.kids i).map (toRD F d))
def toRF (F : Frs) (rk : Nat → Nat) (i : Nat) : RT := toRD F (rk i) i
section
variable {F : Frs} {n : Nat} {rk : Nat → Nat}
theorem toRD_fuel (h : Wf F n rk) : ∀ {d e i : Nat}, i < n → rk i ≤ d → rk i ≤ e → toRD F d i = toRD F e i := by
  intro d
  induction d with
  | zero =>
    intro e i hi hd he
    have hk : F.kids i = [] := by
      cases hk : F.kids i with
      | nil => rfl
      | cons k l => have := (h.kid i hi k (by rw [hk]; simp)).2; omega
    cases e with
    | zero => rfl
    | succ e => simp [toRD, hk]
  | succ d ih =>
    intro e i hi hd he
    cases e with
    | zero =>
      have hk : F.kids i = [] := by
        cases hk : F.kids i with
        | nil => rfl
        | cons k l => have := (h.kid i hi k (by rw [hk]; simp)).2; omega
      simp [toRD, hk]
    | succ e =>
      simp only [toRD]
      congr 1
      refine List.map_congr_left fun k hk => ?_
      have := h.kid i hi k hk
      exact ih this.1 (by omega) (by omega)
theorem toRF_eq (h : Wf F n rk) {i : Nat} (hi : i < n) : toRF F rk i = .node (F.nm i) ((F.kids i).map (toRF F rk)) := by
  have h1 : toRF F rk i = toRD F (rk i + 1) i := toRD_fuel h hi (Nat.le_refl _) (Nat.le_succ _)
  rw [h1]
  simp only [toRD]
  congr 1
  refine List.map_congr_left fun k hk => ?_
  have := h.kid i hi k hk
  exact toRD_fuel h this.1 (by omega) (Nat.le_refl _)
theorem lookup_putI_ne {l : List (Option Nat × Int)} {k j : Option Nat} (v : Int) (h : j ≠ k) : (putI l k v).lookup j = l.lookup j := by
  have hne : (j == k) = false := by simpa using h
  unfold putI
  split
  · induction l with
    | nil => simp [List.lookup, hne]
    | cons x l ih =>
      rename_i hl
      obtain ⟨x1, x2⟩ := x
      rw [List.cons_append, List.lookup_cons, List.lookup_cons]
      cases hx : (j == x1)
      · refine ih ?_
        rw [List.lookup_cons] at hl
        cases hx2 : (k == x1)
        · rw [hx2] at hl; exact hl
        · rw [hx2] at hl; cases hl
      · rfl
  · have key : ∀ q : List (Option Nat × Int), List.lookup j (q.map (fun x => if x.1 = k then (k, v) else x)) = List.lookup j q := by
      intro q
      induction q with
      | nil => rfl
      | cons x l ih =>
        obtain ⟨x1, x2⟩ := x
        rw [List.map_cons, List.lookup_cons]
        by_cases e : x1 = k
        · subst e
          simp only [if_true]
          rw [List.lookup_cons, hne]; exact ih
        · rw [if_neg e, List.lookup_cons]
          cases (j == x1)
          · exact ih
          · rfl
    exact key l
theorem lookup_putI_new {l : List (Option Nat × Int)} {k : Option Nat} (v : Int) (h : l.lookup k = none) : (putI l k v).lookup k = some v := by
  unfold putI
  rw [h]
  simp only [Option.isNone_none, if_true]
  induction l with
  | nil => simp
  | cons x l ih =>
    obtain ⟨x1, x2⟩ := x
    rw [List.lookup_cons] at h
    rw [List.cons_append, List.lookup_cons]
    cases hx : (k == x1)
    · rw [hx] at h; exact ih h
    · rw [hx] at h; cases h
/-- The state of the numbering behind a part of the tree. -/
structure NumTo (s s' : Num) (ps : List Int) (ns : List ByteArray) (nd : List Nat) : Prop where
  ps : s'.ps = s.ps ++ ps
  ns : s'.ns = s.ns ++ ns
  old : ∀ k : Option Nat, (∀ j ∈ nd, k ≠ some j) → s'.mp.lookup k = s.mp.lookup k
theorem num_sub (h : Arb F n rk) {R : Nat} (hR : ∀ i, i < n → rk i ≤ R) : ∀ {d i : Nat} (p : Option Nat) (np : Int) (s : Num), i < n → rk i ≤ d → p ≠ some i → s.mp.lookup p = some np → (∀ j ∈ nodesF F rk i, s.mp.lookup (some j) = none) →
    NumTo s ((seqF F rk i p).foldl (numS F) s) (psR (toRF F rk i) s.ps.length np) (nsR (toRF F rk i)) (nodesF F rk i) := by
  intro d
  induction d with
  | zero =>
    intro i p np s hi hd hp hl hn
    have hk : F.kids i = [] := by
      cases hk : F.kids i with
      | nil => rfl
      | cons k l => have := (h.wf.kid i hi k (by rw [hk]; simp)).2; omega
    rw [seqF_eq h.wf hi, toRF_eq h.wf hi, nodesF_eq h.wf hi, hk]
    have hni := hn i (by rw [nodesF_eq h.wf hi]; simp)
    refine ⟨?_, ?_, fun k hk2 => lookup_putI_ne _ (hk2 i (by simp))⟩
    · show s.ps ++ [((putI s.mp (some i) _).lookup p).getD 0] = _
      rw [lookup_putI_ne _ hp, hl]; rfl
    · rfl
  | succ d ih =>
    intro i p np s hi hd hp hl hn
    rw [seqF_eq h.wf hi, toRF_eq h.wf hi, nodesF_eq h.wf hi]
    have hni := hn i (by rw [nodesF_eq h.wf hi]; simp)
    have hnd := nodesF_nodup h hR hi (Nat.le_refl (rk i))
    rw [nodesF_eq h.wf hi, List.nodup_cons] at hnd
    have key : ∀ (l : List Nat), (∀ k ∈ l, k ∈ F.kids i) → (l.flatMap fun k => nodesF F rk k).Nodup → (∀ k ∈ l, i ∉ nodesF F rk k) → ∀ (s2 : Num) (own : Nat), s2.mp.lookup (some i) = some (own : Int) → (∀ k ∈ l, ∀ j ∈ nodesF F rk k, s2.mp.lookup (some j) = none) →
        NumTo s2 ((l.flatMap fun k => seqF F rk k (some i)).foldl (numS F) s2) (psRs (l.map (toRF F rk)) own s2.ps.length) (nsRs (l.map (toRF F rk))) (l.flatMap fun k => nodesF F rk k) := by
      intro l
      induction l with
      | nil => intro _ _ _ s2 own _ _; exact ⟨by simp [psRs], by simp [nsRs], fun _ _ => rfl⟩
      | cons c l ihl =>
        intro hin hdl hil s2 own ho hno
        have hcc := h.wf.kid i hi c (hin c (by simp))
        rw [List.flatMap_cons, List.foldl_append, List.flatMap_cons]
        rw [List.flatMap_cons, List.nodup_append] at hdl
        have h1 := ih (some i) (own : Int) s2 hcc.1 (by omega) (fun e => by
          injection e with e
          have := hcc.2; rw [e] at this; omega) ho (hno c (by simp))
        have h2 := ihl (fun k hk => hin k (by simp [hk])) hdl.2.1 (fun k hk => hil k (by simp [hk])) ((seqF F rk c (some i)).foldl (numS F) s2) own
          ((h1.old (some i) (fun j hj e => by injection e with e; subst e; exact hil c (by simp) hj)).trans ho)
          (fun k hk j hj => (h1.old (some j) (fun j2 hj2 e => by
            injection e with e; subst e
            exact hdl.2.2 j hj2 j (List.mem_flatMap.2 ⟨k, hk, hj⟩) rfl)).trans (hno k (by simp [hk]) j hj))
        refine ⟨?_, ?_, fun k hk => ?_⟩
        · rw [h2.ps, h1.ps, List.map_cons, psRs, List.append_assoc, List.length_append, psR_len]
        · rw [h2.ns, h1.ns, List.map_cons, nsRs, List.append_assoc]
        · rw [h2.old k (fun j hj => hk j (by simp [hj])), h1.old k (fun j hj => hk j (by simp [hj]))]
    have hin : ∀ k ∈ F.kids i, i ∉ nodesF F rk k := fun k hk hm => hnd.1 (List.mem_flatMap.2 ⟨k, hk, hm⟩)
    have h3 := key (F.kids i) (fun k hk => hk) hnd.2 hin (numS F s (i, p)) s.ps.length (lookup_putI_new _ hni) (fun k hk j hj => by
      show (putI s.mp (some i) _).lookup (some j) = none
      rw [lookup_putI_ne _ (fun e => by injection e with e; subst e; exact hin k hk hj)]
      exact hn j (by rw [nodesF_eq h.wf hi]; exact List.mem_cons_of_mem _ (List.mem_flatMap.2 ⟨k, hk, hj⟩)))
    have hps : (numS F s (i, p)).ps = s.ps ++ [np] := by
      show s.ps ++ [((putI s.mp (some i) _).lookup p).getD 0] = _
      rw [lookup_putI_ne _ hp, hl]; rfl
    rw [List.foldl_cons]
    refine ⟨?_, ?_, fun k hk => ?_⟩
    · rw [h3.ps, hps, psR, List.append_assoc, List.length_append]; rfl
    · rw [h3.ns]
      show (s.ns ++ [F.nm i]) ++ _ = _
      rw [nsR, List.append_assoc]; rfl
    · rw [h3.old k (fun j hj => hk j (by simp [hj]))]
      exact lookup_putI_ne _ (hk i (by simp))
/-- The tree of the forest below i is its rose tree, numbered depth first. -/
theorem treeF_flat (h : Arb F n rk) {R : Nat} (hR : ∀ i, i < n → rk i ≤ R) {i : Nat} (hi : i < n) : treeF F rk i = flat (toRF F rk i) := by
  have h1 := num_sub h hR (d := rk i) none (-1) num0 hi (Nat.le_refl _) (fun e => by cases e) rfl (fun j _ => rfl)
  unfold treeF flat numL
  rw [h1.ps, h1.ns]
  rfl
end
end Go.Proofs.Ytkfndaebmbnmaaa
namespace Go.Proofs.Ytkfndaebmbnmaaa
/-- The name of the first leaf, depth first. -/
def firstR : RT → ByteArray
  | .node nm [] => nm
  | .node _ (k :: _) => firstR k
def insR (a : RT) : List RT → List RT
  | [] => [a]
  | b :: l => if cmpS (firstR a) (firstR b) ≤ 0 then a :: b :: l else b :: insR a l
mutual
def sortR : RT → RT
  | .node nm ks => .node nm (sortRs ks)
def sortRs : List RT → List RT
  | [] => []
  | r :: rs => insR (sortR r) (sortRs rs)
end
theorem insR_map {f : Nat → ByteArray} {g : Nat → RT} {a : Nat} (ha : firstR (g a) = f a) : ∀ l : List Nat, (∀ k ∈ l, firstR (g k) = f k) → insR (g a) (l.map g) = (insB f a l).map g
  | [], _ => rfl
  | b :: l, h => by
    have hb := h b (by simp)
    rw [List.map_cons, insR, insB, ha, hb]
    unfold leB
    by_cases e : cmpS (f a) (f b) ≤ 0
    · rw [if_pos e, if_pos (by simpa using e)]; rfl
    · rw [if_neg e, if_neg (by simpa using e), insR_map ha l (fun k hk => h k (by simp [hk]))]; rfl
theorem mem_isrt {f : Nat → ByteArray} {l : List Nat} {k : Nat} : k ∈ isrt f l ↔ k ∈ l := by rw [← srtBy_eq]; exact (srtBy_perm f l).mem_iff
theorem sortRs_map {f : Nat → ByteArray} {h : Nat → RT} : ∀ l : List Nat, (∀ k ∈ l, firstR (sortR (h k)) = f k) → sortRs (l.map h) = (isrt f l).map fun k => sortR (h k)
  | [], _ => rfl
  | a :: l, hf => by
    rw [List.map_cons, sortRs, isrt, sortRs_map l (fun k hk => hf k (by simp [hk]))]
    exact insR_map (g := fun k => sortR (h k)) (hf a (by simp)) (isrt f l) (fun k hk => hf k (by simp [mem_isrt.1 hk]))
section
variable {F : Frs} {n : Nat} {rk : Nat → Nat}
theorem Wf.srt (h : Wf F n rk) (p : Nat → Bool) : Wf (F.srt rk p) n rk := ⟨fun i hi k hk => h.kid i hi k ((F.srt_perm rk p i).mem_iff.1 hk)⟩
theorem toRF_srt (h : Wf F n rk) (p : Nat → Bool) : ∀ {d i : Nat}, i < n → rk i ≤ d → (∀ j, subF F rk i j = true → p j = true) → toRF (F.srt rk p) rk i = sortR (toRF F rk i) ∧ firstR (sortR (toRF F rk i)) = lsF F rk i := by
  intro d
  have hkids : ∀ i, p i = true → (F.srt rk p).kids i = srtBy (lsF F rk) (F.kids i) := fun i hp => by
    show (if p i then _ else _ : List Nat) = _
    rw [if_pos hp]
  induction d with
  | zero =>
    intro i hi hd hp
    have hk : F.kids i = [] := by
      cases hk : F.kids i with
      | nil => rfl
      | cons k l => have := (h.kid i hi k (by rw [hk]; simp)).2; omega
    have hk2 : (F.srt rk p).kids i = [] := by rw [hkids i (hp i (subF_self h hi)), hk]; simp [srtBy]
    rw [toRF_eq (h.srt p) hi, toRF_eq h hi, lsF_eq h hi, hk, hk2]
    refine ⟨rfl, ?_⟩
    simp [srtBy, sortR, sortRs, firstR]
  | succ d ih =>
    intro i hi hd hp
    have hk2 := hkids i (hp i (subF_self h hi))
    have key : ∀ k ∈ F.kids i, toRF (F.srt rk p) rk k = sortR (toRF F rk k) ∧ firstR (sortR (toRF F rk k)) = lsF F rk k := fun k hk => by
      have hkk := h.kid i hi k hk
      exact ih hkk.1 (by omega) (fun j hj => hp j (subF_kid h hi hk hj))
    have hs : sortRs ((F.kids i).map (toRF F rk)) = (isrt (lsF F rk) (F.kids i)).map fun k => sortR (toRF F rk k) := sortRs_map _ (fun k hk => (key k hk).2)
    rw [toRF_eq (h.srt p) hi, toRF_eq h hi, lsF_eq h hi, hk2, srtBy_eq, sortR, hs]
    refine ⟨?_, ?_⟩
    · show RT.node (F.nm i) _ = _
      congr 1
      exact List.map_congr_left fun k hk => (key k (mem_isrt.1 hk)).1
    · cases hc : isrt (lsF F rk) (F.kids i) with
      | nil => rfl
      | cons k l =>
        rw [List.map_cons, firstR]
        exact (key k (mem_isrt.1 (by rw [hc]; simp))).2
end
/-- The rose tree of a tree. -/
def toR (t : Tre) : RT := toRF (frT t) (rkT t) 0
/-- The canonical tree: the children sorted, numbered depth first. -/
theorem canT_flat {t : Tre} (h : treeErr t = 0) : canT t = flat (sortR (toR t)) := by
  obtain ⟨hp, _⟩ := treeErr_zero h
  unfold canT
  rw [treeF_flat (canF_arb h) (R := t.ps.length) (fun i _ => rkT_le t i) hp]
  congr 1
  exact (toRF_srt (frT_arb h).wf _ hp (Nat.le_refl _) (fun j hj => by simpa using hj)).1
/-- The places of own in a part of the list that begins at place b. -/
def kf (own : Nat) : List Int → Nat → List Nat
  | [], _ => []
  | p :: ps, b => if p = (own : Int) then b :: kf own ps (b + 1) else kf own ps (b + 1)
theorem kf_app (own : Nat) : ∀ (a c : List Int) (b : Nat), kf own (a ++ c) b = kf own a b ++ kf own c (b + a.length)
  | [], c, b => rfl
  | x :: a, c, b => by
    rw [List.cons_append, kf, kf, kf_app own a c (b + 1), List.length_cons, show b + 1 + a.length = b + (a.length + 1) by omega]
    split <;> rfl
theorem kf_none (own : Nat) : ∀ (a : List Int) (b : Nat), (∀ x ∈ a, x ≠ (own : Int)) → kf own a b = []
  | [], _, _ => rfl
  | x :: a, b, h => by rw [kf, if_neg (h x (by simp)), kf_none own a (b + 1) (fun y hy => h y (by simp [hy]))]
theorem kidsL_kf {ps : List Int} {n : Nat} (h : ∀ i, i < ps.length → gi ps i = n → n < i) : kidsL ps n = kf n ps 0 := by
  have key : ∀ k, k ≤ ps.length → kidsK ps n k = kf n (ps.take k) 0 := by
    intro k
    induction k with
    | zero => intro _; rfl
    | succ k ih =>
      intro hk
      rw [kidsK_succ, ih (by omega), List.take_succ_eq_append_getElem (show k < ps.length by omega), kf_app, List.length_take, Nat.min_eq_left (by omega)]
      have hg : gi ps k = ps[k] := by simp [gi, show k < ps.length by omega]
      congr 1
      by_cases e : gi ps k = n
      · rw [if_pos ⟨h k (by omega) e, e⟩, kf, if_pos (by rw [← hg]; exact e)]
        simp [kf]
      · rw [if_neg (fun q => e q.2), kf, if_neg (by rw [← hg]; exact e)]; rfl
  unfold kidsL
  rw [key _ (Nat.le_refl _), List.take_length]
mutual
theorem psR_bd : ∀ (r : RT) (n : Nat) (p x : Int), x ∈ psR r n p → x = p ∨ ((n : Int) ≤ x ∧ x < ((n + sizeR r : Nat) : Int))
  | .node _ ks, n, p, x, h => by
    rw [psR, List.mem_cons] at h
    rcases h with h | h
    · exact .inl h
    · right
      rw [sizeR]
      rcases psRs_bd ks n (n + 1) x h with h1 | ⟨h1, h2⟩
      · subst h1; exact ⟨by omega, by omega⟩
      · exact ⟨by omega, by omega⟩
theorem psRs_bd : ∀ (rs : List RT) (own n : Nat) (x : Int), x ∈ psRs rs own n → x = (own : Int) ∨ ((n : Int) ≤ x ∧ x < ((n + sizeRs rs : Nat) : Int))
  | [], _, _, _, h => by simp [psRs] at h
  | r :: rs, own, n, x, h => by
    rw [psRs, List.mem_append] at h
    rw [sizeRs]
    rcases h with h | h
    · rcases psR_bd r n own x h with h1 | ⟨h1, h2⟩
      · exact .inl h1
      · exact .inr ⟨h1, by omega⟩
    · rcases psRs_bd rs own (n + sizeR r) x h with h1 | ⟨h1, h2⟩
      · exact .inl h1
      · exact .inr ⟨by omega, by omega⟩
end
/-- The numbers of the children. -/
def hdR : List RT → Nat → List Nat
  | [], _ => []
  | r :: rs, n => n :: hdR rs (n + sizeR r)
theorem kf_psRs (own : Nat) : ∀ (rs : List RT) (n : Nat), own < n → kf own (psRs rs own n) n = hdR rs n
  | [], _, _ => rfl
  | .node nm ks :: rs, n, h => by
    rw [psRs, hdR, kf_app, psR_len, kf_psRs own rs _ (by omega), psR, kf, if_pos rfl]
    rw [kf_none own _ _ (fun x hx e => by
      rcases psRs_bd ks n (n + 1) x hx with h1 | ⟨h1, _⟩ <;> omega)]
    rfl
theorem sizeR_pos (r : RT) : 0 < sizeR r := by cases r; rw [sizeR]; omega
theorem gi_app_r (a b : List Int) (k : Nat) : gi (a ++ b) (a.length + k) = gi b k := by simp [gi, List.getElem?_append_right]
theorem gs_app_r (a b : List ByteArray) (k : Nat) : gs (a ++ b) (a.length + k) = gs b k := by simp [gs, List.getElem?_append_right]
theorem gi_app_l {a : List Int} (b : List Int) {k : Nat} (h : k < a.length) : gi (a ++ b) k = gi a k := by simp [gi, List.getElem?_append_left h]
/-- A rose tree laid somewhere in a tree is found there. -/
theorem toRD_at : ∀ (d : Nat) (r : RT) (n : Nat) (p : Int) (t : Tre) (pre post : List Int) (nre nost : List ByteArray), sizeR r ≤ d → t.ps = pre ++ (psR r n p ++ post) → t.ns = nre ++ (nsR r ++ nost) → pre.length = n → nre.length = n → p < n → (∀ x ∈ pre, x < (n : Int)) → (∀ x ∈ post, x < (n : Int) ∨ ((n + sizeR r : Nat) : Int) ≤ x) → toRD (frT t) d n = r := by
  intro d
  induction d with
  | zero => intro r n p t pre post nre nost hd; have := sizeR_pos r; omega
  | succ d ih =>
    intro r n p t pre post nre nost hd hps hns hpl hnl hp hpre hpost
    obtain ⟨nm, ks⟩ := r
    rw [sizeR] at hd hpost
    rw [psR, List.cons_append] at hps
    rw [nsR, List.cons_append] at hns
    have hk : (frT t).kids n = hdR ks (n + 1) := by
      rw [frT_kids, kidsL_kf]
      · rw [hps, kf_app, kf_none n pre 0 (fun x hx e => by have := hpre x hx; omega), List.nil_append, kf, if_neg (by omega), kf_app, hpl, Nat.zero_add, kf_psRs n ks (n + 1) (by omega), psRs_len]
        rw [kf_none n post _ (fun x hx e => by rcases hpost x hx with h1 | h1 <;> omega), List.append_nil]
      · intro i hi e
        rw [hps] at e
        rcases Nat.lt_trichotomy i n with h1 | h1 | h1
        · rw [gi_app_l _ (by omega)] at e
          have := hpre _ (gi_mem (l := pre) (k := i) (by omega)); omega
        · subst h1
          have h2 := gi_app_r pre (p :: (psRs ks i (i + 1) ++ post)) 0
          rw [hpl] at h2
          have h2 : gi (pre ++ p :: (psRs ks i (i + 1) ++ post)) i = p := h2
          rw [h2] at e
          have e : p = i := e
          omega
        · exact h1
    have hnm : (frT t).nm n = nm := by
      show gs t.ns n = nm
      rw [hns, ← hnl]
      exact gs_app_r nre (nm :: (nsRs ks ++ nost)) 0
    rw [toRD, hk, hnm]
    congr 1
    have key : ∀ (rs : List RT) (m : Nat) (pr : List Int) (nr : List ByteArray), sizeRs rs ≤ d → t.ps = pr ++ (psRs rs n m ++ post) → t.ns = nr ++ (nsRs rs ++ nost) → pr.length = m → nr.length = m → n < m → (∀ x ∈ pr, x < (m : Int)) → (∀ x ∈ post, x < (n : Int) ∨ ((m + sizeRs rs : Nat) : Int) ≤ x) → (hdR rs m).map (toRD (frT t) d) = rs := by
      intro rs
      induction rs with
      | nil => intros; rfl
      | cons r rs ihr =>
        intro m pr nr hd2 hps2 hns2 hpl2 hnl2 hm hpr hpo
        rw [sizeRs] at hd2 hpo
        rw [psRs, List.append_assoc] at hps2
        rw [nsRs, List.append_assoc] at hns2
        rw [hdR, List.map_cons]
        have h1 := ih r m n t pr (psRs rs n (m + sizeR r) ++ post) nr (nsRs rs ++ nost) (by omega) hps2 hns2 hpl2 hnl2 (by omega) hpr (fun x hx => by
          rcases List.mem_append.1 hx with hx | hx
          · rcases psRs_bd rs n (m + sizeR r) x hx with h2 | ⟨h2, _⟩
            · exact .inl (by omega)
            · exact .inr h2
          · rcases hpo x hx with h2 | h2
            · exact .inl (by omega)
            · exact .inr (by omega))
        have h2 := ihr (m + sizeR r) (pr ++ psR r m n) (nr ++ nsR r) (by omega) (by rw [hps2, List.append_assoc]) (by rw [hns2, List.append_assoc])
          (by rw [List.length_append, psR_len, hpl2]) (by rw [List.length_append, nsR_len, hnl2]) (by omega) (fun x hx => by
            rcases List.mem_append.1 hx with hx | hx
            · have := hpr x hx; omega
            · rcases psR_bd r m n x hx with h3 | ⟨_, h3⟩ <;> omega) (fun x hx => by
            rcases hpo x hx with h3 | h3
            · exact .inl h3
            · exact .inr (by omega))
        rw [h1, h2]
    exact key ks (n + 1) (pre ++ [p]) (nre ++ [nm]) (by omega) (by rw [hps, List.append_assoc]; rfl) (by rw [hns, List.append_assoc]; rfl) (by simp [hpl]) (by simp [hnl]) (by omega) (fun x hx => by
      rcases List.mem_append.1 hx with hx | hx
      · have := hpre x hx; omega
      · have : x = p := by simpa using hx
        omega) (fun x hx => by
      rcases hpost x hx with h3 | h3
      · exact .inl h3
      · exact .inr (by omega))
theorem flat_ps (r : RT) : (flat r).ps.length = sizeR r := psR_len r 0 (-1)
theorem flat_ns (r : RT) : (flat r).ns.length = sizeR r := nsR_len r
/-- The rose tree of a rose tree's numbering is that rose tree. -/
theorem toR_flat (r : RT) : toR (flat r) = r := by
  unfold toR toRF
  have h : rkT (flat r) 0 = sizeR r := by unfold rkT; rw [flat_ps, Nat.sub_zero]
  rw [h]
  exact toRD_at (sizeR r) r 0 (-1) (flat r) [] [] [] [] (Nat.le_refl _) (by simp [flat]) (by simp [flat]) rfl rfl (by omega) (fun x hx => by simp at hx) (fun x hx => by simp at hx)
end Go.Proofs.Ytkfndaebmbnmaaa
