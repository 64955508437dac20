/- Plain: binary trees as rose trees, and their list, sorted by text. The root of a rerooted .. -/
import Derived.Test.YteegefnjnikngaaGreatQ1
import Derived.Test.YteegefnjnikngaaGreatQ2
import Derived.Test.YteegefnjnikngaaGreatQ30
import Derived.Test.YteegefnjnikngaaGreatQ35
import Derived.Test.YteegefnjnikngaaGreatQ29
import Derived.Test.YteegefnjnikngaaGreatQ3
import Derived.Test.YteegefnjnikngaaGreatQ4
import Derived.Test.YteegefnjnikngaaGreatQ8
import Derived.Test.YteegefnjnikngaaGreatQ9
import Derived.Test.YteegefnjnikngaaGreatQ13
import Derived.Test.YteegefnjnikngaaGreatQ18
import Derived.Test.YteegefnjnikngaaGreatQ10
import Derived.Test.YteegefnjnikngaaGreatQ36
import Derived.Lib.OthersKept
import Derived.Test.YteegefnjnikngaaGreatQ32
import Derived.Test.YteegefnjnikngaaGreatQ5
import Derived.Test.YteegefnjnikngaaGreatQ27
import Derived.Test.YteegefnjnikngaaGreatQ34
import Derived.Test.YteegefnjnikngaaGreatQ11
import Derived.Deep.RegionHeld3
import Derived.Test.YteegefnjnikngaaGreatQ17
import Derived.Test.YteegefnjnikngaaGreatQ7
import Derived.Test.YteegefnjnikngaaGreatQ19
set_option maxRecDepth 100000
namespace Go.Proofs.YteegefnjnikngaaGreat
section
def btR : BT ByteArray → RT
 | .leaf x => .node x []
 | .node a b => .node ByteArray.empty [btR a, btR b]
theorem zF : ∀ r : BT ByteArray, aI (btR r) + 1 = 2 * r.gT.length
 | .leaf x => by simp [btR, BT.gT, aI, sizeRs]
 | .node a b => by
  have h1 := zF a
  have h2 := zF b
  simp only [btR, BT.gT, aI, sizeRs, List.length_append]
  omega
theorem DR : ∀ r : BT ByteArray, (∀ x ∈ r.gT, x.size ≠ 0) → bu (btR r) = r.gT
 | .leaf x, h => Nr (h x (by simp [BT.gT]))
 | .node a b, h => by
  rw [btR, iY rfl, List.flatMap_cons, List.flatMap_cons, List.flatMap_nil, List.append_nil, BT.gT]
  rw [DR a fun x hx => h x (by rw [BT.gT]; exact List.mem_append_left _ hx), DR b fun x hx => h x (by rw [BT.gT]; exact List.mem_append_right _ hx)]
theorem DT : ∀ r : BT ByteArray, (∀ x ∈ r.gT, aZ x.data.toList = true) → ∀ s ∈ subR (btR r), IC s
 | .leaf x, h, s, hs => by
  rw [btR, subR, subRs, List.mem_singleton] at hs
  subst hs
  exact ⟨fun e => absurd rfl e, fun _ => h x (by simp [BT.gT]), by simp [RT.kids]⟩
 | .node a b, h, s, hs => by
  rw [btR, subR, subRs, subRs, subRs, List.append_nil, List.mem_cons, List.mem_append] at hs
  rcases hs with rfl | hs | hs
  ·exact ⟨fun _ => rfl, (fun e => by cases e), by simp [RT.kids]⟩
  ·exact DT a (fun x hx => h x (by rw [BT.gT]; exact List.mem_append_left _ hx)) s hs
  ·exact DT b (fun x hx => h x (by rw [BT.gT]; exact List.mem_append_right _ hx)) s hs
structure Bl (r : BT ByteArray) : Prop where
 nd : r.gT.Nodup
 nm : ∀ x ∈ r.gT, aZ x.data.toList = true
theorem Bl.sz {r : BT ByteArray} (h : Bl r) : ∀ x ∈ r.gT, x.size ≠ 0 := fun x hx => lU (h.nm x hx)
theorem Bl.leaf {r : BT ByteArray} (h : Bl r) : bu (btR r) = r.gT := DR r h.sz
theorem Bl.Vu {r : BT ByteArray} (h : Bl r) : UR (btR r) := ⟨by rw [h.leaf]; exact h.nd, DT r h.nm⟩
theorem Vv (a b : BT ByteArray) : txR (btR (.node a b)) = 40 :: (txR (btR a) ++ (44 :: txR (btR b)) ++ [41]) := by
 rw [btR, txR, txRs, txRs, List.append_nil]
def cn (r : RT) : List UInt8 := txR r ++ [59]
def insT (a : RT) : List RT → List RT
 | [] => [a]
 | b :: l => if Lib.compareBytes (cn b) (cn a) ≤ 0 then b :: insT a l else a :: b :: l
def Nz : List RT → List RT
 | [] => []
 | a :: l => insT a (Nz l)
theorem y5 (a : RT) : ∀ l, (insT a l).Perm (a :: l)
 | [] => List.Perm.refl _
 | b :: l => by
  rw [insT]
  split
  ·exact ((y5 a l).cons b).trans (List.Perm.swap a b l)
  ·exact List.Perm.refl _
theorem lF : ∀ l, (Nz l).Perm l
 | [] => List.Perm.refl _
 | a :: l => (y5 a _).trans ((lF l).cons a)
def fM (a b : RT) : Prop := Lib.compareBytes (cn a) (cn b) ≤ 0
theorem fM.trans {a b c : RT} (h1 : fM a b) (h2 : fM b c) : fM a c := by
 unfold fM at *
 rw [LW] at *
 exact Std.le_trans h1 h2
theorem fM.total {a b : RT} (h : ¬ fM a b) : fM b a := by
 unfold fM at *
 rw [mO]; omega
theorem Ay (a : RT) : ∀ l : List RT, l.Pairwise fM → (insT a l).Pairwise fM
 | [], _ => by simp [insT]
 | b :: l, h => by
  rw [insT]
  obtain ⟨h1, h2⟩ := List.pairwise_cons.1 h
  split
  ·rename_i hb
   refine List.pairwise_cons.2 ⟨fun c hc => ?_, Ay a l h2⟩
   rcases List.mem_cons.1 ((y5 a l).mem_iff.1 hc) with rfl | hc
   ·exact hb
   ·exact h1 c hc
  ·rename_i hb
   have hab : fM a b := fM.total hb
   refine List.pairwise_cons.2 ⟨fun c hc => ?_, h⟩
   rcases List.mem_cons.1 hc with rfl | hc
   ·exact hab
   ·exact hab.trans (h1 c hc)
theorem uI : ∀ l : List RT, (Nz l).Pairwise fM
 | [] => List.Pairwise.nil
 | a :: l => Ay a _ (uI l)
theorem fM.anti {a b : RT} (ha : lz a) (hb : lz b) (h1 : fM a b) (h2 : fM b a) : a = b := by
 unfold fM at *
 have h3 := mO (cn a) (cn b)
 have h4 : cn a = cn b := oZ (by omega)
 exact Qg ha hb (List.append_cancel_right h4)
theorem xe : ∀ {l m : List RT}, l.Perm m → l.Pairwise fM → m.Pairwise fM → (∀ r ∈ l, lz r) → l = m
 | [], m, h, _, _, _ => (List.nil_perm.1 h).symm
 | a :: l, [], h, _, _, _ => absurd (List.perm_nil.1 h) (by simp)
 | a :: l, b :: m, h, h1, h2, ho => by
  obtain ⟨a1, a2⟩ := List.pairwise_cons.1 h1
  obtain ⟨b1, b2⟩ := List.pairwise_cons.1 h2
  have e : a = b := by
   have hb : b ∈ a :: l := h.mem_iff.2 (by simp)
   have ha : a ∈ b :: m := h.mem_iff.1 (by simp)
   rcases List.mem_cons.1 hb with hb' | hb'
   ·exact hb'.symm
   rcases List.mem_cons.1 ha with ha' | ha'
   ·exact ha'
   exact fM.anti (ho a (by simp)) (ho b hb) (a1 b hb') (b1 a ha')
  subst e
  rw [xe ((List.perm_cons a).1 h) a2 b2 fun r hr => ho r (by simp [hr])]
def uB (names : List ByteArray) (r : BT ByteArray) : BT ByteArray := .node (.leaf (gs names 0)) r
def uR (names : List ByteArray) (r : BT ByteArray) : RT := sortR (btR (uB names r))
def bD (names : List ByteArray) : List RT := Nz ((rt names.length names.tail).map (uR names))
def allT (names : List ByteArray) : List ax := (bD names).map flat
structure fT (names : List ByteArray) : Prop where
 lo : 2 ≤ names.length
 hi : names.length ≤ 5
 nm : ∀ x ∈ names, aZ x.data.toList = true
 nd : names.Nodup
theorem fT.cons {names : List ByteArray} (h : fT names) : gs names 0 :: names.tail = names := by
 have := h.lo
 cases names with
 | nil => simp at this
 | cons a l => rfl
theorem vJ {names : List ByteArray} (h : fT names) {r : BT ByteArray} (hr : r.gT.Perm names.tail) : (uB names r).gT.Perm names := by
 have h1 : (uB names r).gT = gs names 0 :: r.gT := rfl
 rw [h1]
 exact (hr.cons _).trans (List.Perm.of_eq h.cons)
theorem Vw {names : List ByteArray} (h : fT names) {r : BT ByteArray} (hr : r.gT.Perm names.tail) : Bl (uB names r) :=
 ⟨(vJ h hr).symm.nodup h.nd, fun x hx => h.nm x ((vJ h hr).mem_iff.1 hx)⟩
theorem JG {names : List ByteArray} {q : RT} : q ∈ bD names ↔ ∃ r ∈ rt names.length names.tail, uR names r = q := by
 unfold bD
 rw [(lF _).mem_iff, List.mem_map]
theorem Ts (names : List ByteArray) : (bD names).length = (rt names.length names.tail).length := by
 unfold bD
 rw [(lF _).length_eq, List.length_map]
theorem fJ {names : List ByteArray} (h : fT names) {q : RT} (hq : q ∈ bD names) : UR q ∧ (bu q).Perm names ∧ aI q + 1 = 2 * names.length ∧ sortR q = q ∧ az (flat q) = 0 ∧ qT (flat q) = flat q := by
 obtain ⟨r, hr, rfl⟩ := JG.1 hq
 have hl := x6 _ _ _ hr
 have ho := Vw h hl
 have hs := zF (uB names r)
 have hpl := (vJ h hl).length_eq
 have hhi := h.hi
 have hz : aI (uR names r) + 1 = 2 * names.length := by unfold uR; rw [wH]; omega
 have hg : di (uR names r) := ho.Vu.good.sort
 have h2 : sortR (uR names r) = uR names r := wJ _
 have ht := sS hg (by omega)
 refine ⟨⟨(lV _).symm.nodup ho.Vu.nd, fun s hs => ?_⟩, ?_, hz, h2, ht, by rw [yD ht, pG, h2]⟩
 ·obtain ⟨u, hu, rfl⟩ := List.mem_map.1 ((iW _).mem_iff.1 hs)
  obtain ⟨p1, p2, p3⟩ := ho.Vu.pt u hu
  rw [IC, rE, sU, (mE _).length_eq, List.length_map]
  exact ⟨fun hk => p1 fun e => hk (jY.2 e), fun hk => p2 (jY.1 hk), p3⟩
 ·refine (lV _).trans ?_
  rw [ho.leaf]
  exact vJ h hl
theorem rS {names : List ByteArray} (h : fT names) : (bD names).length = if names.length = 2 then 1 else if names.length = 3 then 1 else if names.length = 4 then 3 else 15 := by
 rw [Ts]
 have hlo := h.lo
 have hhi := h.hi
 have e : names.tail = ((List.range' 1 (names.length - 1)).map fun i => gs names i) := by
  apply List.ext_getElem
  ·simp
  ·intro i h1 h2
   simp at h1
   simp [gs]
   rw [List.getElem?_eq_getElem (by omega)]
   simp [Nat.add_comm]
 rw [e, BI, List.length_map]
 generalize names.length = n at *
 obtain rfl | rfl | rfl | rfl : n = 2 ∨ n = 3 ∨ n = 4 ∨ n = 5 := by omega
 ·decide +kernel
 ·decide +kernel
 ·decide +kernel
 ·decide +kernel
end
section
section
variable {t : ax} {leaf : Nat}
end
end
section
open Go.RowKit Go.Deep
@[go_sem high] theorem run_max0_4 (w : World) (ts : Array TypeId) (t : TypeId) (k : IntKind) : (Builtin.max_ ts t #[.int k 0, .int k 0, .int k 0, .int k 0]).run Tryz.prog w = .ok (.int k 0) w := by
 simp [Builtin.max_, Builtin.max2]
@[go_sem high] theorem run_max0_5 (w : World) (ts : Array TypeId) (t : TypeId) (k : IntKind) : (Builtin.max_ ts t #[.int k 0, .int k 0, .int k 0, .int k 0, .int k 0]).run Tryz.prog w = .ok (.int k 0) w := by
 simp [Builtin.max_, Builtin.max2]
@[go_sem high] theorem run_max0_6 (w : World) (ts : Array TypeId) (t : TypeId) (k : IntKind) : (Builtin.max_ ts t #[.int k 0, .int k 0, .int k 0, .int k 0, .int k 0, .int k 0]).run Tryz.prog w = .ok (.int k 0) w := by
 simp [Builtin.max_, Builtin.max2]
@[go_sem high] theorem run_max0_7 (w : World) (ts : Array TypeId) (t : TypeId) (k : IntKind) : (Builtin.max_ ts t #[.int k 0, .int k 0, .int k 0, .int k 0, .int k 0, .int k 0, .int k 0]).run Tryz.prog w = .ok (.int k 0) w := by
 simp [Builtin.max_, Builtin.max2]
end
section
open Go.RowKit Go.Deep
theorem get_of (s : ByteArray) (k : Nat) (h : k < s.size) : s.get! k = s[k]'h := by
 simp [ByteArray.get!, getElem!_pos, h]; rfl
theorem KH (s : ByteArray) (pos : Nat) (h : pos < s.size) (ha : 128 ≤ (s[pos]'h).toNat) : 1 ≤ (Utf8.decode s pos).2 ∧ pos + (Utf8.decode s pos).2 ≤ s.size ∧ ∀ j, (hj : j < (Utf8.decode s pos).2) → ∀ hl : pos + j < s.size, 128 ≤ (s[pos + j]'hl).toNat := by
  have key : ∀ w : Nat, 1 ≤ w → w ≤ 4 → (∀ j, 1 ≤ j → j < w → pos + j < s.size ∧ (s.get! (pos + j)).toNat / 64 = 2) → 1 ≤ w ∧ pos + w ≤ s.size ∧ ∀ j, (hj : j < w) → ∀ hl : pos + j < s.size, 128 ≤ (s[pos + j]'hl).toNat := fun w h1 _ hc => by
    refine ⟨h1, ?_, fun j hj hl => ?_⟩
    · by_cases e : w = 1
      · omega
      · have := (hc (w - 1) (by omega) (by omega)).1; omega
    · by_cases e : j = 0
      · subst e; exact ha
      · have h2 := (hc j (by omega) hj).2
        rw [get_of s _ hl] at h2
        omega
  have one := key 1 (Nat.le_refl _) (by omega) (fun j a b => by omega)
  have cont : ∀ k, (decide (pos + k < s.size) && (s.get! (pos + k)).toNat / 64 == 2) = true → pos + k < s.size ∧ (s.get! (pos + k)).toNat / 64 = 2 := fun k hk => by
    simp only [Bool.and_eq_true, decide_eq_true_eq, beq_iff_eq] at hk; exact hk
  have hn : ¬ (s[pos]'h).toNat < 128 := by omega
  unfold Utf8.decode
  simp only [get_at s pos h, hn, if_false]
  split
  · rename_i hb
    rw [Bool.and_eq_true] at hb
    split
    · exact key 2 (by omega) (by omega) fun j h1 h2 => by obtain rfl : j = 1 := by omega
                                                          exact cont 1 hb.2
    · exact one
  · split
    · rename_i hb
      rw [Bool.and_eq_true, Bool.and_eq_true] at hb
      split
      · exact key 3 (by omega) (by omega) fun j h1 h2 => by
          by_cases e : j = 1
          · subst e; exact cont 1 hb.1.2
          · obtain rfl : j = 2 := by omega
            exact cont 2 hb.2
      · exact one
    · split
      · rename_i hb
        rw [Bool.and_eq_true, Bool.and_eq_true, Bool.and_eq_true] at hb
        split
        · exact key 4 (by omega) (by omega) fun j h1 h2 => by
            by_cases e : j = 1
            · subst e; exact cont 1 hb.1.1.2
            · by_cases e2 : j = 2
              · subst e2; exact cont 2 hb.1.2
              · obtain rfl : j = 3 := by omega
                exact cont 3 hb.2
        · exact one
      · exact one
theorem NA {s : ByteArray} {i d : Nat} (h : Lib.NoAny s.data.toList bM i) (hs : i + d ≤ s.size) (hb : ∀ j, (hj : j < d) → ∀ hl : i + j < s.size, 128 ≤ (s[i + j]'hl).toNat) : Lib.NoAny s.data.toList bM (i + d) := fun j b hj hx => by
 by_cases e : j < i
 ·exact h j b e hx
 ·obtain ⟨d2, rfl⟩ : ∃ d2, j = i + d2 := ⟨j - i, by omega⟩
  have hl : i + d2 < s.size := by omega
  have h1 := hb d2 (by omega) hl
  rw [Lib.data_getElem? s (i + d2) hl] at hx
  injection hx with hx
  have h3 : 128 ≤ b.toNat := by rw [← hx]; exact h1
  cases hc : bM.contains b with
  | false => rfl
  | true =>
   have hm := List.contains_iff_mem.1 hc
   simp only [bM, List.mem_cons, List.not_mem_nil, or_false] at hm
   rcases hm with rfl | rfl | rfl | rfl <;> exact absurd h3 (by decide)
set_option maxHeartbeats 8000000 in
theorem KI (s : ByteArray) (w : World) (hs : s.size ≤ 1000) : Calls Tryz.prog 179 #[.string s, .string kW] w fun e w' => e = .returned (.int .i64 (Lib.indexAny s.data.toList bM)) ∧ Up w w' := by
 by_cases h8 : 8 < s.size
 ·have h := Go.Proofs.Any.strings_IndexAny_long (ρ := Tryz.idxA_ren) Tryz.idxA (zero_of_info (P := Tryz.prog) (t := 237) (v := .agg (Array.replicate 256 (.bool false))) (n := 256) (by kernel_rfl)).1 (zero_of_info (P := Tryz.prog) (t := 237) (v := .agg (Array.replicate 256 (.bool false))) (n := 256) (by kernel_rfl)).2 s kW w (by decide) h8 (by omega) (by decide) (by
   intro j b hb
   have hm := List.mem_of_getElem? hb
   have hall : ∀ x ∈ kW.data.toList, x.toNat < 128 := by decide +kernel
   exact hall b hm)
  refine h.mono ?_
  rintro e w' ⟨rfl, rfl⟩
  exact ⟨rfl, (Up.alloc _ _).trans (Up.alloc _ _)⟩
 ·have h8z : decide ((8 : Int) < (s.size : Int)) = false := decide_eq_false (by omega)
  have js := aa (fun W => Go.Proofs.Any.strings_shouldUseASCIISet (ρ := Tryz.idxA_ren) { Tryz.idxA with } (s.size : Int) W)
  rw [h8z] at js
  have iG := aa Jf
  have HIL := aa (fun (x : UInt8) (h : x.toNat < 128) W => Go.Proofs.Any.strings_IndexRune_ascii (ρ := Tryz.idxA_ren) { Tryz.idxA with } kW (x.toNat : Int) W (by omega) (by omega))
  have Dm : ((kW.size : Int) == 1) = false := rfl
  have hemp : (kW.toList == []) = false := by decide +kernel
  clear h8
  go_enter Tryz.func179, Tryz.ntmps179
  go_wp2_with fail
  refine (js.out _).mono ?_
  rintro e w2 ⟨rfl, rfl⟩
  go_wp2_with fail
  go_loopg [9, 10] s.size (fun g _ _ wx => ∃ i : Nat, i + g = s.size ∧ wx.heap[w2.heap.size]? = some (.stringIter s i) ∧ Hid (Up w2 wx) ∧ Hid (Lib.NoAny s.data.toList bM i))
  case atStart => exact ⟨0, by omega, World.iter_heap _ _ _, Up.alloc _ _, Lib.NoAny.zero _ _⟩
  case round =>
   obtain ⟨i, hig, hit, eC, hno⟩ := hrel
   obtain ⟨wo, rfl⟩ : ∃ wo : World, wo = wr := ⟨_, rfl⟩
   by_cases hi : i < s.size
   ·have hnx := fun ty => Lib.run_next_any_at (P := Tryz.prog) wo w2.heap.size s i ty hit hi
    have NB := Lib.iterAt_heap wo w2.heap.size s i (i + (Utf8.decode s i).2) hit
    have Vx := aa NB
    have bH : Hid (Up w2 (wo.iterAt w2.heap.size s (i + (Utf8.decode s i).2))) := Lib.below_iterAt eC.out (Nat.le_refl _) _ _
    have Vj := aa (decode_le s i)
    obtain ⟨x, hx⟩ : ∃ x : UInt8, s[i]'hi = x := ⟨_, rfl⟩
    have hxl : s.data.toList[i]? = some x := by rw [← hx]; exact Lib.data_getElem? s i hi
    have HXL := aa hxl
    have HG := aa hig
    have HI := aa hi
    by_cases ha : 128 ≤ x.toNat
    ·obtain ⟨k1, k2, k3⟩ := KH s i hi (by rw [hx]; exact ha)
     have h1 := (decode_high s i hi (by rw [hx]; exact ha)).1
     have oL := aa (NA hno.out k2 k3)
     have HK := aa k1
     have L5 := aa k2
     have HC := aa (iG.out (wo.iterAt w2.heap.size s (i + (Utf8.decode s i).2)) ((Utf8.decode s i).1 : Int) (by omega) (by have := Vj.out; omega))
     clear hit NB eC hno hxl hx hi hig k1 k2 k3 ha h1
     generalize (Utf8.decode s i).1 = rn at *
     generalize (Utf8.decode s i).2 = wd at *
     go_wp2_with fail
     refine HC.out.mono ?_
     rintro e w5 ⟨rfl, eX⟩
     have jQ : Hid (Up w2 w5) := bH.out.trans eX
     have HIT5 : Hid (w5.heap[w2.heap.size]? = some (.stringIter s (i + wd))) := (Below.block eX w2.heap.size (Array.getElem?_eq_some_iff.1 Vx.out).1).trans Vx.out
     clear eX
     go_wp2_with fail
     go_roundg (s.size - (i + wd))
     case measure => have := HG.out; have := HK.out; have := L5.out; omega
     case rel => exact ⟨i + wd, by have := L5.out; omega, HIT5.out, jQ.out, oL.out⟩
    ·have h1 : Utf8.decode s i = (x.toNat, 1) := by rw [decode_ascii s i hi (by rw [hx]; omega), hx]
     rw [h1] at hnx Vx bH
     have HC := aa (HIL.out x (by omega) (wo.iterAt w2.heap.size s (i + 1)))
     have hback : ((x.toNat : Int)).toNat.toUInt8 = x := by simp
     rw [hback] at HC
     have hcon := Lib.contains_iff_indexByte bM x
     cases hin : bM.contains x
     ·have hlt : decide ((0 : Int) ≤ Lib.indexByte kW.data.toList x) = false := by rw [hin] at hcon; exact hcon.symm
      have oL := aa (hno.out.succ hxl hin)
      clear hit NB eC hno hxl hx hi hig ha h1 hcon
      generalize Lib.indexByte kW.data.toList x = ib at *
      go_wp2_with fail
      refine HC.out.mono ?_
      rintro e w5 ⟨rfl, rfl⟩
      go_wp2_with fail
      go_roundg (s.size - (i + 1))
      case measure => have := HG.out; have := HI.out; omega
      case rel => exact ⟨i + 1, by have := HI.out; omega, Vx.out, bH.out, oL.out⟩
     ·have hlt : decide ((0 : Int) ≤ Lib.indexByte kW.data.toList x) = true := by rw [hin] at hcon; exact hcon.symm
      have HR : Hid (Lib.indexAny s.data.toList bM = (i : Int)) := Lib.indexAny_hit hno.out hxl hin
      clear hit NB eC hno hxl hx hi hig ha h1 hcon
      generalize Lib.indexByte kW.data.toList x = ib at *
      go_wp2_with fail
      refine HC.out.mono ?_
      rintro e w5 ⟨rfl, rfl⟩
      go_wp2_with fail
      go_ret
      exact ⟨by rw [HR.out]; rfl, bH.out⟩
   ·have hnx := fun ty => Lib.run_next_end_at (P := Tryz.prog) wo w2.heap.size s i ty hit hi
    have hisz : i = s.size := by omega
    have HR : Hid (Lib.indexAny s.data.toList bM = -1) := Lib.indexAny_none (by rw [← Lib.size_eq, ← hisz]; exact hno.out)
    have HUP := aa eC.out
    clear hit eC hno hi hig hisz
    go_wp2_with fail
    go_ret
    exact ⟨by rw [HR.out]; rfl, HUP.out⟩
theorem ia_ok (s : ByteArray) (hs : s.size ≤ 1000) : IaOk s := fun i W hi => by
 have h := KI (s.extract i s.size) W (by rw [ByteArray.size_extract]; omega)
 have e : (s.extract i s.size).data.toList = s.data.toList.drop i := by
  rw [ByteArray.data_extract, Array.toList_extract]
  exact List.take_of_length_le (by rw [List.length_drop, Array.length_toList]; exact Nat.le_refl _)
 rw [e] at h
 exact h
end
section
section
variable {t : ax} {L : List Int}
end
end
section
open Go.RowKit Go.Deep
theorem JH {s : List UInt8} (h : ∀ r, gG s ≠ some (r, [59])) : jr s = none := by
 cases e : jr s with
 | none => rfl
 | some r => exact absurd (DK.2 e) (h r)
set_option maxHeartbeats 4000000 in
theorem NC (w : World) (s : ByteArray) (hs : s.size ≤ 1000) : Calls Tryz.prog 153 #[.string s] w (yX w s) := by
 have hrb := fF (w := w) (P := .slice none 0 0) (N := .slice none 0 0) (T := 39)
 have hu := Up.alloc w (.cells #[.slice none 0 0, .slice none 0 0] 39)
 have hsz : (w.alloc (.cells #[.slice none 0 0, .slice none 0 0] 39)).heap.size = w.heap.size + 1 := World.size_alloc _ _
 have HU := aa hu
 have bQ := aa hsz
 have jA := aa hrb
 have kr := aa hs
 have d1 : decide ((65536 : Int) < (s.size : Int)) = false := decide_eq_false (by omega)
 have Vp : ¬ 65536 < s.size := by omega
 have QI := aa (fun W => Fu s.size s rfl hs W 0 (by omega))
 clear hrb hu hsz hs
 go_enter Tryz.func153, Tryz.ntmps153
 go_wp2_with fail
 clear d1 Vp
 generalize w.alloc (.cells #[.slice none 0 0, .slice none 0 0] 39) = w1 at *
 refine (QI.out w1).mono ?_
 rintro e w2 ⟨aK, hm⟩
 have bH := aa (HU.out.trans aK)
 have fu := aa ((Below.block aK w.heap.size (by rw [bQ.out]; omega)).trans jA.out)
 have kB : Hid (w.heap.size + 1 ≤ w2.heap.size) := by have := aK.size; rw [bQ.out] at this; exact this
 clear aK QI HU bQ jA
 cases hr : gG s.data.toList with
 | none =>
  rw [hr] at hm
  subst hm
  have HST := aa (jK bH.out fu.out (JH fun r e => by rw [hr] at e; cases e))
  obtain ⟨q0, q1, q2, q3⟩ := boxed fu.out
  clear hr
  go_wp2_with fail
  obtain ⟨s1, s2, s3⟩ := HST.out
  exact ⟨rfl, .tuple #[.agg #[.slice none 0 0, .slice none 0 0], .int .i64 3], by simp [results, Tryz.results153, go_sem, s1, s2], s3⟩
 | some q =>
  obtain ⟨r, l⟩ := q
  rw [hr] at hm
  obtain ⟨v2, rfl, hr2⟩ := hm
  obtain ⟨b2, rfl⟩ := pM hr2
  by_cases hl : l = [59]
  ·subst hl
   have qA : jr s.data.toList = some r := DK.1 hr
   have ij : s.data.toList.length = s.size := by rw [Array.length_toList]; rfl
   obtain ⟨CP, CQ, Fy⟩ := yR qA
   have QJ := Jk hr
   rw [ij] at CP CQ QJ
   have JB : Hid ((flat r).ps.length ≤ 1000000) := by unfold Hid; have := kr.out; omega
   have JC : Hid ((flat r).ns.length ≤ 1000000) := by unfold Hid; have := kr.out; omega
   have JD : Hid (∀ k, (gs (flat r).ns k).size ≤ 70000) := fun j => by have := Fy j; rw [ij] at this; have := kr.out; omega
   have nw := aa (A9 _ w2 _ r hr2 (by have := kr.out; omega))
   have oF := aa qA
   have t1 : (bL [59]).toList = [59] := by rw [toList_data]; rfl
   have t2 : ((bL [59]).toList == [59]) = true := by rw [t1]; rfl
   generalize bL [59] = ub at *
   obtain ⟨q0, q1, q2, q3⟩ := boxed fu.out
   clear CP CQ Fy QJ ij qA hr hr2
   go_wp2_with fail
   refine nw.out.mono ?_
   rintro e w4 ⟨b9, _, rfl, P4, N4, rfl, dZ, en⟩
   obtain ⟨pp, pc, rfl, -, -⟩ := aD.open dZ
   obtain ⟨np, nc, rfl, -, -⟩ := aD.open en
   have dZ : aB _ w4 (.slice pp (flat r).ps.length pc) (flat r).ps := dZ
   have en : av _ w4 (.slice np (flat r).ns.length nc) (flat r).ns := en
   have bq := Up.alloc w4 (.cells #[.slice pp (flat r).ps.length pc, .slice np (flat r).ns.length nc] 39)
   have b0 := ew w4 (.slice pp (flat r).ps.length pc) (.slice np (flat r).ns.length nc) 39
   have b1 := ey w4 (.slice pp (flat r).ps.length pc) (.slice np (flat r).ns.length nc) 39
   have jo := aa b0
   have iq := aa b1
   have yY := (Below.block (b9.trans bq) w.heap.size (by have := kB.out; omega)).trans fu.out
   have wV := aa yY
   have JE := aa (bH.out.trans (b9.trans bq))
   have qJ : Hid (aC (fun b => w2.heap.size ≤ b) (w4.alloc (.cells #[.slice pp (flat r).ps.length pc, .slice np (flat r).ns.length nc] 39)) (.agg #[.slice pp (flat r).ps.length pc, .slice np (flat r).ns.length nc]) (flat r)) := aC.keep ⟨_, _, rfl, dZ, en⟩ (bq.kept _)
   have fA := aa (vY _ _ _ (flat r) qJ.out JB.out JC.out JD.out)
   have QE : Hid (w2.heap.size ≤ (w4.alloc (.cells #[.slice pp (flat r).ps.length pc, .slice np (flat r).ns.length nc] 39)).heap.size) := (b9.trans bq).size
   clear b9 dZ en bq nw yY fu bH q0 q1 q2 q3 t1 t2
   go_wp2_with fail
   generalize w4.alloc (.cells #[.slice pp (flat r).ps.length pc, .slice np (flat r).ns.length nc] 39) = w5 at *
   refine fA.out.mono ?_
   rintro e w6 ⟨rfl, dH⟩
   have dH : Up w5 w6 := dH
   have b0 := dH.cell jo.out
   have b1 := dH.cell iq.out
   have mX := (Below.block dH w.heap.size (by have := kB.out; have := QE.out; omega)).trans wV.out
   have Bi := aa mX
   have Bj := aa (JE.out.trans dH)
   have Fz := aa (qJ.out.keep (dH.kept _))
   obtain ⟨q0, q1, q2, q3⟩ := boxed mX
   have yC : Hid (uh s = az (flat r)) := by unfold Hid uh; rw [oF.out]
   have vv : Hid (ri s = if az (flat r) ≠ 0 then ⟨[], []⟩ else flat r) := by unfold Hid ri; rw [oF.out]
   clear dH mX fA
   by_cases he : az (flat r) = 0
   ·have Bk : Hid (ri s = flat r) := by unfold Hid; rw [vv.out, if_neg (by simp [he])]
    have Tr : Hid (uh s = 0) := by unfold Hid; rw [yC.out, he]
    rw [he]
    have HST := aa (dL (w := w) (p := .slice pp (flat r).ps.length pc) (q := .slice np (flat r).ns.length nc) Bi.out (Nat.le_refl _) Bj.out)
    clear he
    go_wp2_with fail
    obtain ⟨s1, s2, s3, s4⟩ := HST.out
    obtain ⟨P7, N7, e7, BS, QF⟩ := Fz.out
    have e8 : P7 = .slice pp (flat r).ps.length pc ∧ N7 = .slice np (flat r).ns.length nc := by
     injection e7 with e7
     have := congrArg Array.toList e7
     simp at this
     exact ⟨this.1.symm, this.2.symm⟩
    obtain ⟨rfl, rfl⟩ := e8
    have hsw := kB.out
    refine ⟨rfl, .tuple #[.agg #[.slice pp (flat r).ps.length pc, .slice np (flat r).ns.length nc], .int .i64 0], by simp [results, Tryz.results153, go_sem, s2, s3], ?_⟩
    refine ⟨s1, _, by rw [Tr.out], ?_⟩
    rw [Bk.out]
    exact ⟨_, _, rfl, (aB.keep BS fun b hb _ => s4 b (by have : w2.heap.size ≤ b := hb; omega)).sub fun _ _ _ => trivial, (av.keep QF fun b hb _ => s4 b (by have : w2.heap.size ≤ b := hb; omega)).sub fun _ _ _ => trivial⟩
   ·have Ae : (az (flat r) != 0) = true := by simpa using he
    have Bk : Hid (ri s = ⟨[], []⟩) := by unfold Hid; rw [vv.out, if_pos he]
    have HST := aa (dL (w := w) (p := .slice none 0 0) (q := .slice none 0 0) Bi.out (Nat.le_refl _) Bj.out)
    clear he
    generalize hte : az (flat r) = te at *
    go_wp2_with fail
    obtain ⟨s1, s2, s3, s4⟩ := HST.out
    refine ⟨rfl, .tuple #[.agg #[.slice none 0 0, .slice none 0 0], .int .i64 te], by simp [results, Tryz.results153, go_sem, s2, s3], ?_⟩
    refine ⟨s1, _, by rw [yC.out], ?_⟩
    rw [Bk.out]; exact wG _
  ·have HST := aa (jK bH.out fu.out (JH fun r' e => by rw [hr] at e; injection e with e; injection e with _ e; exact hl e))
   obtain ⟨q0, q1, q2, q3⟩ := boxed fu.out
   have t1 : ((bL l).toList == [59]) = false := by
    rw [beq_eq_false_iff_ne, toList_data]
    exact hl
   have t2 : ¬ (bL l).toList = [59] := by
    rw [toList_data]
    exact hl
   clear hr hr2 hl
   generalize bL l = ub at *
   go_wp2_with fail
   obtain ⟨s1, s2, s3⟩ := HST.out
   exact ⟨rfl, .tuple #[.agg #[.slice none 0 0, .slice none 0 0], .int .i64 3], by simp [results, Tryz.results153, go_sem, s1, s2], s3⟩
end
section
end
section
open Go.RowKit Go.Deep
end
section
open Go.RowKit Go.Deep
section
variable {P : Program} {ops : Array Oper} {Q : Exit → Act → World → Prop} {md : Region.Mode} {S : World → Prop} {t : Nat}
end
end
section
theorem jl {α β : Type} {f g : α → List β} : ∀ {l : List α}, (∀ a ∈ l, f a = g a) → l.flatMap f = l.flatMap g
 | [], _ => rfl
 | a :: l, h => by
  rw [List.flatMap_cons, List.flatMap_cons, h a (by simp), jl fun b hb => h b (by simp [hb])]
theorem FA {α : Type} [Inhabited α] (L : List α) {bits : Nat} (h1 : 1 ≤ bits) (h2 : bits < 2 ^ L.length) : 1 ≤ (bB (fun i => bits.testBit i) L L.length).length ∧ (bB (fun i => bits.testBit i) L L.length).length + (bB (fun i => !bits.testBit i) L L.length).length = L.length := by
 have h3 := (uy (fun i => bits.testBit i) L (n := L.length) (Nat.le_refl _)).length_eq
 rw [List.length_append, List.length_take] at h3
 refine ⟨?_, by omega⟩
 rcases Nat.eq_zero_or_pos (bB (fun i => bits.testBit i) L L.length).length with e | e
 ·exfalso
  have h5 : bB (fun i => bits.testBit i) L L.length = [] := List.eq_nil_of_length_eq_zero e
  have hz : bits = 0 := Nat.eq_of_testBit_eq fun i => by
   rw [Nat.zero_testBit]
   by_cases hi : i < L.length
   ·cases hb : bits.testBit i
    ·rfl
    ·have : L.getD i default ∈ bB (fun i => bits.testBit i) L L.length := Eb.2 ⟨i, hi, hb, rfl⟩
     rw [h5] at this; cases this
   ·exact Nat.testBit_lt_two_pow (Nat.lt_of_lt_of_le h2 (Nat.pow_le_pow_right (by decide) (by omega)))
  omega
 ·exact e
theorem pY {α : Type} [Inhabited α] : ∀ (d e : Nat) (L : List α), L.length ≤ d → L.length ≤ e → rt d L = rt e L
 | 0, e, L, h, _ => by
  have : L = [] := List.eq_nil_of_length_eq_zero (by omega)
  subst this
  cases e <;> rfl
 | d + 1, 0, L, _, h => by
  have : L = [] := List.eq_nil_of_length_eq_zero (by omega)
  subst this; rfl
 | _ + 1, _ + 1, [], _, _ => rfl
 | _ + 1, _ + 1, [x], _, _ => rfl
 | d + 1, e + 1, x :: y :: L, h1, h2 => by
  rw [rt, rt]
  refine jl fun bits hb => ?_
  rw [List.mem_range'_1] at hb
  obtain ⟨p1, p2⟩ := FA (y :: L) (bits := bits) hb.1 (by omega)
  have hl : (y :: L).length = L.length + 1 := rfl
  rw [List.length_cons, hl] at h1 h2
  rw [pY d e (x :: _) (by rw [List.length_cons]; omega) (by rw [List.length_cons]; omega), pY d e (bB _ _ _) (by omega) (by omega)]
def dA (L : List ByteArray) (bits : Nat) : List ByteArray := gs L 0 :: bB (fun i => !bits.testBit i) L.tail (L.length - 1)
def dB (L : List ByteArray) (bits : Nat) : List ByteArray := bB (fun i => bits.testBit i) L.tail (L.length - 1)
def kD (L : List ByteArray) : List (BT ByteArray) := rt L.length L
def jt (r : BT ByteArray) : ByteArray := ⟨(txR (btR r)).toArray⟩
def bK (L : List ByteArray) : List ByteArray := (kD L).map jt
def pairT (s t : ByteArray) : ByteArray := ⟨#[40]⟩ ++ s ++ ⟨#[44]⟩ ++ t ++ ⟨#[41]⟩
def CS (L : List ByteArray) (bits : Nat) : List ByteArray := (bK (dA L bits)).flatMap fun s => (bK (dB L bits)).map fun t => pairT s t
theorem Bo (x : ByteArray) : jt (.leaf x) = x := by
 unfold jt
 rw [btR, wM]
theorem Bp (a b : BT ByteArray) : jt (.node a b) = pairT (jt a) (jt b) := by
 unfold pairT
 apply fc
 unfold jt
 rw [Vv]
 simp
theorem ND {L : List ByteArray} (h : 2 ≤ L.length) {bits : Nat} (h1 : 1 ≤ bits) (h2 : bits < 2 ^ (L.length - 1)) : (dA L bits).length < L.length ∧ 1 ≤ (dA L bits).length ∧ (dB L bits).length < L.length ∧ 1 ≤ (dB L bits).length := by
 have hl : L.tail.length = L.length - 1 := by simp
 obtain ⟨p1, p2⟩ := FA L.tail (bits := bits) h1 (by rw [hl]; exact h2)
 unfold dA dB
 rw [List.length_cons, ← hl]
 omega
theorem WI (x : ByteArray) : bK [x] = [x] := by
 unfold bK kD
 rw [List.length_singleton, rt, List.map_singleton, Bo]
theorem rtT_eq {L : List ByteArray} (h : 2 ≤ L.length) : bK L = (List.range' 1 (2 ^ (L.length - 1) - 1)).flatMap (CS L) := by
 obtain ⟨x, y, L, rfl⟩ : ∃ x y L', L = x :: y :: L' := by
  cases L with
  | nil => simp at h
  | cons x L =>
   cases L with
   | nil => simp at h
   | cons y L => exact ⟨x, y, L, rfl⟩
 unfold bK kD
 have e1 : (x :: y :: L).length = (y :: L).length + 1 := rfl
 rw [e1, rt, List.map_flatMap, Nat.add_sub_cancel]
 refine jl fun bits hb => ?_
 rw [List.mem_range'_1] at hb
 have hd := ND (L := x :: y :: L) h (bits := bits) hb.1 (by have : (x :: y :: L).length - 1 = (y :: L).length := rfl; rw [this]; omega)
 unfold CS bK
 rw [List.map_flatMap, List.flatMap_map]
 have ea : dA (x :: y :: L) bits = x :: bB (fun i => !bits.testBit i) (y :: L) (y :: L).length := rfl
 have eb : dB (x :: y :: L) bits = bB (fun i => bits.testBit i) (y :: L) (y :: L).length := rfl
 rw [← ea, ← eb]
 have f1 : rt (y :: L).length (dA (x :: y :: L) bits) = kD (dA (x :: y :: L) bits) := pY _ _ _ (by simp only [List.length_cons] at hd ⊢; omega) (Nat.le_refl _)
 have f2 : rt (y :: L).length (dB (x :: y :: L) bits) = kD (dB (x :: y :: L) bits) := pY _ _ _ (by simp only [List.length_cons] at hd ⊢; omega) (Nat.le_refl _)
 rw [f1, f2]
 refine jl fun a _ => ?_
 rw [List.map_map, List.map_map]
 refine List.map_congr_left fun b _ => ?_
 exact Bp a b
theorem JI {L : List ByteArray} : ∀ {n : Nat}, L.length = n → n ≤ 4 → (kD L).length = if n = 0 then 0 else if n = 1 then 1 else if n = 2 then 1 else if n = 3 then 3 else 15 := by
 intro n hn h4
 have e : L = ((List.range n).map fun i => gs L i) := by
  apply List.ext_getElem
  ·simp [hn]
  ·intro i h1 h2
   simp [gs, h1]
 unfold kD
 rw [hn]
 have e2 : rt n L = (rt n (List.range n)).map (BT.map fun i => gs L i) := by
  rw [← BI]
  exact congrArg (rt n) e
 rw [e2, List.length_map]
 obtain rfl | rfl | rfl | rfl | rfl : n = 0 ∨ n = 1 ∨ n = 2 ∨ n = 3 ∨ n = 4 := by omega
 ·decide +kernel
 ·decide +kernel
 ·decide +kernel
 ·decide +kernel
 ·decide +kernel
theorem r6 {L : List ByteArray} (h : L.length ≤ 4) : (bK L).length ≤ 15 := by
 unfold bK
 rw [List.length_map, JI rfl h]
 split <;> (try split) <;> (try split) <;> (try split) <;> omega
theorem WJ {L : List ByteArray} (h : L.length ≤ 4) (h1 : 1 ≤ L.length) : 1 ≤ (bK L).length := by
 unfold bK
 rw [List.length_map, JI rfl h]
 split <;> (try split) <;> (try split) <;> (try split) <;> omega
theorem mY {α β : Type} {f : α → List β} {K : Nat} : ∀ l : List α, (∀ a ∈ l, (f a).length ≤ K) → (l.flatMap f).length ≤ l.length * K
 | [], _ => by simp
 | a :: l, h => by
  rw [List.flatMap_cons, List.length_append, List.length_cons, Nat.succ_mul]
  have h1 := h a (by simp)
  have h2 := mY l fun b hb => h b (by simp [hb])
  omega
theorem WK {L : List ByteArray} {bits : Nat} (ha : (dA L bits).length ≤ 4) (hb : (dB L bits).length ≤ 4) : (CS L bits).length ≤ 225 := by
 unfold CS
 have h1 := r6 ha
 have h2 := r6 hb
 have h3 := mY (f := fun s => (bK (dB L bits)).map fun t => pairT s t) (K := 15) (bK (dA L bits)) fun s _ => by rw [List.length_map]; exact h2
 have h4 : (bK (dA L bits)).length * 15 ≤ 15 * 15 := Nat.mul_le_mul_right _ h1
 omega
theorem NF {L : List ByteArray} {bits : Nat} (h : 1 ≤ L.length) : (∀ x ∈ dA L bits, x ∈ L) ∧ ∀ x ∈ dB L bits, x ∈ L := by
 have hp : ∀ p : Nat → Bool, ∀ x ∈ bB p L.tail (L.length - 1), x ∈ L := fun p x hx => by
  obtain ⟨i, hi, _, rfl⟩ := Eb.1 hx
  have hl : i < L.tail.length := by simp; omega
  rw [List.getD_eq_getElem?_getD, List.getElem?_eq_getElem hl]
  exact List.mem_of_mem_tail (List.getElem_mem hl)
 refine ⟨fun x hx => ?_, hp _⟩
 rcases List.mem_cons.1 hx with rfl | hx
 ·cases L with
  | nil => simp at h
  | cons a l => simp [gs]
 ·exact hp _ x hx
theorem NG (s t : ByteArray) : (pairT s t).size = s.size + t.size + 3 := by
 unfold pairT
 simp only [ByteArray.size_append]
 show 1 + s.size + 1 + t.size + 1 = _
 omega
theorem xg : ∀ r : BT ByteArray, (∀ x ∈ r.gT, x.size ≤ 20) → (jt r).size + 3 ≤ 23 * r.gT.length
 | .leaf x, h => by
  rw [Bo]
  have := h x (by simp [BT.gT])
  simp only [BT.gT, List.length_singleton]
  omega
 | .node a b, h => by
  have h1 := xg a fun x hx => h x (List.mem_append_left _ hx)
  have h2 := xg b fun x hx => h x (List.mem_append_right _ hx)
  rw [Bp, NG]
  simp only [BT.gT, List.length_append]
  omega
theorem xh {L : List ByteArray} (h : L.length ≤ 4) (hz : ∀ x ∈ L, x.size ≤ 20) {s : ByteArray} (hs : s ∈ bK L) : s.size ≤ 100 := by
 obtain ⟨r, hr, rfl⟩ := List.mem_map.1 hs
 have hp := x6 _ _ _ hr
 have h1 := xg r fun x hx => hz x (hp.mem_iff.1 hx)
 have h2 := hp.length_eq
 omega
theorem iN {L : List ByteArray} {M : Nat} (hz : ∀ x ∈ L, x.size ≤ M) (k : Nat) : (gs L k).size ≤ M := by
 by_cases hk : k < L.length
 ·have : gs L k = L[k] := by simp [gs, hk]
  rw [this]; exact hz _ (List.getElem_mem hk)
 ·have : gs L k = ByteArray.empty := by simp [gs, hk]
  rw [this]; exact Nat.zero_le _
end
end Go.Proofs.YteegefnjnikngaaGreat
