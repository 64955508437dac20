/- SharederrorClades, plain: the tree whose leaves are renamed, the lists of the leaves below its nodes. The contract of layer 31's reference's SameTree, at trees that are the same. The example of the chapter: three, awake. The example of chapter 35: awake. The plain law of SharederrorSupport: the supports of the different sets. The walk of SharederrorSupport. The walk of SharederrorLeaves. -/
import Derived.Test.YtgjcfkadioblfaaGreatQ32
import Derived.Test.YtgjcfkadioblfaaGreatQ30
import Derived.Test.YtgjcfkadioblfaaGreatQ33
import Derived.Test.YtgjcfkadioblfaaGreatQ19
import Derived.Test.YtgjcfkadioblfaaGreatQ5
import Derived.Test.YtgjcfkadioblfaaGreatQ7
import Derived.Test.YtgjcfkadioblfaaGreatQ24
import Derived.Test.YtgjcfkadioblfaaGreatQ23
import Derived.Test.YtgjcfkadioblfaaGreatQ12
import Derived.Test.YtgjcfkadioblfaaGreatQ26
import Derived.Test.YtgjcfkadioblfaaGreatQ28
namespace Go.Proofs.YtgjcfkadioblfaaGreat
/-- How many of the first k names are not empty. -/
def cntN (ns : List ByteArray) : Nat → Nat
  | 0 => 0
  | k + 1 => cntN ns k + if (gs ns k).size ≠ 0 then 1 else 0
def uN (ns : List ByteArray) (i : Nat) : ByteArray := if (gs ns i).size ≠ 0 then nmLt (cntN ns i) else gs ns i
def uT (t : Tre) : Tre := ⟨t.ps, (List.range t.ns.length).map (uN t.ns)⟩
def clL (t : Tre) : List Grp := (List.range t.ps.length).map fun (i : Nat) => ⟨(i : Int), 0, lvL (uT t) i⟩
def clN (t : Tre) : Nat := cntN t.ns t.ns.length
theorem cntN_le (ns : List ByteArray) : ∀ k, cntN ns k ≤ k
  | 0 => Nat.le_refl _
  | k + 1 => by have := cntN_le ns k; rw [cntN]; split <;> omega
theorem cntN_mono (ns : List ByteArray) : ∀ {j k : Nat}, j ≤ k → cntN ns j ≤ cntN ns k
  | j, 0, h => by obtain rfl : j = 0 := by omega
                  exact Nat.le_refl _
  | j, k + 1, h => by
    by_cases e : j = k + 1
    · subst e; exact Nat.le_refl _
    · have := cntN_mono ns (j := j) (k := k) (by omega)
      rw [cntN]; omega
theorem cntN_lt {ns : List ByteArray} {j k : Nat} (h : j < k) (hj : (gs ns j).size ≠ 0) : cntN ns j < cntN ns k := by
  have h1 := cntN_mono ns (show j + 1 ≤ k by omega)
  rw [cntN, if_pos hj] at h1; omega
theorem cntN_inj {ns : List ByteArray} {j k : Nat} (hj : (gs ns j).size ≠ 0) (hk : (gs ns k).size ≠ 0) (h : cntN ns j = cntN ns k) : j = k := by
  rcases Nat.lt_trichotomy j k with c | c | c
  · have := cntN_lt c hj; omega
  · exact c
  · have := cntN_lt c hk; omega
/-- Each number below the count is some node's. -/
theorem cntN_ex (ns : List ByteArray) : ∀ {k b : Nat}, b < cntN ns k → ∃ j, j < k ∧ (gs ns j).size ≠ 0 ∧ cntN ns j = b
  | 0, b, h => by simp [cntN] at h
  | k + 1, b, h => by
    by_cases hb : b < cntN ns k
    · obtain ⟨j, h1, h2, h3⟩ := cntN_ex ns hb
      exact ⟨j, by omega, h2, h3⟩
    · rw [cntN] at h
      by_cases hs : (gs ns k).size ≠ 0
      · rw [if_pos hs] at h
        exact ⟨k, by omega, hs, by omega⟩
      · rw [if_neg hs] at h; omega
theorem nmLt_named2 : ∀ i, i < 16 → namedB (nmLt i).data.toList = true := by decide +kernel
theorem nmLt_inj2 : ∀ i, i < 16 → ∀ j, j < 16 → nmLt i = nmLt j → i = j := by decide +kernel
theorem nmLt_num2 : ∀ i, i < 16 → lvNum (nmLt i) = i := by decide +kernel
theorem nmLt_size (i : Nat) : (nmLt i).size = 1 := rfl
section
variable {t : Tre}
theorem uT_len : (uT t).ns.length = t.ns.length := by simp [uT]
theorem uT_gs {i : Nat} (hi : i < t.ns.length) : gs (uT t).ns i = uN t.ns i := by simp [uT, gs, hi]
theorem uT_size {i : Nat} : (gs (uT t).ns i).size ≠ 0 ↔ i < t.ns.length ∧ (gs t.ns i).size ≠ 0 := by
  by_cases hi : i < t.ns.length
  · rw [uT_gs hi]
    unfold uN
    by_cases h : (gs t.ns i).size ≠ 0
    · rw [if_pos h]; exact ⟨fun _ => ⟨hi, h⟩, fun _ => by rw [nmLt_size]; decide⟩
    · rw [if_neg h]; exact ⟨fun h2 => absurd h2 h, fun h2 => h2.2⟩
  · have : gs (uT t).ns i = ByteArray.empty := by unfold gs; rw [List.getD_eq_getElem?_getD, List.getElem?_eq_none (by rw [uT_len]; omega)]; rfl
    rw [this]
    exact ⟨fun h => absurd rfl h, fun h => absurd h.1 hi⟩
theorem uT_nm {i : Nat} (hi : i < t.ns.length) (h : (gs t.ns i).size ≠ 0) : gs (uT t).ns i = nmLt (cntN t.ns i) := by
  rw [uT_gs hi]; unfold uN; rw [if_pos h]
theorem uT_err (h : treeErr t = 0) (h16 : t.ps.length ≤ 16) : treeErr (uT t) = 0 := by
  obtain ⟨hp, _, hl, hok, hne⟩ := treeErr_zero h
  unfold treeErr
  rw [show (uT t).ps = t.ps from rfl, uT_len, if_neg (by omega), if_neg (by omega), if_neg (by omega), if_pos hok]
  refine firstNZ_zero fun i hi => ?_
  have h1 := hne i hi
  have hin : i < t.ns.length := by omega
  unfold nErr
  by_cases c : isIn t.ps i = true
  · have h0 := nErr_inn h1 c
    rw [if_pos c, if_pos]
    exact Classical.byContradiction fun q => (uT_size.1 q).2 h0
  · have c : isIn t.ps i = false := by simpa using c
    have h0 := named_size (nErr_leaf h1 c).1
    have hc : cntN t.ns i < 16 := by have := cntN_le t.ns i; omega
    rw [if_neg (by rw [c]; decide), uT_nm hin h0, if_pos (nmLt_named2 _ hc), if_neg]
    intro q
    unfold seenK at q
    obtain ⟨j, hj, e⟩ := List.any_eq_true.1 q
    have hj : j < i := List.mem_range.1 hj
    have e := of_decide_eq_true e
    rw [uT_nm hin h0] at e
    have hjs : (gs (uT t).ns j).size ≠ 0 := by rw [e, nmLt_size]; decide
    obtain ⟨hj1, hj2⟩ := uT_size.1 hjs
    rw [uT_nm hj1 hj2] at e
    have hcj : cntN t.ns j < 16 := by have := cntN_le t.ns j; omega
    have := cntN_inj hj2 h0 (nmLt_inj2 _ hcj _ hc e)
    omega
/-- What lies below i, by the parents and by the children. -/
theorem sub_hit (h : treeErr t = 0) : ∀ (d i j : Nat), t.ps.length - i ≤ d → i < t.ps.length → j < t.ps.length → subF (frT t) (rkT t) i j = hitB t.ps i j
  | 0, i, _, hd, hi, _ => by omega
  | d + 1, i, j, hd, hi, hj => by
    obtain ⟨_, _, _, hok, _⟩ := treeErr_zero h
    have hw := (frT_arb h).wf
    rw [Bool.eq_iff_iff, hit_kid hok hj, subF_eq hw hi, Bool.or_eq_true, beq_iff_eq, List.any_eq_true]
    constructor
    · rintro (e | ⟨c, hc, e⟩)
      · exact .inl e
      · rw [frT_kids] at hc
        obtain ⟨h1, h2, h3⟩ := mem_kidsL.1 hc
        exact .inr ⟨c, h1, h2, h3, by rw [← sub_hit h d c j (by omega) h1 hj]; exact e⟩
    · rintro (e | ⟨c, h1, h2, h3, e⟩)
      · exact .inl e
      · exact .inr ⟨c, by rw [frT_kids]; exact mem_kidsL.2 ⟨h1, h2, h3⟩, by rw [sub_hit h d c j (by omega) h1 hj]; exact e⟩
theorem hit_chain {ps : List Int} (hp : pOkB ps = true) {i k : Nat} (hik : i ≤ k) : ∀ (d j : Nat), j ≤ d → j < ps.length → hitB ps i j = true → hitB ps k j = true → hitB ps i k = true
  | d, j, hd, hj, h1, h2 => by
    have hkj := hit_le hp hj h2
    by_cases e : j = k
    · subst e; exact h1
    · obtain ⟨p0, pj⟩ := pOkB_par hp hj (by omega)
      rw [hit_step hp hj (by omega)] at h1 h2
      cases d with
      | zero => omega
      | succ d => exact hit_chain hp hik d (gi ps j).toNat (by omega) (by omega) h1 h2
theorem hit_trans {ps : List Int} (hp : pOkB ps = true) {i k : Nat} (hk : k < ps.length) (h1 : hitB ps i k = true) : ∀ (d j : Nat), j ≤ d → j < ps.length → hitB ps k j = true → hitB ps i j = true
  | d, j, hd, hj, h2 => by
    have hik := hit_le hp hk h1
    have hkj := hit_le hp hj h2
    by_cases e : j = k
    · subst e; exact h1
    · obtain ⟨p0, pj⟩ := pOkB_par hp hj (by omega)
      rw [hit_step hp hj (by omega)] at h2
      rw [hit_step hp hj (by omega)]
      cases d with
      | zero => omega
      | succ d => exact hit_trans hp hk h1 d (gi ps j).toNat (by omega) (by omega) h2
theorem mem_lvK (t : Tre) (i : Nat) {x : Int} : ∀ m, x ∈ lvK t i m ↔ ∃ j, j < m ∧ hitB t.ps i (i + j) = true ∧ (gs t.ns (i + j)).size = 1 ∧ x = lvNum (gs t.ns (i + j))
  | 0 => by simp [lvK]
  | m + 1 => by
    rw [lvK, List.mem_append, mem_lvK t i m]
    unfold lvOne
    constructor
    · rintro (⟨j, h, e⟩ | h)
      · exact ⟨j, by omega, e⟩
      · split at h
        · rename_i c
          rw [Bool.and_eq_true, decide_eq_true_eq] at c
          exact ⟨m, by omega, c.1, c.2, by simpa using h⟩
        · cases h
    · rintro ⟨j, h, e1, e2, e3⟩
      by_cases c : j = m
      · subst c
        refine .inr ?_
        rw [if_pos (by rw [Bool.and_eq_true, decide_eq_true_eq]; exact ⟨e1, e2⟩), e3]; simp
      · exact .inl ⟨j, by omega, e1, e2, e3⟩
/-- The numbers below a node. -/
theorem mem_lv (h : treeErr t = 0) (h16 : t.ps.length ≤ 16) {i : Nat} (hi : i < t.ps.length) {x : Int} : x ∈ lvL (uT t) i ↔ ∃ j, j < t.ps.length ∧ hitB t.ps i j = true ∧ (gs t.ns j).size ≠ 0 ∧ x = (cntN t.ns j : Nat) := by
  obtain ⟨_, _, hl, hok, _⟩ := treeErr_zero h
  unfold lvL sortL
  rw [List.mem_mergeSort, mem_lvK]
  have key : ∀ j, j < t.ps.length → (gs t.ns j).size ≠ 0 → (gs (uT t).ns j).size = 1 ∧ lvNum (gs (uT t).ns j) = (cntN t.ns j : Nat) := fun j hj hs => by
    rw [uT_nm (by omega) hs]
    exact ⟨nmLt_size _, nmLt_num2 _ (by have := cntN_le t.ns j; omega)⟩
  constructor
  · rintro ⟨j, h1, h2, h3, e⟩
    have h1 : j < t.ps.length - i := h1
    obtain ⟨_, hs⟩ := uT_size.1 (show (gs (uT t).ns (i + j)).size ≠ 0 by rw [h3]; decide)
    exact ⟨i + j, by omega, h2, hs, by rw [e]; exact (key _ (by omega) hs).2⟩
  · rintro ⟨j, h1, h2, h3, rfl⟩
    have hij := hit_le hok h1 h2
    refine ⟨j - i, show j - i < t.ps.length - i by omega, ?_, ?_, ?_⟩
    · rw [show i + (j - i) = j by omega]; exact h2
    · rw [show i + (j - i) = j by omega]; exact (key j h1 h3).1
    · rw [show i + (j - i) = j by omega]; exact (key j h1 h3).2.symm
theorem lvK_nodup (h : treeErr t = 0) (h16 : t.ps.length ≤ 16) (i : Nat) : ∀ m, i + m ≤ t.ps.length → (lvK (uT t) i m).Nodup
  | 0, _ => List.nodup_nil
  | m + 1, hm => by
    obtain ⟨_, _, hl, _, _⟩ := treeErr_zero h
    have ih := lvK_nodup h h16 i m (by omega)
    rw [lvK]
    unfold lvOne
    split
    · rename_i c
      rw [Bool.and_eq_true, decide_eq_true_eq] at c
      refine List.nodup_append.2 ⟨ih, by simp, fun a ha b hb e => ?_⟩
      rw [List.mem_singleton] at hb
      subst hb; subst e
      obtain ⟨j, hj, _, h3, e⟩ := (mem_lvK _ _ m).1 ha
      obtain ⟨_, s1⟩ := uT_size.1 (show (gs (uT t).ns (i + m)).size ≠ 0 by rw [c.2]; decide)
      obtain ⟨_, s2⟩ := uT_size.1 (show (gs (uT t).ns (i + j)).size ≠ 0 by rw [h3]; decide)
      rw [uT_nm (by omega) s1, uT_nm (by omega) s2, nmLt_num2 _ (by have := cntN_le t.ns (i + m); omega), nmLt_num2 _ (by have := cntN_le t.ns (i + j); omega)] at e
      have := cntN_inj s1 s2 (by omega)
      omega
    · rw [List.append_nil]; exact ih
theorem lv_asc (h : treeErr t = 0) (h16 : t.ps.length ≤ 16) {i : Nat} (hi : i < t.ps.length) : (lvL (uT t) i).Pairwise (· < ·) := by
  have hnd : (lvL (uT t) i).Nodup := (List.mergeSort_perm _ _).nodup_iff.2 (lvK_nodup h h16 i _ (by show i + (t.ps.length - i) ≤ _; omega))
  have hle : (lvL (uT t) i).Pairwise fun a b => decide (a ≤ b) = true := List.pairwise_mergeSort (fun a b c h1 h2 => by simp only [decide_eq_true_eq] at *; omega) (fun a b => by simp only [Bool.or_eq_true, decide_eq_true_eq]; omega) _
  refine (hle.and hnd).imp fun h => ?_
  have h1 := of_decide_eq_true h.1
  have h2 := h.2
  omega
/-- Some leaf lies below each node. -/
theorem leaf_below (h : treeErr t = 0) : ∀ (d i : Nat), t.ps.length - i ≤ d → i < t.ps.length → ∃ j, j < t.ps.length ∧ hitB t.ps i j = true ∧ (gs t.ns j).size ≠ 0
  | 0, i, hd, hi => by omega
  | d + 1, i, hd, hi => by
    obtain ⟨_, _, hl, hok, hne⟩ := treeErr_zero h
    by_cases c : isIn t.ps i = true
    · unfold isIn inK at c
      obtain ⟨k, hk, e⟩ := List.any_eq_true.1 c
      have hk : k < t.ps.length := List.mem_range.1 hk
      rw [Bool.and_eq_true, decide_eq_true_eq, beq_iff_eq] at e
      obtain ⟨p0, p1⟩ := pOkB_par hok hk e.1
      obtain ⟨j, h1, h2, h3⟩ := leaf_below h d k (by omega) hk
      exact ⟨j, h1, (hit_kid hok h1).2 (.inr ⟨k, hk, by omega, e.2, h2⟩), h3⟩
    · exact ⟨i, hi, hit_self i, named_size (nErr_leaf (hne i hi) (by simpa using c)).1⟩
end
end Go.Proofs.YtgjcfkadioblfaaGreat
namespace Go.Proofs.YtgjcfkadioblfaaGreat
open Go.RowKit Go.Deep
set_option maxRecDepth 100000 in
set_option maxHeartbeats 2000000 in
theorem sameTree_yes (S T : Nat → Prop) (w : World) (v u : Value) (t : Tre) (h : TreeAt S w v t) (h2 : TreeAt T w u t) (hp : t.ps.length ≤ 1000000) (hn : t.ns.length ≤ 1000000) :
    Calls Tryz.prog 19 #[v, u] w fun e w' => e = .returned (.bool true) ∧ Up w w' := by
  obtain ⟨P, N, rfl, hP, hN⟩ := h
  obtain ⟨P2, N2, rfl, hP2, hN2⟩ := h2
  obtain ⟨pp, pc, rfl, _, _⟩ := SlAt.open hP
  obtain ⟨np, nc, rfl, _, _⟩ := SlAt.open hN
  obtain ⟨pp2, pc2, rfl, _, _⟩ := SlAt.open hP2
  obtain ⟨np2, nc2, rfl, _, _⟩ := SlAt.open hN2
  have hP : IntsAt S w (.slice pp t.ps.length pc) t.ps := hP
  have hN : StrsAt S w (.slice np t.ns.length nc) t.ns := hN
  have hP2 : IntsAt T w (.slice pp2 t.ps.length pc2) t.ps := hP2
  have hN2 : StrsAt T w (.slice np2 t.ns.length nc2) t.ns := hN2
  have hu1 := Up.alloc w (.cells #[.slice pp t.ps.length pc, .slice np t.ns.length nc] 25)
  have hu2 := Up.alloc (w.alloc (.cells #[.slice pp t.ps.length pc, .slice np t.ns.length nc] 25)) (.cells #[.slice pp2 t.ps.length pc2, .slice np2 t.ns.length nc2] 25)
  have hu := hu1.trans hu2
  have a0 := hu2.cell (box2_0 w (.slice pp t.ps.length pc) (.slice np t.ns.length nc) 25)
  have a1 := hu2.cell (box2_1 w (.slice pp t.ps.length pc) (.slice np t.ns.length nc) 25)
  have b0 := box2_0 (w.alloc (.cells #[.slice pp t.ps.length pc, .slice np t.ns.length nc] 25)) (.slice pp2 t.ps.length pc2) (.slice np2 t.ns.length nc2) 25
  have b1 := box2_1 (w.alloc (.cells #[.slice pp t.ps.length pc, .slice np t.ns.length nc] 25)) (.slice pp2 t.ps.length pc2) (.slice np2 t.ns.length nc2) 25
  rw [World.size_alloc] at b0 b1
  have HP := Lib.hid (IntsAt.keep hP (hu.kept S))
  have HN := Lib.hid (StrsAt.keep hN (hu.kept S))
  have HP2 := Lib.hid (IntsAt.keep hP2 (hu.kept T))
  have HN2 := Lib.hid (StrsAt.keep hN2 (hu.kept T))
  have HU := Lib.hid hu
  have A0 := Lib.hid a0
  have A1 := Lib.hid a1
  have B0' := Lib.hid b0
  have B1' := Lib.hid b1
  have d0 : ((t.ps.length : Int) != (t.ps.length : Int)) = false := by simp
  have d1 : ((t.ns.length : Int) != (t.ns.length : Int)) = false := by simp
  clear hP hN hP2 hN2 hu hu1 hu2
  go_enter Tryz.func19, Tryz.ntmps19
  go_wp2_with fail
  clear a0 a1 b0 b1
  generalize (w.alloc (.cells #[.slice pp t.ps.length pc, .slice np t.ns.length nc] 25)).alloc (.cells #[.slice pp2 t.ps.length pc2, .slice np2 t.ns.length nc2] 25) = w1 at *
  go_loopw [5] (fun i wr => ∃ k : Nat, k ≤ t.ps.length ∧ i = .int .i64 k ∧ Hid (QD w1 wr)) (fun i _ => t.ps.length - (intOf i).toNat)
  case atStart => exact ⟨0, Nat.zero_le _, rfl, QD.refl _⟩
  case round =>
    obtain ⟨k, hk, rfl, hQ⟩ := hrel
    have a0 := hQ.out.up.cell A0.out
    have b0 := hQ.out.up.cell B0'.out
    by_cases hlt : k < t.ps.length
    · obtain ⟨b, off, rfl, hc⟩ := ints_get (IntsAt.keep HP.out (hQ.out.kept S)) hlt
      obtain ⟨b2, off2, rfl, hc2⟩ := ints_get (IntsAt.keep HP2.out (hQ.out.kept T)) hlt
      have i1 : (0 : Int) ≤ (k : Int) := by omega
      have i2 : (k : Int) < (t.ps.length : Int) := by omega
      generalize gi t.ps k = x at *
      have j1 : (x != x) = false := by simp
      go_wp2_with fail
      go_quiet (fail)
      go_wp2_with fail
      go_roundw
      case rel => exact ⟨k + 1, by omega, by go_num, hQ.out.drewN nq⟩
      case measure => simp [intOf]; omega
    · obtain rfl : k = t.ps.length := by omega
      have HQ0 := Lib.hid hQ.out
      clear hlt hk
      go_wp2_with fail
      go_loopw [6] (fun i wr => ∃ k : Nat, k ≤ t.ns.length ∧ i = .int .i64 k ∧ Hid (QD w1 wr)) (fun i _ => t.ns.length - (intOf i).toNat)
      case atStart => exact ⟨0, Nat.zero_le _, rfl, HQ0.out⟩
      case round =>
        obtain ⟨k, hk, rfl, hQ⟩ := hrel
        have a1 := hQ.out.up.cell A1.out
        have b1 := hQ.out.up.cell B1'.out
        by_cases hlt : k < t.ns.length
        · obtain ⟨b, off, rfl, hc⟩ := strs_get (StrsAt.keep HN.out (hQ.out.kept S)) hlt
          obtain ⟨b2, off2, rfl, hc2⟩ := strs_get (StrsAt.keep HN2.out (hQ.out.kept T)) hlt
          have i1 : (0 : Int) ≤ (k : Int) := by omega
          have i2 : (k : Int) < (t.ns.length : Int) := by omega
          generalize gs t.ns k = x at *
          have j1 : (x.toList == x.toList) = true := by simp
          go_wp2_with fail
          go_quiet (fail)
          go_wp2_with fail
          go_roundw
          case rel => exact ⟨k + 1, by omega, by go_num, hQ.out.drewN nq⟩
          case measure => simp [intOf]; omega
        · obtain rfl : k = t.ns.length := by omega
          clear hlt hk
          go_wp2_with fail
          go_ret
          exact ⟨rfl, HU.out.trans hQ.out.up⟩
end Go.Proofs.YtgjcfkadioblfaaGreat
namespace Go.Proofs.YtgjcfkadioblfaaGreat
open Go.RowKit Go.Deep
def t3 : Tre := ⟨[-1, 0, 1, 1, 0], [⟨#[]⟩, ⟨#[]⟩, ⟨#[65]⟩, ⟨#[66]⟩, ⟨#[67]⟩]⟩
def s3 : List Int := [0, 1, 1]
def u2 : List (List Int) := [[0, 1], [1, 0]]
theorem lit_ints (w : World) (cs : Array Value) (T : TypeId) (xs : List Int) (hcs : cs.toList = xs.map (Value.int .i64)) (n : Nat) (hn : n = xs.length) : IntsAt Any (w.alloc (.cells cs T)) (.slice (some ⟨w.heap.size, 0, none⟩) n n) xs := by
  subst hn
  refine ⟨_, _, rfl, Nat.le_refl _, .inr ⟨_, 0, rfl, trivial, fun k hk => ?_⟩⟩
  rw [Nat.zero_add, cell_at_new, ← Array.getElem?_toList, hcs]
  simp [gi, hk]
theorem lit_strs (w : World) (cs : Array Value) (T : TypeId) (xs : List ByteArray) (hcs : cs.toList = xs.map Value.string) (n : Nat) (hn : n = xs.length) : StrsAt Any (w.alloc (.cells cs T)) (.slice (some ⟨w.heap.size, 0, none⟩) n n) xs := by
  subst hn
  refine ⟨_, _, rfl, Nat.le_refl _, .inr ⟨_, 0, rfl, trivial, fun k hk => ?_⟩⟩
  rw [Nat.zero_add, cell_at_new, ← Array.getElem?_toList, hcs]
  simp [gs, hk]
theorem equal_yes (S T : Nat → Prop) (w : World) (v u : Value) (xs ys : List Int) (h : IntsAt S w v xs) (h2 : IntsAt T w u ys) (hn : xs.length ≤ 1000000) (hn2 : ys.length ≤ 1000000) (e : xs = ys) :
    Calls Tryz.prog 20 #[v, u] w (EqPost w true) := by
  have h3 := equal_int_t S T w v u xs ys h h2 hn hn2
  rw [decide_eq_true e] at h3; exact h3
theorem sized3 : Sized t3 s3 u2 := ⟨by decide, by decide, fun k => by
  by_cases h : k < 5
  · have : k = 0 ∨ k = 1 ∨ k = 2 ∨ k = 3 ∨ k = 4 := by omega
    rcases this with rfl | rfl | rfl | rfl | rfl <;> decide
  · simp [gs, t3, List.getElem?_eq_none (by simp; omega : [(⟨#[]⟩ : ByteArray), ⟨#[]⟩, ⟨#[65]⟩, ⟨#[66]⟩, ⟨#[67]⟩].length ≤ k)], by decide, by decide, fun k => by
  by_cases h : k < 2
  · have : k = 0 ∨ k = 1 := by omega
    rcases this with rfl | rfl <;> decide
  · simp [gl, u2, List.getElem?_eq_none (by simp; omega : [[(0 : Int), 1], [1, 0]].length ≤ k)]⟩
theorem par3 : parErr t3 s3 u2 = 0 := by decide +kernel
theorem score3 : scoreN t3 s3 u2 = 1 := by decide +kernel
theorem assign3 : assignN t3 s3 u2 = [1, 1, 0, 1, 1] := by decide +kernel
theorem table3 : tableN t3 s3 u2 = [[2, 1], [1, 1], [0, -1], [-1, 0], [-1, 0]] := by decide +kernel
def ThPost (w : World) (e : Ending) (w' : World) : Prop := Up w w' ∧ ∃ v, e = .returned v ∧ TreeAt Any w' v t3
end Go.Proofs.YtgjcfkadioblfaaGreat
namespace Go.Proofs.YtgjcfkadioblfaaGreat
open Go.RowKit Go.Deep
def nmA : List ByteArray := [⟨#[65]⟩, ⟨#[66]⟩, ⟨#[67]⟩, ⟨#[68]⟩]
def stA : List (List Int) := [[0], [1], [1], [2]]
def gpA : List Grp := [⟨0, 1, [1, 2]⟩, ⟨0, 2, [3]⟩]
def trA : Tre := ⟨[-1, 0, 0, 2, 2, 0], [⟨#[]⟩, ⟨#[65]⟩, ⟨#[]⟩, ⟨#[66]⟩, ⟨#[67]⟩, ⟨#[68]⟩]⟩
deriving instance DecidableEq for Grp
theorem grpA : groupsN stA [0] = gpA := by decide +kernel
theorem grErrA : grErr stA [0] = 0 := by decide +kernel
theorem shErrA : shErr nmA gpA = 0 := by decide +kernel
def rwA : Tre := ⟨[-1, 0, 1, 1, 0, 0], [⟨#[]⟩, ⟨#[]⟩, ⟨#[66]⟩, ⟨#[67]⟩, ⟨#[65]⟩, ⟨#[68]⟩]⟩
theorem rawA : rawT nmA gpA = rwA := by decide +kernel
theorem trErrA : treeErr rwA = 0 := by decide +kernel
theorem canA : canT rwA = trA := by rw [canT_eq2]; decide +kernel
theorem shTreeA : shTree nmA gpA = trA ∧ shRes nmA gpA = 0 := by
  unfold shTree shRes
  rw [shErrA, rawA, trErrA, canA]
  exact ⟨rfl, rfl⟩
theorem get_small {α : Type} {P : α → Prop} {l : List α} {d : α} (h : ∀ x ∈ l, P x) (hd : P d) (k : Nat) : P (l.getD k d) := by
  by_cases hk : k < l.length
  · have : l.getD k d = l[k] := by simp [hk]
    rw [this]; exact h _ (List.getElem_mem hk)
  · have : l.getD k d = d := by simp [show l.length ≤ k by omega]
    rw [this]; exact hd
theorem litA (w : World) : Up w ((((((w.alloc (.cells #[.int .i64 0] 3)).alloc (.cells #[.int .i64 1] 3)).alloc (.cells #[.int .i64 1] 3)).alloc (.cells #[.int .i64 2] 3)).alloc (.cells #[.slice (some ⟨w.heap.size, 0, none⟩) 1 1, .slice (some ⟨w.heap.size + 1, 0, none⟩) 1 1, .slice (some ⟨w.heap.size + 1 + 1, 0, none⟩) 1 1, .slice (some ⟨w.heap.size + 1 + 1 + 1, 0, none⟩) 1 1] 22)).alloc (.cells #[.int .i64 0] 3)) ∧ RowsAt Any ((((((w.alloc (.cells #[.int .i64 0] 3)).alloc (.cells #[.int .i64 1] 3)).alloc (.cells #[.int .i64 1] 3)).alloc (.cells #[.int .i64 2] 3)).alloc (.cells #[.slice (some ⟨w.heap.size, 0, none⟩) 1 1, .slice (some ⟨w.heap.size + 1, 0, none⟩) 1 1, .slice (some ⟨w.heap.size + 1 + 1, 0, none⟩) 1 1, .slice (some ⟨w.heap.size + 1 + 1 + 1, 0, none⟩) 1 1] 22)).alloc (.cells #[.int .i64 0] 3)) (.slice (some ⟨w.heap.size + 1 + 1 + 1 + 1, 0, none⟩) 4 4) stA ∧ IntsAt Any ((((((w.alloc (.cells #[.int .i64 0] 3)).alloc (.cells #[.int .i64 1] 3)).alloc (.cells #[.int .i64 1] 3)).alloc (.cells #[.int .i64 2] 3)).alloc (.cells #[.slice (some ⟨w.heap.size, 0, none⟩) 1 1, .slice (some ⟨w.heap.size + 1, 0, none⟩) 1 1, .slice (some ⟨w.heap.size + 1 + 1, 0, none⟩) 1 1, .slice (some ⟨w.heap.size + 1 + 1 + 1, 0, none⟩) 1 1] 22)).alloc (.cells #[.int .i64 0] 3)) (.slice (some ⟨w.heap.size + 1 + 1 + 1 + 1 + 1, 0, none⟩) 1 1) [0] := by
  refine ⟨((((((Up.alloc _ _).trans (Up.alloc _ _)).trans (Up.alloc _ _)).trans (Up.alloc _ _)).trans (Up.alloc _ _)).trans (Up.alloc _ _)), ⟨fun k => .slice (some ⟨w.heap.size + k, 0, none⟩) 1 1, ⟨_, _, rfl, Nat.le_refl _, .inr ⟨_, 0, rfl, trivial, fun k hk => ?_⟩⟩, fun k hk => ?_⟩, ?_⟩
  · have h2 : k < 4 := hk
    have h := cell_at_new ((((w.alloc (.cells #[.int .i64 0] 3)).alloc (.cells #[.int .i64 1] 3)).alloc (.cells #[.int .i64 1] 3)).alloc (.cells #[.int .i64 2] 3)) #[.slice (some ⟨w.heap.size, 0, none⟩) 1 1, .slice (some ⟨w.heap.size + 1, 0, none⟩) 1 1, .slice (some ⟨w.heap.size + 1 + 1, 0, none⟩) 1 1, .slice (some ⟨w.heap.size + 1 + 1 + 1, 0, none⟩) 1 1] 22 k
    simp only [World.size_alloc] at h
    rw [Nat.zero_add]
    refine (Up.alloc _ _).cell (h.trans ?_)
    have : k = 0 ∨ k = 1 ∨ k = 2 ∨ k = 3 := by omega
    rcases this with rfl | rfl | rfl | rfl <;> rfl
  · have h2 : k < 4 := hk
    have : k = 0 ∨ k = 1 ∨ k = 2 ∨ k = 3 := by omega
    rcases this with rfl | rfl | rfl | rfl
    · have h := lit_ints w #[.int .i64 0] 3 [0] rfl 1 rfl
      try simp only [World.size_alloc] at h
      exact IntsAt.keep h (((((((Up.alloc _ _).trans (Up.alloc _ _)).trans (Up.alloc _ _)).trans (Up.alloc _ _)).trans (Up.alloc _ _))).kept _)
    · have h := lit_ints (w.alloc (.cells #[.int .i64 0] 3)) #[.int .i64 1] 3 [1] rfl 1 rfl
      try simp only [World.size_alloc] at h
      exact IntsAt.keep h ((((((Up.alloc _ _).trans (Up.alloc _ _)).trans (Up.alloc _ _)).trans (Up.alloc _ _))).kept _)
    · have h := lit_ints ((w.alloc (.cells #[.int .i64 0] 3)).alloc (.cells #[.int .i64 1] 3)) #[.int .i64 1] 3 [1] rfl 1 rfl
      try simp only [World.size_alloc] at h
      exact IntsAt.keep h (((((Up.alloc _ _).trans (Up.alloc _ _)).trans (Up.alloc _ _))).kept _)
    · have h := lit_ints (((w.alloc (.cells #[.int .i64 0] 3)).alloc (.cells #[.int .i64 1] 3)).alloc (.cells #[.int .i64 1] 3)) #[.int .i64 2] 3 [2] rfl 1 rfl
      try simp only [World.size_alloc] at h
      exact IntsAt.keep h ((((Up.alloc _ _).trans (Up.alloc _ _))).kept _)
  · have h := lit_ints (((((w.alloc (.cells #[.int .i64 0] 3)).alloc (.cells #[.int .i64 1] 3)).alloc (.cells #[.int .i64 1] 3)).alloc (.cells #[.int .i64 2] 3)).alloc (.cells #[.slice (some ⟨w.heap.size, 0, none⟩) 1 1, .slice (some ⟨w.heap.size + 1, 0, none⟩) 1 1, .slice (some ⟨w.heap.size + 1 + 1, 0, none⟩) 1 1, .slice (some ⟨w.heap.size + 1 + 1 + 1, 0, none⟩) 1 1] 22)) #[.int .i64 0] 3 [0] rfl 1 rfl
    simp only [World.size_alloc] at h
    exact h
theorem litG (w5 : World) : Up w5 (((w5.alloc (.cells #[.int .i64 1, .int .i64 2] 3)).alloc (.cells #[.int .i64 3] 3)).alloc (.cells #[.int .i64 0, .int .i64 1, .slice (some ⟨w5.heap.size, 0, none⟩) 2 2, .int .i64 0, .int .i64 2, .slice (some ⟨w5.heap.size + 1, 0, none⟩) 1 1] 61)) ∧ GrpsAt Any (((w5.alloc (.cells #[.int .i64 1, .int .i64 2] 3)).alloc (.cells #[.int .i64 3] 3)).alloc (.cells #[.int .i64 0, .int .i64 1, .slice (some ⟨w5.heap.size, 0, none⟩) 2 2, .int .i64 0, .int .i64 2, .slice (some ⟨w5.heap.size + 1, 0, none⟩) 1 1] 61)) (.slice (some ⟨w5.heap.size + 1 + 1, 0, none⟩) 2 2) gpA := by
  refine ⟨(((Up.alloc _ _).trans (Up.alloc _ _)).trans (Up.alloc _ _)), _, 2, rfl, Nat.le_refl _, .inr ⟨_, 0, rfl, trivial, fun k hk => ?_⟩⟩
  have h2 : k < 2 := hk
  have h := fun j => cell_at_new ((w5.alloc (.cells #[.int .i64 1, .int .i64 2] 3)).alloc (.cells #[.int .i64 3] 3)) #[.int .i64 0, .int .i64 1, .slice (some ⟨w5.heap.size, 0, none⟩) 2 2, .int .i64 0, .int .i64 2, .slice (some ⟨w5.heap.size + 1, 0, none⟩) 1 1] 61 j
  simp only [World.size_alloc] at h
  have hk2 : k = 0 ∨ k = 1 := by omega
  rcases hk2 with rfl | rfl
  · refine ⟨_, h 0, h 1, h 2, ?_⟩
    exact IntsAt.keep (lit_ints w5 #[.int .i64 1, .int .i64 2] 3 [1, 2] rfl 2 rfl) ((((Up.alloc _ _).trans (Up.alloc _ _))).kept _)
  · refine ⟨_, h 3, h 4, h 5, ?_⟩
    have h3 := lit_ints (w5.alloc (.cells #[.int .i64 1, .int .i64 2] 3)) #[.int .i64 3] 3 [3] rfl 1 rfl
    simp only [World.size_alloc] at h3
    exact IntsAt.keep h3 ((Up.alloc _ _).kept _)
theorem litT (w7 : World) : Up w7 ((w7.alloc (.cells #[.int .i64 (-1), .int .i64 0, .int .i64 0, .int .i64 2, .int .i64 2, .int .i64 0] 3)).alloc (.cells #[.string ⟨#[]⟩, .string ⟨#[65]⟩, .string ⟨#[]⟩, .string ⟨#[66]⟩, .string ⟨#[67]⟩, .string ⟨#[68]⟩] 9)) ∧ TreeAt Any ((w7.alloc (.cells #[.int .i64 (-1), .int .i64 0, .int .i64 0, .int .i64 2, .int .i64 2, .int .i64 0] 3)).alloc (.cells #[.string ⟨#[]⟩, .string ⟨#[65]⟩, .string ⟨#[]⟩, .string ⟨#[66]⟩, .string ⟨#[67]⟩, .string ⟨#[68]⟩] 9)) (.agg #[.slice (some ⟨w7.heap.size, 0, none⟩) 6 6, .slice (some ⟨w7.heap.size + 1, 0, none⟩) 6 6]) trA := by
  have h1 := lit_ints w7 #[.int .i64 (-1), .int .i64 0, .int .i64 0, .int .i64 2, .int .i64 2, .int .i64 0] 3 trA.ps rfl 6 rfl
  have h2 := lit_strs (w7.alloc (.cells #[.int .i64 (-1), .int .i64 0, .int .i64 0, .int .i64 2, .int .i64 2, .int .i64 0] 3)) #[.string ⟨#[]⟩, .string ⟨#[65]⟩, .string ⟨#[]⟩, .string ⟨#[66]⟩, .string ⟨#[67]⟩, .string ⟨#[68]⟩] 9 trA.ns rfl 6 rfl
  simp only [World.size_alloc] at h2
  exact ⟨(Up.alloc _ _).trans (Up.alloc _ _), _, _, rfl, IntsAt.keep h1 ((Up.alloc _ _).kept _), h2⟩
set_option maxRecDepth 100000 in
set_option maxHeartbeats 4000000 in
theorem awake35_t (w : World) : Calls Tryz.prog 11 #[] w fun e w' => e = .returned (.bool true) ∧ Up w w' := by
  obtain ⟨hu1, hr1, hi1⟩ := litA w
  have HU1 := Lib.hid hu1
  have HGR := Lib.hid (groups_t Any _ _ _ stA [0] hr1 hi1 (by decide) (fun k => get_small (P := fun x : List Int => x.length ≤ 1000000) (by decide) (by decide) k) (by decide))
  clear hu1 hr1 hi1
  go_enter Tryz.func11, Tryz.ntmps11
  go_wp2_with fail
  generalize ((((((w.alloc (.cells #[.int .i64 0] 3)).alloc (.cells #[.int .i64 1] 3)).alloc (.cells #[.int .i64 1] 3)).alloc (.cells #[.int .i64 2] 3)).alloc (.cells #[.slice (some ⟨w.heap.size, 0, none⟩) 1 1, .slice (some ⟨w.heap.size + 1, 0, none⟩) 1 1, .slice (some ⟨w.heap.size + 1 + 1, 0, none⟩) 1 1, .slice (some ⟨w.heap.size + 1 + 1 + 1, 0, none⟩) 1 1] 22)).alloc (.cells #[.int .i64 0] 3)) = w0 at *
  refine HGR.out.mono ?_
  rintro e w1 ⟨hu1, gv, rfl, hg1⟩
  rw [grpA] at hg1
  rw [grErrA]
  have HU2 := Lib.hid (HU1.out.trans hu1)
  have hs1 := Up.alloc w1 (.cells #[.string ⟨#[65]⟩, .string ⟨#[66]⟩, .string ⟨#[67]⟩, .string ⟨#[68]⟩] 9)
  have q1 : ∀ k, (gs nmA k).size ≤ 70000 := fun k => get_small (P := fun x : ByteArray => x.size ≤ 70000) (by decide) (by decide) k
  have q2 : ∀ k, (gg gpA k).src.length ≤ 1000000 := fun k => get_small (P := fun x : Grp => x.src.length ≤ 1000000) (by decide) (by decide) k
  have q3 : (rawT nmA gpA).ps.length ≤ 1000000 := by rw [rawA]; decide
  have q4 := lit_strs w1 #[.string ⟨#[65]⟩, .string ⟨#[66]⟩, .string ⟨#[67]⟩, .string ⟨#[68]⟩] 9 nmA rfl 4 rfl
  have HSH := Lib.hid (shTree_t Any (w1.alloc (.cells #[.string ⟨#[65]⟩, .string ⟨#[66]⟩, .string ⟨#[67]⟩, .string ⟨#[68]⟩] 9)) _ _ nmA gpA q4 (hg1.keep (hs1.kept _)) (by decide) q1 (by decide) q2 (fun _ => q3))
  have HG2 := Lib.hid (hg1.keep (hs1.kept Any))
  have HU3 := Lib.hid (HU2.out.trans hs1)
  clear hu1 hg1 hs1 HGR HU1 q1 q2 q3 q4
  go_wp2_with fail
  generalize (w1.alloc (.cells #[.string ⟨#[65]⟩, .string ⟨#[66]⟩, .string ⟨#[67]⟩, .string ⟨#[68]⟩] 9)) = w2 at *
  refine HSH.out.mono ?_
  rintro e w3 ⟨hu3, tv, rfl, ht3⟩
  rw [shTreeA.1] at ht3
  rw [shTreeA.2]
  obtain ⟨P, N, rfl, hP, hN⟩ := ht3
  obtain ⟨pp, pc, rfl, _, _⟩ := SlAt.open hP
  obtain ⟨np, nc, rfl, _, _⟩ := SlAt.open hN
  have HG3 := Lib.hid (HG2.out.keep (hu3.kept _))
  have HT3 : Hid (TreeAt Any w3 (.agg #[.slice pp trA.ps.length pc, .slice np trA.ns.length nc]) trA) := ⟨_, _, rfl, hP, hN⟩
  have HU4 := Lib.hid (HU3.out.trans hu3)
  clear hu3 hP hN HG2 HU3 HSH HU2
  have hu5 := Up.alloc w3 (.cells #[.slice pp trA.ps.length pc, .slice np trA.ns.length nc] 25)
  have b0 := box2_0 w3 (.slice pp trA.ps.length pc) (.slice np trA.ns.length nc) 25
  have b1 := box2_1 w3 (.slice pp trA.ps.length pc) (.slice np trA.ns.length nc) 25
  have HB0 := Lib.hid b0
  have HB1 := Lib.hid b1
  have HG5 := Lib.hid (HG3.out.keep (hu5.kept _))
  have HT5 := Lib.hid (HT3.out.keep (hu5.kept _))
  have HU5 := Lib.hid (HU4.out.trans hu5)
  obtain ⟨gq, gcp, rfl, _⟩ := grps_open HG5.out
  have hsz5 : (w3.alloc (.cells #[.slice pp trA.ps.length pc, .slice np trA.ns.length nc] 25)).heap.size = w3.heap.size + 1 := World.size_alloc _ _
  have HSZ5 := Lib.hid hsz5
  clear hu5 HG3 HT3 HU4 hsz5
  go_wp2_with fail
  generalize w3.alloc (.cells #[.slice pp trA.ps.length pc, .slice np trA.ns.length nc] 25) = w5 at *
  obtain ⟨hu6, hg6⟩ := litG w5
  rw [HSZ5.out] at hu6 hg6
  refine (sameGroups_yes Any Any _ _ _ gpA (HG5.out.keep (hu6.kept _)) hg6 (by decide) (fun k => get_small (P := fun x : Grp => x.src.length ≤ 1000000) (by decide) (by decide) k)).mono ?_
  rintro e w7 ⟨rfl, n7, rfl⟩
  have hu7 := hu6.trans (Up.drewN _ n7)
  have b0 := hu7.cell HB0.out
  have b1 := hu7.cell HB1.out
  have HT7 := Lib.hid (HT5.out.keep (hu7.kept _))
  have HU7 := Lib.hid (HU5.out.trans hu7)
  clear hu6 hg6 hu7 HB0 HB1 HG5 HT5 HU5
  generalize ((((w5.alloc (.cells #[.int .i64 1, .int .i64 2] 3)).alloc (.cells #[.int .i64 3] 3)).alloc (.cells #[.int .i64 0, .int .i64 1, .slice (some ⟨w3.heap.size + 1, 0, none⟩) 2 2, .int .i64 0, .int .i64 2, .slice (some ⟨w3.heap.size + 1 + 1, 0, none⟩) 1 1] 61))).drewN n7 = w7 at *
  go_wp2_with fail
  obtain ⟨hu8, ht8⟩ := litT w7
  refine (sameTree_yes Any Any _ _ _ trA (HT7.out.keep (hu8.kept _)) ht8 (by decide) (by decide)).mono ?_
  rintro e w9 ⟨rfl, hu9⟩
  have HU9 := Lib.hid ((HU7.out.trans hu8).trans hu9)
  clear hu8 ht8 hu9
  go_wp2_with fail
  go_ret
  exact ⟨rfl, HU9.out⟩
end Go.Proofs.YtgjcfkadioblfaaGreat
namespace Go.Proofs.YtgjcfkadioblfaaGreat
open Go.RowKit Go.Deep
/-- The sources of group k did not come before. -/
def newB (l : List Grp) (k : Nat) : Nat → Bool
  | 0 => true
  | j + 1 => newB l k j && !decide ((gg l j).src = (gg l k).src)
theorem newB_iff (l : List Grp) (k : Nat) : ∀ j, newB l k j = true ↔ ∀ i, i < j → (gg l i).src ≠ (gg l k).src
  | 0 => by simp [newB]
  | j + 1 => by
    rw [show newB l k (j + 1) = (newB l k j && !decide ((gg l j).src = (gg l k).src)) from rfl, Bool.and_eq_true, newB_iff l k j, Bool.not_eq_true', decide_eq_false_iff_not]
    constructor
    · rintro ⟨h1, h2⟩ i hi
      by_cases e : i = j
      · subst e; exact h2
      · exact h1 i (by omega)
    · intro h; exact ⟨fun i hi => h i (by omega), h j (by omega)⟩
/-- The sum of the supports of the sets that are new, of the first k groups. -/
def sumS (l : List Grp) : Nat → Nat
  | 0 => 0
  | k + 1 => if newB l k k then sumS l k + supK l (gg l k).src l.length else sumS l k
/-- How many of the n groups have a set that is among the first k. -/
def covK (l : List Grp) (k : Nat) : Nat → Nat
  | 0 => 0
  | n + 1 => covK l k n + if (List.range k).any (fun i => decide ((gg l i).src = (gg l n).src)) then 1 else 0
theorem covK_succ (l : List Grp) (k : Nat) : ∀ n, covK l (k + 1) n = covK l k n + if newB l k k then supK l (gg l k).src n else 0
  | 0 => by simp [covK, supK]
  | n + 1 => by
    have ih := covK_succ l k n
    have e : ((List.range (k + 1)).any fun i => decide ((gg l i).src = (gg l n).src)) = (((List.range k).any fun i => decide ((gg l i).src = (gg l n).src)) || decide ((gg l k).src = (gg l n).src)) := any_succ _ _
    show covK l (k + 1) n + _ = covK l k n + _ + _
    rw [ih, e]
    have hs : supK l (gg l k).src (n + 1) = supK l (gg l k).src n + if (gg l n).src = (gg l k).src then 1 else 0 := rfl
    rw [hs]
    cases hn : newB l k k
    · have : ∃ i, i < k ∧ (gg l i).src = (gg l k).src := by
        refine Classical.byContradiction fun hc => ?_
        have h2 : newB l k k = true := (newB_iff l k k).2 fun i hi he => hc ⟨i, hi, he⟩
        rw [hn] at h2; cases h2
      obtain ⟨i, hi, he⟩ := this
      by_cases h1 : (gg l k).src = (gg l n).src
      · have h2 : ((List.range k).any fun i => decide ((gg l i).src = (gg l n).src)) = true := any_at (p := fun i => decide ((gg l i).src = (gg l n).src)) hi (by simp [he, h1])
        rw [h2]; simp
      · rw [decide_eq_false h1]; simp
    · have hnew := (newB_iff l k k).1 hn
      by_cases h1 : (gg l n).src = (gg l k).src
      · have h2 : ((List.range k).any fun i => decide ((gg l i).src = (gg l n).src)) = false := any_none fun j hj => by
          rw [decide_eq_false_iff_not]; intro e2; exact hnew j hj (e2.trans h1)
        rw [h2, h1, decide_eq_true rfl]; simp; omega
      · have h3 : ¬ (gg l k).src = (gg l n).src := fun e => h1 e.symm
        rw [decide_eq_false h3, if_neg h1]; simp; omega
theorem sumS_cov (l : List Grp) : ∀ k, sumS l k = covK l k l.length
  | 0 => by
    have : ∀ n, covK l 0 n = 0 := fun n => by
      induction n with
      | zero => rfl
      | succ n ih => show covK l 0 n + _ = 0; rw [ih]; simp
    rw [this]; rfl
  | k + 1 => by
    rw [covK_succ l k, ← sumS_cov l k]
    show (if newB l k k then _ else _) = _
    cases newB l k k <;> simp
theorem cov_all (l : List Grp) : ∀ n, n ≤ l.length → covK l l.length n = n
  | 0, _ => rfl
  | n + 1, h => by
    show covK l l.length n + _ = _
    rw [cov_all l n (by omega), if_pos (any_at (p := fun i => decide ((gg l i).src = (gg l n).src)) (by omega : n < l.length) (by simp))]
theorem sumS_all (l : List Grp) : sumS l l.length = l.length := by rw [sumS_cov, cov_all l _ (Nat.le_refl _)]
theorem sumS_mono (l : List Grp) {k : Nat} : ∀ {n : Nat}, k ≤ n → sumS l k ≤ sumS l n
  | 0, h => by obtain rfl : k = 0 := by omega
               exact Nat.le_refl _
  | n + 1, h => by
    by_cases e : k = n + 1
    · subst e; exact Nat.le_refl _
    · refine Nat.le_trans (sumS_mono l (k := k) (n := n) (by omega)) ?_
      show _ ≤ if newB l n n then _ else _
      split <;> omega
theorem supK_pos (l : List Grp) (own : List Int) : ∀ n, 0 < supK l own n ↔ (List.range n).any (fun i => decide ((gg l i).src = own)) = true
  | 0 => by simp [supK]
  | n + 1 => by
    rw [any_succ, Bool.or_eq_true, ← supK_pos l own n, decide_eq_true_eq]
    show 0 < supK l own n + _ ↔ _
    by_cases h : (gg l n).src = own
    · rw [if_pos h]; constructor
      · intro _; exact .inr h
      · intro _; omega
    · rw [if_neg h]; constructor
      · intro h1; exact .inl (by omega)
      · rintro (h1 | h1)
        · omega
        · exact absurd h1 h
end Go.Proofs.YtgjcfkadioblfaaGreat
namespace Go.Proofs.YtgjcfkadioblfaaGreat
open Go.RowKit Go.Deep
theorem grps_take {S : Nat → Prop} {w : World} {p : Option Addr} {n cap : Nat} {l : List Grp} (h : GrpsAt S w (.slice p n cap) l) {k : Nat} (hk : k ≤ l.length) : ∃ cap', k ≤ cap' ∧ cap' = cap := by
  obtain ⟨q, c, e, hn, _⟩ := h
  injection e with e1 e2 e3
  exact ⟨cap, by omega, rfl⟩
end Go.Proofs.YtgjcfkadioblfaaGreat
namespace Go.Proofs.YtgjcfkadioblfaaGreat
open Go.RowKit Go.Deep
theorem flt_take {ns : List ByteArray} {k : Nat} (hk : k < ns.length) : fltN (ns.take (k + 1)) = fltN (ns.take k) ++ if (gs ns k).size = 0 then [] else [gs ns k] := by
  have hg : gs ns k = ns[k] := by simp [gs, hk]
  rw [List.take_succ_eq_append_getElem hk, fltN_app, ← hg]
  congr 1
  unfold fltN
  by_cases h : (gs ns k).size = 0
  · rw [if_pos h, List.filter_cons_of_neg (by simp [h])]; rfl
  · rw [if_neg h, List.filter_cons_of_pos (by simpa using h)]; rfl
theorem cntI_le (ps : List Int) (i : Int) : ∀ k, cntI ps i k ≤ k
  | 0 => Nat.le_refl _
  | k + 1 => by
    have := cntI_le ps i k
    rw [cntI]; split <;> omega
theorem gs_small {n : Nat} {ns : List ByteArray} (h : (fltN ns).Perm (namesA n)) (k : Nat) : (gs ns k).size ≤ 70000 := by
  by_cases hk : k < ns.length
  · by_cases hz : (gs ns k).size = 0
    · omega
    · have h1 : gs ns k ∈ ns := by simp [gs, hk]
      have h2 : gs ns k ∈ fltN ns := List.mem_filter.2 ⟨h1, by simpa using hz⟩
      obtain ⟨i, _, h4⟩ := List.mem_map.1 (h.mem_iff.1 h2)
      rw [← h4]; show 1 ≤ 70000; omega
  · have : gs ns k = ByteArray.empty := by simp [gs, show ns.length ≤ k by omega]
    rw [this]; show 0 ≤ 70000; omega
end Go.Proofs.YtgjcfkadioblfaaGreat
