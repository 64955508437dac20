/- The statements' bounds on layer 31's trees. The contract of phylotree.Same. PhylotreeTexts, plain. PhylotreeRerooted, plain. -/
import Derived.Test.YtcaialhoclodjaaQ29
import Derived.Test.YtcaialhoclodjaaQ24
import Derived.Test.YtcaialhoclodjaaQ11
import Derived.Test.YtcaialhoclodjaaQ5
import Derived.Test.YtcaialhoclodjaaQ3
import Derived.Test.YtcaialhoclodjaaQ16
import Derived.Test.YtcaialhoclodjaaQ14
import Derived.Test.YtcaialhoclodjaaQ26
namespace Go.Proofs.Ytcaialhoclodjaa
open Go.RowKit Go.Deep
def fine31B (t : Tre) : Bool := decide (0 < t.ps.length) && decide (t.ps.length ≤ 16) && !gt31B t 16 && decide (treeErr t = 0)
theorem fine31_ok {t : Tre} (h : fine31B t = true) : 0 < t.ps.length ∧ t.ps.length ≤ 16 ∧ treeErr t = 0 := by
  unfold fine31B at h
  simp only [Bool.and_eq_true, decide_eq_true_eq] at h
  exact ⟨h.1.1.1, h.1.1.2, h.2⟩
set_option maxRecDepth 100000 in
set_option maxHeartbeats 2000000 in
theorem lgreat31_t (S : Nat → Prop) (w : World) (v : Value) (t : Tre) (hT : TreeAt S w v t) (hp : t.ps.length ≤ 9223372036854775807) (hn : t.ns.length ≤ 9223372036854775807) (hz : ∀ k, (gs t.ns k).size ≤ 9223372036854775807) :
    Calls Try.prog 48 #[v] w fun e w' => e = .returned (.bool (gt31B t 16)) ∧ Up w w' := by
  obtain ⟨P, N, rfl, hP, hN⟩ := hT
  have hu := Up.alloc w (.cells #[P, N] 25)
  have HG : Hid (Calls Try.prog 74 #[.agg #[P, N], .int .i64 16] (w.alloc (.cells #[P, N] 25)) fun e w' => e = .returned (.bool (gt31B t 16)) ∧ Up (w.alloc (.cells #[P, N] 25)) w') := great31_t S _ _ t 16 (TreeAt.keep ⟨P, N, rfl, hP, hN⟩ (hu.kept S)) hp hn hz
  have HU := Lib.hid hu
  clear hu hP hN hp hn hz
  go_enter Try.func48, Try.ntmps48
  go_wp2_with fail
  refine HG.out.mono ?_
  rintro e w2 ⟨rfl, hu2⟩
  go_wp2_with fail
  go_ret
  exact ⟨rfl, HU.out.trans hu2⟩
set_option maxRecDepth 100000 in
set_option maxHeartbeats 2000000 in
theorem fine31_t (S : Nat → Prop) (w : World) (v : Value) (t : Tre) (hT : TreeAt S w v t) (hp : t.ps.length ≤ 9223372036854775807) (hn : t.ns.length ≤ 9223372036854775807) (hz : ∀ k, (gs t.ns k).size ≤ 9223372036854775807) :
    Calls Try.prog 19 #[v] w fun e w' => e = .returned (.bool (fine31B t)) ∧ Up w w' := by
  obtain ⟨P, N, rfl, hP, hN⟩ := hT
  obtain ⟨pp, pc, rfl, _, _⟩ := SlAt.open hP
  obtain ⟨np, nc, rfl, _, _⟩ := SlAt.open hN
  have hP : IntsAt S w (.slice pp t.ps.length pc) t.ps := hP
  have hN : StrsAt S w (.slice np t.ns.length nc) t.ns := hN
  have hu := Up.alloc w (.cells #[.slice pp t.ps.length pc, .slice np t.ns.length nc] 25)
  have b0 := box2_0 w (.slice pp t.ps.length pc) (.slice np t.ns.length nc) 25
  have b1 := box2_1 w (.slice pp t.ps.length pc) (.slice np t.ns.length nc) 25
  have HB0 := Lib.hid b0
  have HB1 := Lib.hid b1
  have HT : Hid (TreeAt S (w.alloc (.cells #[.slice pp t.ps.length pc, .slice np t.ns.length nc] 25)) (.agg #[.slice pp t.ps.length pc, .slice np t.ns.length nc]) t) := TreeAt.keep ⟨_, _, rfl, hP, hN⟩ (hu.kept _)
  have HG := Lib.hid (lgreat31_t S _ _ t HT.out hp hn hz)
  have HCK : Hid (t.ps.length ≤ 16 → ∀ W, Up (w.alloc (.cells #[.slice pp t.ps.length pc, .slice np t.ns.length nc] 25)) W → Calls Try.prog 26 #[.agg #[.slice pp t.ps.length pc, .slice np t.ns.length nc]] W fun e w' => e = .returned (.int .i64 (treeErr t)) ∧ Up W w') := fun h W hW => check9_t S W _ t (HT.out.keep (hW.kept S)) (by omega) hn hz
  have HU := Lib.hid hu
  have HFB : Hid (fine31B t = (decide (0 < t.ps.length) && decide (t.ps.length ≤ 16) && !gt31B t 16 && decide (treeErr t = 0))) := rfl
  clear hu hP hN hn hz
  by_cases c0 : 0 < t.ps.length
  · have d0 : decide ((0 : Int) < (t.ps.length : Int)) = true := decide_eq_true (by omega)
    by_cases c1 : t.ps.length ≤ 16
    · have d1 : decide ((t.ps.length : Int) ≤ 16) = true := decide_eq_true (by omega)
      have HF1 : Hid (fine31B t = (!gt31B t 16 && decide (treeErr t = 0))) := by unfold Hid; rw [HFB.out, decide_eq_true c0, decide_eq_true c1]; rfl
      have HC := Lib.hid (HCK.out c1)
      clear hp
      cases hg : gt31B t 16
      · rw [hg] at HG
        have HF2 : Hid (fine31B t = decide (treeErr t = 0)) := by unfold Hid; rw [HF1.out, hg]; rfl
        clear hg
        go_enter Try.func19, Try.ntmps19
        go_wp2_with fail
        generalize w.alloc (.cells #[.slice pp t.ps.length pc, .slice np t.ns.length nc] 25) = w1 at *
        refine HG.out.mono ?_
        rintro e w2 ⟨rfl, hu2⟩
        have b0 := hu2.cell HB0.out
        have b1 := hu2.cell HB1.out
        have HU2 := Lib.hid (HU.out.trans hu2)
        have HC2 := Lib.hid (HC.out w2 hu2)
        clear hu2 HG HC HCK
        go_wp2_with fail
        refine HC2.out.mono ?_
        rintro e w3 ⟨rfl, hu3⟩
        have HU3 := Lib.hid (HU2.out.trans hu3)
        clear hu3
        by_cases he : treeErr t = 0
        · have HF3 : Hid (fine31B t = true) := by unfold Hid; rw [HF2.out, decide_eq_true he]
          rw [he]
          clear he b0 b1
          go_wp2_with fail
          go_ret
          exact ⟨ret_bool (by rw [HF3.out]), HU3.out⟩
        · have HF3 : Hid (fine31B t = false) := by unfold Hid; rw [HF2.out, decide_eq_false he]
          have he1 : (treeErr t == 0) = false := by simpa using he
          clear he b0 b1
          generalize treeErr t = te at he1 ⊢
          go_wp2_with fail
          go_ret
          exact ⟨ret_bool (by rw [HF3.out]), HU3.out⟩
      · rw [hg] at HG
        have HF2 : Hid (fine31B t = false) := by unfold Hid; rw [HF1.out, hg]; rfl
        clear hg
        go_enter Try.func19, Try.ntmps19
        go_wp2_with fail
        generalize w.alloc (.cells #[.slice pp t.ps.length pc, .slice np t.ns.length nc] 25) = w1 at *
        refine HG.out.mono ?_
        rintro e w2 ⟨rfl, hu2⟩
        have HU2 := Lib.hid (HU.out.trans hu2)
        clear hu2 b0 b1
        go_wp2_with fail
        go_ret
        exact ⟨ret_bool (by rw [HF2.out]), HU2.out⟩
    · have d1 : decide ((t.ps.length : Int) ≤ 16) = false := decide_eq_false (by omega)
      have HF1 : Hid (fine31B t = false) := by unfold Hid; rw [HFB.out, decide_eq_true c0, decide_eq_false c1]; rfl
      clear hp
      go_enter Try.func19, Try.ntmps19
      go_wp2_with fail
      go_ret
      exact ⟨ret_bool (by rw [HF1.out]), HU.out⟩
  · have d0 : decide ((0 : Int) < (t.ps.length : Int)) = false := decide_eq_false (by omega)
    have HF1 : Hid (fine31B t = false) := by unfold Hid; rw [HFB.out, decide_eq_false c0]; rfl
    clear hp
    go_enter Try.func19, Try.ntmps19
    go_wp2_with fail
    go_ret
    exact ⟨ret_bool (by rw [HF1.out]), HU.out⟩
end Go.Proofs.Ytcaialhoclodjaa
namespace Go.Proofs.Ytcaialhoclodjaa
open Go.RowKit Go.Deep
section
variable {P : Program} {ops : Array Oper} {Q : Exit → Act → World → Prop} {md : Region.Mode} {S : World → Prop} {t : Nat}
end
end Go.Proofs.Ytcaialhoclodjaa
namespace Go.Proofs.Ytcaialhoclodjaa
section
variable {t : Tre}
end
end Go.Proofs.Ytcaialhoclodjaa
namespace Go.Proofs.Ytcaialhoclodjaa
section
variable {t : Tre}
/-- The node of a name. -/
def fdN (ns : List ByteArray) (a : ByteArray) : Int := firstIx (fun j => decide (a = gs ns j)) ns.length
theorem mem_flt {ns : List ByteArray} {a : ByteArray} : a ∈ fltN ns ↔ ∃ j, j < ns.length ∧ gs ns j = a ∧ a.size ≠ 0 := by
  unfold fltN
  rw [List.mem_filter]
  constructor
  · rintro ⟨h1, h2⟩
    obtain ⟨j, hj, e⟩ := List.mem_iff_getElem.1 h1
    exact ⟨j, hj, by rw [← e]; simp [gs, hj], of_decide_eq_true h2⟩
  · rintro ⟨j, hj, e, h2⟩
    refine ⟨?_, decide_eq_true h2⟩
    have : gs ns j = ns[j] := by simp [gs, hj]
    rw [← e, this]; exact List.getElem_mem hj
theorem fd_ok (he : treeErr t = 0) {a : ByteArray} (ha : a ∈ fltN t.ns) : ∃ k : Nat, fdN t.ns a = (k : Int) ∧ LeafOk t k ∧ gs t.ns k = a := by
  obtain ⟨_, _, hl, _, _⟩ := treeErr_zero he
  obtain ⟨j, hj, e, h0⟩ := mem_flt.1 ha
  have hany : (List.range t.ns.length).any (fun j => decide (a = gs t.ns j)) = true := List.any_eq_true.2 ⟨j, List.mem_range.2 hj, decide_eq_true e.symm⟩
  rw [← firstIx_any] at hany
  have hge := of_decide_eq_true hany
  obtain ⟨k, hk⟩ := Int.eq_ofNat_of_zero_le hge
  obtain ⟨h1, h2, _⟩ := firstIx_spec hk
  have h2 : a = gs t.ns k := of_decide_eq_true h2
  exact ⟨k, hk, ⟨he, by omega, by rw [← h2]; exact h0⟩, h2.symm⟩
theorem fd_at (he : treeErr t = 0) {k : Nat} (hk : LeafOk t k) : fdN t.ns (gs t.ns k) = (k : Int) := by
  obtain ⟨_, _, hl, _, _⟩ := treeErr_zero he
  obtain ⟨j, h1, h2, h3⟩ := fd_ok he (a := gs t.ns k) (mem_flt.2 ⟨k, by rw [hl]; exact hk.lt, rfl, hk.nm⟩)
  rw [h1]
  have := h2.inj h2.lt hk.lt h2.nm h3
  rw [this]
end
section
variable {t : Tre} {la : Nat}
theorem rrx_names (h : LeafOk t la) : (fltN (flat (rrQt t la)).ns).Perm (fltN t.ns) := (rrQ_leaves h).trans (leafs_perm h.te)
theorem rrx_sorted (h : LeafOk t la) : sortS (fltN (flat (rrQt t la)).ns) = sortS (fltN t.ns) := sortS_perm (rrx_names h)
theorem leaf_name (h : LeafOk t la) : gs t.ns la ∈ fltN t.ns := mem_flt.2 ⟨la, by rw [(treeErr_zero h.te).2.2.1]; exact h.lt, rfl, h.nm⟩
/-- Where the leaf lies, and how many children the root has. -/
theorem rrx_place (h : LeafOk t la) (h63 : t.ps.length ≤ 63) : ((leavesL t.ns).length = 1 ∧ (flat (rrQt t la)).ps.length = 1 ∧ fdN (flat (rrQt t la)).ns (gs t.ns la) = 0) ∨
    ((leavesL t.ns).length ≠ 1 ∧ cntI (flat (rrQt t la)).ps 0 (flat (rrQt t la)).ps.length = 2 ∧ ∃ n : Nat, fdN (flat (rrQt t la)).ns (gs t.ns la) = (n : Int) ∧ 0 < n ∧ n < (flat (rrQt t la)).ps.length ∧ gi (flat (rrQt t la)).ps n = 0) := by
  have hcnt : (leavesL t.ns).length = (leafR (toR t)).length := by rw [lvs_count, (leafs_perm h.te).length_eq]
  rcases rr_place h with ⟨e, h1⟩ | ⟨h1, h2, n, h3, h4⟩
  · left
    refine ⟨by omega, by rw [e]; rfl, ?_⟩
    rw [e]
    unfold fdN
    refine firstIx_at (k := 0) (by rw [flat_ns, sizeR, sizeRs]; omega) (fun j hj => absurd hj (Nat.not_lt_zero _)) (decide_eq_true rfl)
  · right
    obtain ⟨hx, _, _⟩ := rr_ok_t h h63
    have hok := (treeErr_zero hx).2.2.2.1
    obtain ⟨m1, m2, m3⟩ := mem_kidsL.1 h3
    have hlo : LeafOk (flat (rrQt t la)) n := ⟨hx, m1, by rw [h4]; exact h.nm⟩
    have hf := fd_at hx hlo
    rw [h4] at hf
    refine ⟨by omega, ?_, n, hf, m2, m1, m3⟩
    have := cnt_kids hok 0 _ (Nat.le_refl (flat (rrQt t la)).ps.length)
    rw [show ((0 : Nat) : Int) = 0 from rfl] at this
    rw [this]; exact h2
end
end Go.Proofs.Ytcaialhoclodjaa
