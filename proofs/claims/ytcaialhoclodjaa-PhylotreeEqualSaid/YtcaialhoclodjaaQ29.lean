/- The statements' bounds on layer 31's trees. -/
import Derived.Test.YtcaialhoclodjaaQ28
import Derived.Test.YtcaialhoclodjaaQ22
namespace Go.Proofs.Ytcaialhoclodjaa
open Go.RowKit Go.Deep
def fine31B (t : Tre) : Bool := decide (0 < t.ps.length) && decide (t.ps.length ≤ 16) && !gt31B t 16 && decide (treeErr t = 0)
theorem fine31_ok {t : Tre} (h : fine31B t = true) : 0 < t.ps.length ∧ t.ps.length ≤ 16 ∧ treeErr t = 0 := by
  unfold fine31B at h
  simp only [Bool.and_eq_true, decide_eq_true_eq] at h
  exact ⟨h.1.1.1, h.1.1.2, h.2⟩
set_option maxRecDepth 100000 in
set_option maxHeartbeats 2000000 in
theorem lgreat31_t (S : Nat → Prop) (w : World) (v : Value) (t : Tre) (hT : TreeAt S w v t) (hp : t.ps.length ≤ 9223372036854775807) (hn : t.ns.length ≤ 9223372036854775807) (hz : ∀ k, (gs t.ns k).size ≤ 9223372036854775807) :
    Calls Try.prog 48 #[v] w fun e w' => e = .returned (.bool (gt31B t 16)) ∧ Up w w' := by
  obtain ⟨P, N, rfl, hP, hN⟩ := hT
  have hu := Up.alloc w (.cells #[P, N] 25)
  have HG : Hid (Calls Try.prog 74 #[.agg #[P, N], .int .i64 16] (w.alloc (.cells #[P, N] 25)) fun e w' => e = .returned (.bool (gt31B t 16)) ∧ Up (w.alloc (.cells #[P, N] 25)) w') := great31_t S _ _ t 16 (TreeAt.keep ⟨P, N, rfl, hP, hN⟩ (hu.kept S)) hp hn hz
  have HU := Lib.hid hu
  clear hu hP hN hp hn hz
  go_enter Try.func48, Try.ntmps48
  go_wp2_with fail
  refine HG.out.mono ?_
  rintro e w2 ⟨rfl, hu2⟩
  go_wp2_with fail
  go_ret
  exact ⟨rfl, HU.out.trans hu2⟩
set_option maxRecDepth 100000 in
set_option maxHeartbeats 2000000 in
theorem fine31_t (S : Nat → Prop) (w : World) (v : Value) (t : Tre) (hT : TreeAt S w v t) (hp : t.ps.length ≤ 9223372036854775807) (hn : t.ns.length ≤ 9223372036854775807) (hz : ∀ k, (gs t.ns k).size ≤ 9223372036854775807) :
    Calls Try.prog 19 #[v] w fun e w' => e = .returned (.bool (fine31B t)) ∧ Up w w' := by
  obtain ⟨P, N, rfl, hP, hN⟩ := hT
  obtain ⟨pp, pc, rfl, _, _⟩ := SlAt.open hP
  obtain ⟨np, nc, rfl, _, _⟩ := SlAt.open hN
  have hP : IntsAt S w (.slice pp t.ps.length pc) t.ps := hP
  have hN : StrsAt S w (.slice np t.ns.length nc) t.ns := hN
  have hu := Up.alloc w (.cells #[.slice pp t.ps.length pc, .slice np t.ns.length nc] 25)
  have b0 := box2_0 w (.slice pp t.ps.length pc) (.slice np t.ns.length nc) 25
  have b1 := box2_1 w (.slice pp t.ps.length pc) (.slice np t.ns.length nc) 25
  have HB0 := Lib.hid b0
  have HB1 := Lib.hid b1
  have HT : Hid (TreeAt S (w.alloc (.cells #[.slice pp t.ps.length pc, .slice np t.ns.length nc] 25)) (.agg #[.slice pp t.ps.length pc, .slice np t.ns.length nc]) t) := TreeAt.keep ⟨_, _, rfl, hP, hN⟩ (hu.kept _)
  have HG := Lib.hid (lgreat31_t S _ _ t HT.out hp hn hz)
  have HCK : Hid (t.ps.length ≤ 16 → ∀ W, Up (w.alloc (.cells #[.slice pp t.ps.length pc, .slice np t.ns.length nc] 25)) W → Calls Try.prog 26 #[.agg #[.slice pp t.ps.length pc, .slice np t.ns.length nc]] W fun e w' => e = .returned (.int .i64 (treeErr t)) ∧ Up W w') := fun h W hW => check9_t S W _ t (HT.out.keep (hW.kept S)) (by omega) hn hz
  have HU := Lib.hid hu
  have HFB : Hid (fine31B t = (decide (0 < t.ps.length) && decide (t.ps.length ≤ 16) && !gt31B t 16 && decide (treeErr t = 0))) := rfl
  clear hu hP hN hn hz
  by_cases c0 : 0 < t.ps.length
  · have d0 : decide ((0 : Int) < (t.ps.length : Int)) = true := decide_eq_true (by omega)
    by_cases c1 : t.ps.length ≤ 16
    · have d1 : decide ((t.ps.length : Int) ≤ 16) = true := decide_eq_true (by omega)
      have HF1 : Hid (fine31B t = (!gt31B t 16 && decide (treeErr t = 0))) := by unfold Hid; rw [HFB.out, decide_eq_true c0, decide_eq_true c1]; rfl
      have HC := Lib.hid (HCK.out c1)
      clear hp
      cases hg : gt31B t 16
      · rw [hg] at HG
        have HF2 : Hid (fine31B t = decide (treeErr t = 0)) := by unfold Hid; rw [HF1.out, hg]; rfl
        clear hg
        go_enter Try.func19, Try.ntmps19
        go_wp2_with fail
        generalize w.alloc (.cells #[.slice pp t.ps.length pc, .slice np t.ns.length nc] 25) = w1 at *
        refine HG.out.mono ?_
        rintro e w2 ⟨rfl, hu2⟩
        have b0 := hu2.cell HB0.out
        have b1 := hu2.cell HB1.out
        have HU2 := Lib.hid (HU.out.trans hu2)
        have HC2 := Lib.hid (HC.out w2 hu2)
        clear hu2 HG HC HCK
        go_wp2_with fail
        refine HC2.out.mono ?_
        rintro e w3 ⟨rfl, hu3⟩
        have HU3 := Lib.hid (HU2.out.trans hu3)
        clear hu3
        by_cases he : treeErr t = 0
        · have HF3 : Hid (fine31B t = true) := by unfold Hid; rw [HF2.out, decide_eq_true he]
          rw [he]
          clear he b0 b1
          go_wp2_with fail
          go_ret
          exact ⟨ret_bool (by rw [HF3.out]), HU3.out⟩
        · have HF3 : Hid (fine31B t = false) := by unfold Hid; rw [HF2.out, decide_eq_false he]
          have he1 : (treeErr t == 0) = false := by simpa using he
          clear he b0 b1
          generalize treeErr t = te at he1 ⊢
          go_wp2_with fail
          go_ret
          exact ⟨ret_bool (by rw [HF3.out]), HU3.out⟩
      · rw [hg] at HG
        have HF2 : Hid (fine31B t = false) := by unfold Hid; rw [HF1.out, hg]; rfl
        clear hg
        go_enter Try.func19, Try.ntmps19
        go_wp2_with fail
        generalize w.alloc (.cells #[.slice pp t.ps.length pc, .slice np t.ns.length nc] 25) = w1 at *
        refine HG.out.mono ?_
        rintro e w2 ⟨rfl, hu2⟩
        have HU2 := Lib.hid (HU.out.trans hu2)
        clear hu2 b0 b1
        go_wp2_with fail
        go_ret
        exact ⟨ret_bool (by rw [HF2.out]), HU2.out⟩
    · have d1 : decide ((t.ps.length : Int) ≤ 16) = false := decide_eq_false (by omega)
      have HF1 : Hid (fine31B t = false) := by unfold Hid; rw [HFB.out, decide_eq_true c0, decide_eq_false c1]; rfl
      clear hp
      go_enter Try.func19, Try.ntmps19
      go_wp2_with fail
      go_ret
      exact ⟨ret_bool (by rw [HF1.out]), HU.out⟩
  · have d0 : decide ((0 : Int) < (t.ps.length : Int)) = false := decide_eq_false (by omega)
    have HF1 : Hid (fine31B t = false) := by unfold Hid; rw [HFB.out, decide_eq_false c0]; rfl
    clear hp
    go_enter Try.func19, Try.ntmps19
    go_wp2_with fail
    go_ret
    exact ⟨ret_bool (by rw [HF1.out]), HU.out⟩
end Go.Proofs.Ytcaialhoclodjaa
