/- The contract of phylotree.Ancestor. -/
import Derived.Test.YtpjijbophjdgaaaGreatQ28
import Derived.Test.YtpjijbophjdgaaaGreatQ2
import Derived.Test.YtpjijbophjdgaaaGreatQ3
import Derived.Test.YtpjijbophjdgaaaGreatQ24
import Derived.Lib.MinMax
namespace Go.Proofs.YtpjijbophjdgaaaGreat
open Go.RowKit Go.Deep
def anE (t : Tre) (a b : Int) : Int := if treeErr t ≠ 0 then 1 else if a < 0 ∨ b < 0 ∨ (t.ps.length : Int) ≤ a ∨ (t.ps.length : Int) ≤ b then 2 else 0
def anV (t : Tre) (a b : Int) : Int := if anE t a b ≠ 0 then 0 else (ancN t.ps a.toNat b.toNat : Nat)
set_option maxRecDepth 100000 in
set_option maxHeartbeats 2000000 in
theorem ancestor_t (S : Nat → Prop) (w : World) (v : Value) (t : Tre) (a b : Int) (hT : TreeAt S w v t) (hp : t.ps.length ≤ 1000000) (hn : t.ns.length ≤ 1000000) (hz : ∀ k, (gs t.ns k).size ≤ 70000) :
    Calls Tryz.prog 44 #[v, .int .i64 a, .int .i64 b] w fun e w' => e = .returned (.tuple #[.int .i64 (anV t a b), .int .i64 (anE t a b)]) ∧ Up w w' := by
  obtain ⟨P, N, rfl, hP, hN⟩ := hT
  obtain ⟨pp, pc, rfl, _, _⟩ := SlAt.open hP
  obtain ⟨pn, pm, rfl, _, _⟩ := SlAt.open hN
  have hP : IntsAt S w (.slice pp t.ps.length pc) t.ps := hP
  have hN : StrsAt S w (.slice pn t.ns.length pm) t.ns := hN
  have ha := Up.alloc w (.cells #[.slice pp t.ps.length pc, .slice pn t.ns.length pm] 45)
  have HC0 := Lib.hid (box2_0 w (.slice pp t.ps.length pc) (.slice pn t.ns.length pm) 45)
  have HC1 := Lib.hid (box2_1 w (.slice pp t.ps.length pc) (.slice pn t.ns.length pm) 45)
  have HT1 : Hid (TreeAt S _ _ t) := TreeAt.keep ⟨_, _, rfl, hP, hN⟩ (ha.kept S)
  have HP1 := Lib.hid (IntsAt.keep hP (ha.kept S))
  have HU := Lib.hid ha
  have hc0 := HC0.out
  have hc1 := HC1.out
  have HCK := Lib.hid (check_t S _ _ t HT1.out hp hn hz)
  clear ha hP hN hz
  go_enter Tryz.func44, Tryz.ntmps44
  go_wp2_with fail
  generalize w.alloc (.cells #[.slice pp t.ps.length pc, .slice pn t.ns.length pm] 45) = w1 at *
  refine HCK.out.mono ?_
  rintro e w2 ⟨rfl, hu2⟩
  have hu2 : Up w1 w2 := hu2
  have HU2 := Lib.hid (HU.out.trans hu2)
  have hc0 := hu2.cell HC0.out
  have hc1 := hu2.cell HC1.out
  have HP2 := Lib.hid (HP1.out.keep (hu2.kept S))
  clear hu2 HCK HP1 HT1 HU
  by_cases he : treeErr t = 0
  · obtain ⟨hp0, hp64, hnl, hok, _⟩ := treeErr_zero he
    have HTE := Lib.hid he
    have HOK := Lib.hid hok
    have HXE : Hid (anE t a b = if a < 0 ∨ b < 0 ∨ (t.ps.length : Int) ≤ a ∨ (t.ps.length : Int) ≤ b then 2 else 0) := by unfold Hid anE; rw [if_neg (by simp [he])]
    rw [he]
    clear he hnl hok
    by_cases c1 : a < 0 ∨ b < 0
    · have d1 : decide (min a b < 0) = true := decide_eq_true (by omega)
      have HX1 : Hid (anE t a b = 2) := by unfold Hid; rw [HXE.out, if_pos (by omega)]
      clear c1
      go_wp2_with fail
      have hv : anV t a b = 0 := by unfold anV; rw [HX1.out]; rfl
      exact ⟨rfl, .tuple #[.int .i64 0, .int .i64 2], by simp [results, Tryz.results44, go_sem], by rw [hv, HX1.out], HU2.out⟩
    · by_cases c2 : (t.ps.length : Int) ≤ a ∨ (t.ps.length : Int) ≤ b
      · have d1 : decide (min a b < 0) = false := decide_eq_false (by omega)
        have d2 : decide ((t.ps.length : Int) ≤ max a b) = true := decide_eq_true (by omega)
        have HX1 : Hid (anE t a b = 2) := by unfold Hid; rw [HXE.out, if_pos (by omega)]
        clear c1 c2
        go_wp2_with fail
        have hv : anV t a b = 0 := by unfold anV; rw [HX1.out]; rfl
        exact ⟨rfl, .tuple #[.int .i64 0, .int .i64 2], by simp [results, Tryz.results44, go_sem], by rw [hv, HX1.out], HU2.out⟩
      · have d1 : decide (min a b < 0) = false := decide_eq_false (by omega)
        have d2 : decide ((t.ps.length : Int) ≤ max a b) = false := decide_eq_false (by omega)
        have HX1 : Hid (anE t a b = 0) := by unfold Hid; rw [HXE.out, if_neg (by omega)]
        obtain ⟨x, rfl⟩ := Int.eq_ofNat_of_zero_le (show 0 ≤ a by omega)
        obtain ⟨y, rfl⟩ := Int.eq_ofNat_of_zero_le (show 0 ≤ b by omega)
        have HV : Hid (anV t (x : Int) (y : Int) = (ancN t.ps x y : Nat)) := by unfold Hid anV; rw [HX1.out, if_neg (by simp), Int.toNat_natCast, Int.toNat_natCast]
        have hxl : x < t.ps.length := by omega
        have hyl : y < t.ps.length := by omega
        have HC0' := Lib.hid hc0
        clear c1 c2 hc1
        go_wp2_with fail
        clear hc0 d1 d2
        go_loop [1, 2] (fun p q => ∃ i j : Nat, i < t.ps.length ∧ j < t.ps.length ∧ p = .int .i64 i ∧ q = .int .i64 j ∧ Hid (ancN t.ps i j = ancN t.ps x y)) (fun p q => (intOf p).toNat + (intOf q).toNat)
        case atStart => exact ⟨x, y, hxl, hyl, rfl, rfl, rfl⟩
        case round =>
          obtain ⟨i, j, hi, hj, rfl, rfl, he⟩ := hrel
          have hc0 := HC0'.out
          rcases Nat.lt_trichotomy i j with h | h | h
          · have d3 : ((i : Int) != (j : Int)) = true := by simp; omega
            have d4 : decide ((j : Int) < (i : Int)) = false := decide_eq_false (by omega)
            obtain ⟨b2, off, rfl, hcell⟩ := ints_get HP2.out hj
            have hpar := pOkB_par HOK.out hj (by omega)
            have j1 : (0 : Int) ≤ (j : Int) := by omega
            have j2 : (j : Int) < (t.ps.length : Int) := by omega
            have HN : Hid (ancN t.ps i (gi t.ps j).toNat = ancN t.ps x y) := by unfold Hid; rw [← he.out, ancN_right HOK.out hj h]
            obtain ⟨p, hp⟩ : ∃ p : Nat, gi t.ps j = p := ⟨(gi t.ps j).toNat, (Int.toNat_of_nonneg hpar.1).symm⟩
            rw [hp] at hcell hpar HN
            have hpj : p < j := by omega
            clear hpar hp he
            go_wp2_with fail
            go_round
            case rel => exact ⟨i, p, hi, by omega, rfl, rfl, HN.out⟩
            case measure => simp [intOf]; omega
          · subst h
            have d3 : ((i : Int) != (i : Int)) = false := by simp
            have HR : Hid (ancN t.ps x y = i) := by unfold Hid; rw [← he.out, ancN_self]
            clear he
            go_wp2_with fail
            exact ⟨rfl, .tuple #[.int .i64 i, .int .i64 0], by simp [results, Tryz.results44, go_sem], by rw [HV.out, HX1.out, HR.out], HU2.out⟩
          · have d3 : ((i : Int) != (j : Int)) = true := by simp; omega
            have d4 : decide ((j : Int) < (i : Int)) = true := decide_eq_true (by omega)
            obtain ⟨b2, off, rfl, hcell⟩ := ints_get HP2.out hi
            have hpar := pOkB_par HOK.out hi (by omega)
            have j1 : (0 : Int) ≤ (i : Int) := by omega
            have j2 : (i : Int) < (t.ps.length : Int) := by omega
            have HN : Hid (ancN t.ps (gi t.ps i).toNat j = ancN t.ps x y) := by unfold Hid; rw [← he.out, ancN_left HOK.out hi h]
            obtain ⟨p, hp⟩ : ∃ p : Nat, gi t.ps i = p := ⟨(gi t.ps i).toNat, (Int.toNat_of_nonneg hpar.1).symm⟩
            rw [hp] at hcell hpar HN
            have hpj : p < i := by omega
            clear hpar hp he
            go_wp2_with fail
            go_round
            case rel => exact ⟨p, j, by omega, hj, rfl, rfl, HN.out⟩
            case measure => simp [intOf]; omega
  · have he1 : (treeErr t != 0) = true := by simpa using he
    have HX1 : Hid (anE t a b = 1) := by unfold Hid anE; rw [if_pos he]
    clear he
    generalize treeErr t = te at he1 ⊢
    go_wp2_with fail
    have hv : anV t a b = 0 := by unfold anV; rw [HX1.out]; rfl
    exact ⟨rfl, .tuple #[.int .i64 0, .int .i64 1], by simp [results, Tryz.results44, go_sem], by rw [hv, HX1.out], HU2.out⟩
end Go.Proofs.YtpjijbophjdgaaaGreat
