/- The statements' bounds on layer 31's trees. The contract of phylotree.Ancestor. The walk of PhylotreeAncestors. -/
import Derived.Test.YtcaialhoclodjaaQ27
import Derived.Test.YtcaialhoclodjaaQ21
import Derived.Test.YtcaialhoclodjaaQ16
import Derived.Test.YtcaialhoclodjaaQ2
import Derived.Test.YtcaialhoclodjaaQ3
import Derived.Test.YtcaialhoclodjaaQ12
import Derived.Lib.MinMax
namespace Go.Proofs.Ytcaialhoclodjaa
open Go.RowKit Go.Deep
def fine31B (t : Tre) : Bool := decide (0 < t.ps.length) && decide (t.ps.length ≤ 16) && !gt31B t 16 && decide (treeErr t = 0)
theorem fine31_ok {t : Tre} (h : fine31B t = true) : 0 < t.ps.length ∧ t.ps.length ≤ 16 ∧ treeErr t = 0 := by
  unfold fine31B at h
  simp only [Bool.and_eq_true, decide_eq_true_eq] at h
  exact ⟨h.1.1.1, h.1.1.2, h.2⟩
set_option maxRecDepth 100000 in
set_option maxHeartbeats 2000000 in
theorem lgreat31_t (S : Nat → Prop) (w : World) (v : Value) (t : Tre) (hT : TreeAt S w v t) (hp : t.ps.length ≤ 9223372036854775807) (hn : t.ns.length ≤ 9223372036854775807) (hz : ∀ k, (gs t.ns k).size ≤ 9223372036854775807) :
    Calls Try.prog 48 #[v] w fun e w' => e = .returned (.bool (gt31B t 16)) ∧ Up w w' := by
  obtain ⟨P, N, rfl, hP, hN⟩ := hT
  have hu := Up.alloc w (.cells #[P, N] 25)
  have HG : Hid (Calls Try.prog 74 #[.agg #[P, N], .int .i64 16] (w.alloc (.cells #[P, N] 25)) fun e w' => e = .returned (.bool (gt31B t 16)) ∧ Up (w.alloc (.cells #[P, N] 25)) w') := great31_t S _ _ t 16 (TreeAt.keep ⟨P, N, rfl, hP, hN⟩ (hu.kept S)) hp hn hz
  have HU := Lib.hid hu
  clear hu hP hN hp hn hz
  go_enter Try.func48, Try.ntmps48
  go_wp2_with fail
  refine HG.out.mono ?_
  rintro e w2 ⟨rfl, hu2⟩
  go_wp2_with fail
  go_ret
  exact ⟨rfl, HU.out.trans hu2⟩
set_option maxRecDepth 100000 in
set_option maxHeartbeats 2000000 in
theorem fine31_t (S : Nat → Prop) (w : World) (v : Value) (t : Tre) (hT : TreeAt S w v t) (hp : t.ps.length ≤ 9223372036854775807) (hn : t.ns.length ≤ 9223372036854775807) (hz : ∀ k, (gs t.ns k).size ≤ 9223372036854775807) :
    Calls Try.prog 19 #[v] w fun e w' => e = .returned (.bool (fine31B t)) ∧ Up w w' := by
  obtain ⟨P, N, rfl, hP, hN⟩ := hT
  obtain ⟨pp, pc, rfl, _, _⟩ := SlAt.open hP
  obtain ⟨np, nc, rfl, _, _⟩ := SlAt.open hN
  have hP : IntsAt S w (.slice pp t.ps.length pc) t.ps := hP
  have hN : StrsAt S w (.slice np t.ns.length nc) t.ns := hN
  have hu := Up.alloc w (.cells #[.slice pp t.ps.length pc, .slice np t.ns.length nc] 25)
  have b0 := box2_0 w (.slice pp t.ps.length pc) (.slice np t.ns.length nc) 25
  have b1 := box2_1 w (.slice pp t.ps.length pc) (.slice np t.ns.length nc) 25
  have HB0 := Lib.hid b0
  have HB1 := Lib.hid b1
  have HT : Hid (TreeAt S (w.alloc (.cells #[.slice pp t.ps.length pc, .slice np t.ns.length nc] 25)) (.agg #[.slice pp t.ps.length pc, .slice np t.ns.length nc]) t) := TreeAt.keep ⟨_, _, rfl, hP, hN⟩ (hu.kept _)
  have HG := Lib.hid (lgreat31_t S _ _ t HT.out hp hn hz)
  have HCK : Hid (t.ps.length ≤ 16 → ∀ W, Up (w.alloc (.cells #[.slice pp t.ps.length pc, .slice np t.ns.length nc] 25)) W → Calls Try.prog 26 #[.agg #[.slice pp t.ps.length pc, .slice np t.ns.length nc]] W fun e w' => e = .returned (.int .i64 (treeErr t)) ∧ Up W w') := fun h W hW => check9_t S W _ t (HT.out.keep (hW.kept S)) (by omega) hn hz
  have HU := Lib.hid hu
  have HFB : Hid (fine31B t = (decide (0 < t.ps.length) && decide (t.ps.length ≤ 16) && !gt31B t 16 && decide (treeErr t = 0))) := rfl
  clear hu hP hN hn hz
  by_cases c0 : 0 < t.ps.length
  · have d0 : decide ((0 : Int) < (t.ps.length : Int)) = true := decide_eq_true (by omega)
    by_cases c1 : t.ps.length ≤ 16
    · have d1 : decide ((t.ps.length : Int) ≤ 16) = true := decide_eq_true (by omega)
      have HF1 : Hid (fine31B t = (!gt31B t 16 && decide (treeErr t = 0))) := by unfold Hid; rw [HFB.out, decide_eq_true c0, decide_eq_true c1]; rfl
      have HC := Lib.hid (HCK.out c1)
      clear hp
      cases hg : gt31B t 16
      · rw [hg] at HG
        have HF2 : Hid (fine31B t = decide (treeErr t = 0)) := by unfold Hid; rw [HF1.out, hg]; rfl
        clear hg
        go_enter Try.func19, Try.ntmps19
        go_wp2_with fail
        generalize w.alloc (.cells #[.slice pp t.ps.length pc, .slice np t.ns.length nc] 25) = w1 at *
        refine HG.out.mono ?_
        rintro e w2 ⟨rfl, hu2⟩
        have b0 := hu2.cell HB0.out
        have b1 := hu2.cell HB1.out
        have HU2 := Lib.hid (HU.out.trans hu2)
        have HC2 := Lib.hid (HC.out w2 hu2)
        clear hu2 HG HC HCK
        go_wp2_with fail
        refine HC2.out.mono ?_
        rintro e w3 ⟨rfl, hu3⟩
        have HU3 := Lib.hid (HU2.out.trans hu3)
        clear hu3
        by_cases he : treeErr t = 0
        · have HF3 : Hid (fine31B t = true) := by unfold Hid; rw [HF2.out, decide_eq_true he]
          rw [he]
          clear he b0 b1
          go_wp2_with fail
          go_ret
          exact ⟨ret_bool (by rw [HF3.out]), HU3.out⟩
        · have HF3 : Hid (fine31B t = false) := by unfold Hid; rw [HF2.out, decide_eq_false he]
          have he1 : (treeErr t == 0) = false := by simpa using he
          clear he b0 b1
          generalize treeErr t = te at he1 ⊢
          go_wp2_with fail
          go_ret
          exact ⟨ret_bool (by rw [HF3.out]), HU3.out⟩
      · rw [hg] at HG
        have HF2 : Hid (fine31B t = false) := by unfold Hid; rw [HF1.out, hg]; rfl
        clear hg
        go_enter Try.func19, Try.ntmps19
        go_wp2_with fail
        generalize w.alloc (.cells #[.slice pp t.ps.length pc, .slice np t.ns.length nc] 25) = w1 at *
        refine HG.out.mono ?_
        rintro e w2 ⟨rfl, hu2⟩
        have HU2 := Lib.hid (HU.out.trans hu2)
        clear hu2 b0 b1
        go_wp2_with fail
        go_ret
        exact ⟨ret_bool (by rw [HF2.out]), HU2.out⟩
    · have d1 : decide ((t.ps.length : Int) ≤ 16) = false := decide_eq_false (by omega)
      have HF1 : Hid (fine31B t = false) := by unfold Hid; rw [HFB.out, decide_eq_true c0, decide_eq_false c1]; rfl
      clear hp
      go_enter Try.func19, Try.ntmps19
      go_wp2_with fail
      go_ret
      exact ⟨ret_bool (by rw [HF1.out]), HU.out⟩
  · have d0 : decide ((0 : Int) < (t.ps.length : Int)) = false := decide_eq_false (by omega)
    have HF1 : Hid (fine31B t = false) := by unfold Hid; rw [HFB.out, decide_eq_false c0]; rfl
    clear hp
    go_enter Try.func19, Try.ntmps19
    go_wp2_with fail
    go_ret
    exact ⟨ret_bool (by rw [HF1.out]), HU.out⟩
end Go.Proofs.Ytcaialhoclodjaa
namespace Go.Proofs.Ytcaialhoclodjaa
open Go.RowKit Go.Deep
def anE (t : Tre) (a b : Int) : Int := if treeErr t ≠ 0 then 1 else if a < 0 ∨ b < 0 ∨ (t.ps.length : Int) ≤ a ∨ (t.ps.length : Int) ≤ b then 2 else 0
def anV (t : Tre) (a b : Int) : Int := if anE t a b ≠ 0 then 0 else (ancN t.ps a.toNat b.toNat : Nat)
set_option maxRecDepth 100000 in
set_option maxHeartbeats 2000000 in
theorem ancestor_t (S : Nat → Prop) (w : World) (v : Value) (t : Tre) (a b : Int) (hT : TreeAt S w v t) (hp : t.ps.length ≤ 1000000) (hn : t.ns.length ≤ 1000000) (hz : ∀ k, (gs t.ns k).size ≤ 70000) :
    Calls Try.prog 21 #[v, .int .i64 a, .int .i64 b] w fun e w' => e = .returned (.tuple #[.int .i64 (anV t a b), .int .i64 (anE t a b)]) ∧ Up w w' := by
  obtain ⟨P, N, rfl, hP, hN⟩ := hT
  obtain ⟨pp, pc, rfl, _, _⟩ := SlAt.open hP
  obtain ⟨pn, pm, rfl, _, _⟩ := SlAt.open hN
  have hP : IntsAt S w (.slice pp t.ps.length pc) t.ps := hP
  have hN : StrsAt S w (.slice pn t.ns.length pm) t.ns := hN
  have ha := Up.alloc w (.cells #[.slice pp t.ps.length pc, .slice pn t.ns.length pm] 25)
  have HC0 := Lib.hid (box2_0 w (.slice pp t.ps.length pc) (.slice pn t.ns.length pm) 25)
  have HC1 := Lib.hid (box2_1 w (.slice pp t.ps.length pc) (.slice pn t.ns.length pm) 25)
  have HT1 : Hid (TreeAt S _ _ t) := TreeAt.keep ⟨_, _, rfl, hP, hN⟩ (ha.kept S)
  have HP1 := Lib.hid (IntsAt.keep hP (ha.kept S))
  have HU := Lib.hid ha
  have hc0 := HC0.out
  have hc1 := HC1.out
  have HCK := Lib.hid (check_t S _ _ t HT1.out hp hn hz)
  clear ha hP hN hz
  go_enter Try.func21, Try.ntmps21
  go_wp2_with fail
  generalize w.alloc (.cells #[.slice pp t.ps.length pc, .slice pn t.ns.length pm] 25) = w1 at *
  refine HCK.out.mono ?_
  rintro e w2 ⟨rfl, hu2⟩
  have hu2 : Up w1 w2 := hu2
  have HU2 := Lib.hid (HU.out.trans hu2)
  have hc0 := hu2.cell HC0.out
  have hc1 := hu2.cell HC1.out
  have HP2 := Lib.hid (HP1.out.keep (hu2.kept S))
  clear hu2 HCK HP1 HT1 HU
  by_cases he : treeErr t = 0
  · obtain ⟨hp0, hp64, hnl, hok, _⟩ := treeErr_zero he
    have HTE := Lib.hid he
    have HOK := Lib.hid hok
    have HXE : Hid (anE t a b = if a < 0 ∨ b < 0 ∨ (t.ps.length : Int) ≤ a ∨ (t.ps.length : Int) ≤ b then 2 else 0) := by unfold Hid anE; rw [if_neg (by simp [he])]
    rw [he]
    clear he hnl hok
    by_cases c1 : a < 0 ∨ b < 0
    · have d1 : decide (min a b < 0) = true := decide_eq_true (by omega)
      have HX1 : Hid (anE t a b = 2) := by unfold Hid; rw [HXE.out, if_pos (by omega)]
      clear c1
      go_wp2_with fail
      have hv : anV t a b = 0 := by unfold anV; rw [HX1.out]; rfl
      exact ⟨rfl, .tuple #[.int .i64 0, .int .i64 2], by simp [results, Try.results21, go_sem], by rw [hv, HX1.out], HU2.out⟩
    · by_cases c2 : (t.ps.length : Int) ≤ a ∨ (t.ps.length : Int) ≤ b
      · have d1 : decide (min a b < 0) = false := decide_eq_false (by omega)
        have d2 : decide ((t.ps.length : Int) ≤ max a b) = true := decide_eq_true (by omega)
        have HX1 : Hid (anE t a b = 2) := by unfold Hid; rw [HXE.out, if_pos (by omega)]
        clear c1 c2
        go_wp2_with fail
        have hv : anV t a b = 0 := by unfold anV; rw [HX1.out]; rfl
        exact ⟨rfl, .tuple #[.int .i64 0, .int .i64 2], by simp [results, Try.results21, go_sem], by rw [hv, HX1.out], HU2.out⟩
      · have d1 : decide (min a b < 0) = false := decide_eq_false (by omega)
        have d2 : decide ((t.ps.length : Int) ≤ max a b) = false := decide_eq_false (by omega)
        have HX1 : Hid (anE t a b = 0) := by unfold Hid; rw [HXE.out, if_neg (by omega)]
        obtain ⟨x, rfl⟩ := Int.eq_ofNat_of_zero_le (show 0 ≤ a by omega)
        obtain ⟨y, rfl⟩ := Int.eq_ofNat_of_zero_le (show 0 ≤ b by omega)
        have HV : Hid (anV t (x : Int) (y : Int) = (ancN t.ps x y : Nat)) := by unfold Hid anV; rw [HX1.out, if_neg (by simp), Int.toNat_natCast, Int.toNat_natCast]
        have hxl : x < t.ps.length := by omega
        have hyl : y < t.ps.length := by omega
        have HC0' := Lib.hid hc0
        clear c1 c2 hc1
        go_wp2_with fail
        clear hc0 d1 d2
        go_loop [1, 2] (fun p q => ∃ i j : Nat, i < t.ps.length ∧ j < t.ps.length ∧ p = .int .i64 i ∧ q = .int .i64 j ∧ Hid (ancN t.ps i j = ancN t.ps x y)) (fun p q => (intOf p).toNat + (intOf q).toNat)
        case atStart => exact ⟨x, y, hxl, hyl, rfl, rfl, rfl⟩
        case round =>
          obtain ⟨i, j, hi, hj, rfl, rfl, he⟩ := hrel
          have hc0 := HC0'.out
          rcases Nat.lt_trichotomy i j with h | h | h
          · have d3 : ((i : Int) != (j : Int)) = true := by simp; omega
            have d4 : decide ((j : Int) < (i : Int)) = false := decide_eq_false (by omega)
            obtain ⟨b2, off, rfl, hcell⟩ := ints_get HP2.out hj
            have hpar := pOkB_par HOK.out hj (by omega)
            have j1 : (0 : Int) ≤ (j : Int) := by omega
            have j2 : (j : Int) < (t.ps.length : Int) := by omega
            have HN : Hid (ancN t.ps i (gi t.ps j).toNat = ancN t.ps x y) := by unfold Hid; rw [← he.out, ancN_right HOK.out hj h]
            obtain ⟨p, hp⟩ : ∃ p : Nat, gi t.ps j = p := ⟨(gi t.ps j).toNat, (Int.toNat_of_nonneg hpar.1).symm⟩
            rw [hp] at hcell hpar HN
            have hpj : p < j := by omega
            clear hpar hp he
            go_wp2_with fail
            go_round
            case rel => exact ⟨i, p, hi, by omega, rfl, rfl, HN.out⟩
            case measure => simp [intOf]; omega
          · subst h
            have d3 : ((i : Int) != (i : Int)) = false := by simp
            have HR : Hid (ancN t.ps x y = i) := by unfold Hid; rw [← he.out, ancN_self]
            clear he
            go_wp2_with fail
            exact ⟨rfl, .tuple #[.int .i64 i, .int .i64 0], by simp [results, Try.results21, go_sem], by rw [HV.out, HX1.out, HR.out], HU2.out⟩
          · have d3 : ((i : Int) != (j : Int)) = true := by simp; omega
            have d4 : decide ((j : Int) < (i : Int)) = true := decide_eq_true (by omega)
            obtain ⟨b2, off, rfl, hcell⟩ := ints_get HP2.out hi
            have hpar := pOkB_par HOK.out hi (by omega)
            have j1 : (0 : Int) ≤ (i : Int) := by omega
            have j2 : (i : Int) < (t.ps.length : Int) := by omega
            have HN : Hid (ancN t.ps (gi t.ps i).toNat j = ancN t.ps x y) := by unfold Hid; rw [← he.out, ancN_left HOK.out hi h]
            obtain ⟨p, hp⟩ : ∃ p : Nat, gi t.ps i = p := ⟨(gi t.ps i).toNat, (Int.toNat_of_nonneg hpar.1).symm⟩
            rw [hp] at hcell hpar HN
            have hpj : p < i := by omega
            clear hpar hp he
            go_wp2_with fail
            go_round
            case rel => exact ⟨p, j, by omega, hj, rfl, rfl, HN.out⟩
            case measure => simp [intOf]; omega
  · have he1 : (treeErr t != 0) = true := by simpa using he
    have HX1 : Hid (anE t a b = 1) := by unfold Hid anE; rw [if_pos he]
    clear he
    generalize treeErr t = te at he1 ⊢
    go_wp2_with fail
    have hv : anV t a b = 0 := by unfold anV; rw [HX1.out]; rfl
    exact ⟨rfl, .tuple #[.int .i64 0, .int .i64 1], by simp [results, Try.results21, go_sem], by rw [hv, HX1.out], HU2.out⟩
end Go.Proofs.Ytcaialhoclodjaa
namespace Go.Proofs.Ytcaialhoclodjaa
open Go.RowKit Go.Deep
set_option maxRecDepth 100000 in
set_option maxHeartbeats 8000000 in
theorem ancestors_law (w : World) (v : Value) (t : Tre) (x y : Int) (hT : TreeAt Any w v t) (hp : t.ps.length ≤ 9223372036854775807) (hn : t.ns.length ≤ 9223372036854775807) (hz : ∀ k, (gs t.ns k).size ≤ 9223372036854775807) (hx0 : 0 ≤ x) (hx1 : x ≤ 255) (hy0 : 0 ≤ y) (hy1 : y ≤ 255) :
    Calls Try.prog 4 #[v, .int .u8 x, .int .u8 y] w fun e w' => e = .returned (.bool true) ∧ Up w w' := by
  obtain ⟨P, N, rfl, hP, hN⟩ := hT
  obtain ⟨pp, pc, rfl, _, _⟩ := SlAt.open hP
  obtain ⟨np, nc, rfl, _, _⟩ := SlAt.open hN
  have hP : IntsAt Any w (.slice pp t.ps.length pc) t.ps := hP
  have hN : StrsAt Any w (.slice np t.ns.length nc) t.ns := hN
  have hu := Up.alloc w (.cells #[.slice pp t.ps.length pc, .slice np t.ns.length nc] 25)
  have b0 := box2_0 w (.slice pp t.ps.length pc) (.slice np t.ns.length nc) 25
  have b1 := box2_1 w (.slice pp t.ps.length pc) (.slice np t.ns.length nc) 25
  have HB0 := Lib.hid b0
  have HB1 := Lib.hid b1
  have HT : Hid (TreeAt Any (w.alloc (.cells #[.slice pp t.ps.length pc, .slice np t.ns.length nc] 25)) (.agg #[.slice pp t.ps.length pc, .slice np t.ns.length nc]) t) := TreeAt.keep ⟨_, _, rfl, hP, hN⟩ (hu.kept _)
  have HF := Lib.hid (fine31_t Any _ _ t HT.out hp hn hz)
  have HU := Lib.hid hu
  have HAW := Lib.hid awake31_t
  clear hu hP hN hn hz hp
  cases hf : fine31B t
  · rw [hf] at HF
    clear hf
    go_enter Try.func4, Try.ntmps4
    go_wp2_with (first | (go_at_call 19; refine HF.out.mono ?_; rintro e w1 ⟨rfl, hu1⟩) | (go_at_call 20; refine (HAW.out _).mono ?_; rintro e w' ⟨rfl, hu⟩) | fail)
    go_ret
    exact ⟨rfl, HU.out.trans (hu1.trans hu)⟩
  · obtain ⟨h0, h16, he⟩ := fine31_ok hf
    rw [hf] at HF
    obtain ⟨c, rfl⟩ := Int.eq_ofNat_of_zero_le hx0
    obtain ⟨d, rfl⟩ := Int.eq_ofNat_of_zero_le hy0
    obtain ⟨_, _, hl, hok, _⟩ := treeErr_zero he
    obtain ⟨a, ha⟩ : ∃ a, a = c % t.ps.length := ⟨_, rfl⟩
    obtain ⟨b, hb⟩ : ∃ b, b = d % t.ps.length := ⟨_, rfl⟩
    have hal : a < t.ps.length := by rw [ha]; exact Nat.mod_lt _ h0
    have hbl : b < t.ps.length := by rw [hb]; exact Nat.mod_lt _ h0
    have hse : (c : Int).tmod (t.ps.length : Int) = (a : Int) := by rw [Int.tmod_eq_emod_of_nonneg (by omega), ha]; push_cast; rfl
    have hsf : (d : Int).tmod (t.ps.length : Int) = (b : Int) := by rw [Int.tmod_eq_emod_of_nonneg (by omega), hb]; push_cast; rfl
    have hse2 : (c : Int) % (t.ps.length : Int) = (a : Int) := by rw [ha]; push_cast; rfl
    have hsf2 : (d : Int) % (t.ps.length : Int) = (b : Int) := by rw [hb]; push_cast; rfl
    have hwc : wrap64 (c : Int) = (c : Int) := by unfold wrap64; omega
    have hwd : wrap64 (d : Int) = (d : Int) := by unfold wrap64; omega
    have hwa : wrap64 (a : Int) = (a : Int) := by unfold wrap64; omega
    have hwb : wrap64 (b : Int) = (b : Int) := by unfold wrap64; omega
    have hnz : ((t.ps.length : Int) == 0) = false := beq_eq_false_iff_ne.2 (by omega)
    have hnz2 : (t.ps.length : Int) ≠ 0 := by omega
    have HSM := Lib.hid (tree_small he)
    have HAN : Hid (∀ (i j : Nat), i < t.ps.length → j < t.ps.length → ∀ W, Up (w.alloc (.cells #[.slice pp t.ps.length pc, .slice np t.ns.length nc] 25)) W → Calls Try.prog 21 #[.agg #[.slice pp t.ps.length pc, .slice np t.ns.length nc], .int .i64 i, .int .i64 j] W fun e w' => e = .returned (.tuple #[.int .i64 (ancN t.ps i j), .int .i64 0]) ∧ Up W w') := fun i j hi hj W hW => by
      have h := ancestor_t Any W _ t i j (HT.out.keep (hW.kept _)) (by omega) (by omega) HSM.out
      have e1 : anE t i j = 0 := by unfold anE; rw [if_neg (by simp [he]), if_neg (by omega)]
      have e2 : anV t i j = (ancN t.ps i j : Nat) := by unfold anV; rw [e1, if_neg (by simp), Int.toNat_natCast, Int.toNat_natCast]
      rw [e1, e2] at h; exact h
    have HBE : Hid (∀ (i j : Nat), i < t.ps.length → ∀ W, Up (w.alloc (.cells #[.slice pp t.ps.length pc, .slice np t.ns.length nc] 25)) W → Calls Try.prog 22 #[.agg #[.slice pp t.ps.length pc, .slice np t.ns.length nc], .int .i64 i, .int .i64 j] W fun e w' => e = .returned (.bool (hitB t.ps j i)) ∧ Up W w') := fun i j hi W hW =>
      below31_t Any W _ t i j (HT.out.keep (hW.kept _)) (by omega) hok hi
    have HP1 : Hid (∀ W, Up (w.alloc (.cells #[.slice pp t.ps.length pc, .slice np t.ns.length nc] 25)) W → IntsAt Any W (.slice pp t.ps.length pc) t.ps) := fun W hW => by
      obtain ⟨P, N, e, hP, _⟩ := HT.out.keep (hW.kept _)
      injection e with e
      have := congrArg Array.toList e
      simp at this
      rw [← this.1] at hP; exact hP
    obtain ⟨k1, k2, _⟩ := anc_hit hok _ a b (Nat.le_refl _) hal hbl
    have HK1 := Lib.hid k1
    have HK2 := Lib.hid k2
    have HCM := Lib.hid (anc_comm hok hal hbl)
    have HKD : Hid (∀ k, k < t.ps.length → gi t.ps k = (ancN t.ps a b : Nat) → ¬ (hitB t.ps k a = true ∧ hitB t.ps k b = true)) := fun k hk hp2 => anc_kid hok hal hbl hk hp2
    have HAL := Lib.hid hal
    have HBL := Lib.hid hbl
    have H16 := Lib.hid h16
    obtain ⟨n, hn⟩ : ∃ n, n = ancN t.ps a b := ⟨_, rfl⟩
    have HN := Lib.hid hn
    have HNL : Hid (n ≤ a) := by unfold Hid; rw [hn]; exact (anc_lt hok hal hbl).1
    clear hf he hl hok k1 k2 ha hb hx0 hx1 hy0 hy1 hn
    go_enter Try.func4, Try.ntmps4
    go_wp2_with fail
    generalize w.alloc (.cells #[.slice pp t.ps.length pc, .slice np t.ns.length nc] 25) = w1 at *
    refine HF.out.mono ?_
    rintro e w2 ⟨rfl, hu2⟩
    have b0 := hu2.cell HB0.out
    have b1 := hu2.cell HB1.out
    have HU2 := Lib.hid hu2
    clear hu2 HF
    go_wp2_with fail
    go_big_quiet (fail)
    have hu3 : Up w2 (w2.drewN nq) := Up.drewN w2 nq
    have b0 := (HU2.out.trans hu3).cell HB0.out
    have b1 := (HU2.out.trans hu3).cell HB1.out
    have HU3 := Lib.hid (HU2.out.trans hu3)
    clear hu3 hse hsf hse2 hsf2 hwc hwd hwa hwb hnz hnz2
    generalize w2.drewN nq = w3 at *
    go_wp2_with fail
    refine (HAN.out a b HAL.out HBL.out _ HU3.out).mono ?_
    rintro e w4 ⟨rfl, hu4⟩
    rw [← HN.out]
    have b0 := (HU3.out.trans hu4).cell HB0.out
    have b1 := (HU3.out.trans hu4).cell HB1.out
    have HU4 := Lib.hid (HU3.out.trans hu4)
    clear hu4
    go_wp2_with fail
    refine (HAN.out b a HBL.out HAL.out _ HU4.out).mono ?_
    rintro e w5 ⟨rfl, hu5⟩
    rw [← HCM.out, ← HN.out]
    have b0 := (HU4.out.trans hu5).cell HB0.out
    have b1 := (HU4.out.trans hu5).cell HB1.out
    have HU5 := Lib.hid (HU4.out.trans hu5)
    have d0 : decide ((n : Int) < 0) = false := decide_eq_false (by omega)
    clear hu5
    go_wp2_with fail
    refine (HBE.out a n HAL.out _ HU5.out).mono ?_
    rintro e w6 ⟨rfl, hu6⟩
    rw [HN.out, HK1.out, ← HN.out]
    have b0 := (HU5.out.trans hu6).cell HB0.out
    have b1 := (HU5.out.trans hu6).cell HB1.out
    have HU6 := Lib.hid (HU5.out.trans hu6)
    clear hu6
    go_wp2_with fail
    refine (HBE.out b n HBL.out _ HU6.out).mono ?_
    rintro e w7 ⟨rfl, hu7⟩
    rw [HN.out, HK2.out, ← HN.out]
    have b0 := (HU6.out.trans hu7).cell HB0.out
    have b1 := (HU6.out.trans hu7).cell HB1.out
    have HU7 := Lib.hid (HU6.out.trans hu7)
    clear hu7 d0
    go_wp2_with fail
    clear b0 b1
    go_loopw [13, 14, 77] (fun _ _ i wr => ∃ k : Nat, k ≤ t.ps.length ∧ i = .int .i64 k ∧ Hid (Up w1 wr)) (fun _ _ i _ => t.ps.length - (intOf i).toNat)
    case atStart => exact ⟨0, Nat.zero_le _, rfl, HU7.out⟩
    case round =>
      obtain ⟨k, hk, rfl, hur⟩ := hrel
      obtain ⟨wo, rfl⟩ : ∃ wo : World, wo = wr := ⟨_, rfl⟩
      have b0 := hur.out.cell HB0.out
      have b1 := hur.out.cell HB1.out
      by_cases hlt : k < t.ps.length
      · obtain ⟨b2, off, rfl, hcell⟩ := ints_get (HP1.out wo hur.out) hlt
        have i1 : (0 : Int) ≤ (k : Int) := by omega
        have i2 : (k : Int) < (t.ps.length : Int) := by omega
        have i3 : (k : Int) < 16 := by have := H16.out; omega
        have HUR := Lib.hid hur.out
        have HLT := Lib.hid hlt
        clear hur
        by_cases e : gi t.ps k = (n : Int)
        · have d1 : (gi t.ps k == (n : Int)) = true := beq_iff_eq.2 e
          have HNB := Lib.hid (HKD.out k hlt (by rw [e, HN.out]))
          have HBA := Lib.hid (HBE.out a k HAL.out wo HUR.out)
          clear e
          generalize gi t.ps k = gk at *
          cases h1 : hitB t.ps k a
          · rw [h1] at HBA
            clear h1 HNB
            go_wp2_with fail
            refine HBA.out.mono ?_
            rintro e w8 ⟨rfl, hu8⟩
            have HU8 := Lib.hid (HUR.out.trans hu8)
            clear hu8
            go_wp2_with fail
            go_roundw
            case rel => exact ⟨k + 1, HLT.out, by go_num, HU8.out⟩
            case measure => have := HLT.out; simp [intOf]; omega
          · have h2 : hitB t.ps k b = false := by
              cases h2 : hitB t.ps k b with
              | false => rfl
              | true => exact absurd ⟨h1, h2⟩ HNB.out
            rw [h1] at HBA
            have H2 := Lib.hid h2
            clear h1 h2 HNB
            go_wp2_with fail
            refine HBA.out.mono ?_
            rintro e w8 ⟨rfl, hu8⟩
            have b0 := (HUR.out.trans hu8).cell HB0.out
            have b1 := (HUR.out.trans hu8).cell HB1.out
            have HU8 := Lib.hid (HUR.out.trans hu8)
            have HBB := Lib.hid (HBE.out b k HBL.out w8 HU8.out)
            rw [H2.out] at HBB
            clear hu8
            go_wp2_with fail
            refine HBB.out.mono ?_
            rintro e w9 ⟨rfl, hu9⟩
            have HU9 := Lib.hid (HU8.out.trans hu9)
            clear hu9
            go_wp2_with fail
            go_roundw
            case rel => exact ⟨k + 1, HLT.out, by go_num, HU9.out⟩
            case measure => have := HLT.out; simp [intOf]; omega
        · have d1 : (gi t.ps k == (n : Int)) = false := beq_eq_false_iff_ne.2 e
          clear e
          generalize gi t.ps k = gk at *
          go_wp2_with fail
          go_roundw
          case rel => exact ⟨k + 1, HLT.out, by go_num, HUR.out⟩
          case measure => have := HLT.out; simp [intOf]; omega
      · obtain rfl : k = t.ps.length := by omega
        have HUR := Lib.hid hur.out
        clear hur hlt hk
        go_wp2_with fail
        refine (HAW.out _).mono ?_
        rintro e w8 ⟨rfl, hu8⟩
        go_wp2_with fail
        go_ret
        exact ⟨rfl, HU.out.trans (HUR.out.trans hu8)⟩
end Go.Proofs.Ytcaialhoclodjaa
