/- The walk of ParsimonyScores. -/
import Derived.Test.YtflikmllpimaiaaB53
import Derived.Test.YtflikmllpimaiaaB32
import Derived.Test.YtflikmllpimaiaaB37
import Derived.Test.YtflikmllpimaiaaB40
import Derived.Deep.RegionHeld3
namespace Go.Proofs.Ytflikmllpimaiaa
open Go.RowKit Go.Deep
theorem same_yes (S T : Nat → Prop) (w : World) (v u : Value) (xs : List (List Int)) (h : RowsAt S w v xs) (h2 : RowsAt T w u xs) (hn : xs.length ≤ 1000000) (hr : ∀ k, (gl xs k).length ≤ 1000000) :
    Calls Try.prog 26 #[v, u] w (EqPost w true) := by
  have h3 := sameTable_t S T w v u xs xs h h2 hn hn hr hr
  rw [decide_eq_true rfl] at h3; exact h3
theorem unitN_len (n : Int) : (unitN n).length ≤ 1000000 ∧ ∀ k, (gl (unitN n) k).length ≤ 1000000 := by
  unfold unitN
  by_cases h : n < 1 ∨ 16 < n
  · rw [if_pos h]; exact ⟨Nat.zero_le _, fun k => by simp [gl]⟩
  · rw [if_neg h]; exact ⟨by rw [unitL_len]; omega, fun k => Nat.le_trans (unitL_rowlen _ k) (by omega)⟩
set_option maxRecDepth 100000 in
set_option maxHeartbeats 6000000 in
theorem scores_law (w : World) (v vs vc : Value) (t : Tre) (st : List Int) (cs : List (List Int)) (n : Int) (hT : TreeAt Any w v t) (hS : IntsAt Any w vs st) (hC : RowsAt Any w vc cs) (hz : Big t st cs)
    (hn1 : -9223372036854775808 ≤ n) (hn2 : n ≤ 9223372036854775807) : Calls Try.prog 8 #[v, vs, vc, .int .i64 n] w (BoPost w true) := by
  obtain ⟨P, N, rfl, hP, hN⟩ := hT
  have hu := Up.alloc w (.cells #[P, N] 25)
  have hT1 : TreeAt Any (w.alloc (.cells #[P, N] 25)) (.agg #[P, N]) t := TreeAt.keep ⟨P, N, rfl, hP, hN⟩ (hu.kept _)
  have HGR := Lib.hid (great_t Any _ _ _ _ t st cs hT1 (IntsAt.keep hS (hu.kept _)) (hC.keep (hu.kept _)) hz)
  have HB0 := Lib.hid (box2_0 w P N 25)
  have HB1 := Lib.hid (box2_1 w P N 25)
  have HALL : Hid (Up w (w.alloc (.cells #[P, N] 25)) ∧ TreeAt Any (w.alloc (.cells #[P, N] 25)) (.agg #[P, N]) t ∧ IntsAt Any (w.alloc (.cells #[P, N] 25)) vs st ∧ RowsAt Any (w.alloc (.cells #[P, N] 25)) vc cs) :=
    ⟨hu, hT1, IntsAt.keep hS (hu.kept _), hC.keep (hu.kept _)⟩
  clear hu hT1 hP hN hS hC hz
  go_enter Try.func8, Try.ntmps8
  go_wp2_with fail
  generalize w.alloc (.cells #[P, N] 25) = w1 at *
  obtain ⟨hU1, hT1, hS1, hC1⟩ := HALL.out
  have HU1 := Lib.hid hU1
  have HT1 := Lib.hid hT1
  have HS1 := Lib.hid hS1
  have HC1 := Lib.hid hC1
  clear hU1 hT1 hS1 hC1 HALL
  refine HGR.out.mono ?_
  rintro e w2 ⟨rfl, hu2⟩
  have hc0 := hu2.cell HB0.out
  have hc1 := hu2.cell HB1.out
  have HX2 := Lib.hid hu2
  clear hu2 HGR
  cases hg : greatB t st cs
  · obtain ⟨hsz, hp12, _, hst12, hcs18, _⟩ := great_sized hg
    have HSZ := Lib.hid hsz
    clear hg hsz
    go_wp2_with fail
    refine (score_t Any w2 _ _ _ t st cs (HT1.out.keep (HX2.out.kept _)) (IntsAt.keep HS1.out (HX2.out.kept _)) (HC1.out.keep (HX2.out.kept _)) HSZ.out).mono ?_
    rintro e w3 ⟨hu3, rfl⟩
    have hc0 := hu3.cell hc0
    have hc1 := hu3.cell hc1
    have HX3 := Lib.hid (HX2.out.trans hu3)
    clear hu3 HX2
    go_wp2_with fail
    refine (scoreR_t Any w3 _ _ _ t st cs (HT1.out.keep (HX3.out.kept _)) (IntsAt.keep HS1.out (HX3.out.kept _)) (HC1.out.keep (HX3.out.kept _)) HSZ.out).mono ?_
    rintro e w4 ⟨hu4, rfl⟩
    have hc0 := hu4.cell hc0
    have hc1 := hu4.cell hc1
    have HX4 := Lib.hid (HX3.out.trans hu4)
    clear hu4 HX3
    go_wp2_with fail
    refine (fitch_t Any w4 _ _ t st (HT1.out.keep (HX4.out.kept _)) (IntsAt.keep HS1.out (HX4.out.kept _)) HSZ.out.1 HSZ.out.2.1 HSZ.out.2.2.1 HSZ.out.2.2.2.1).mono ?_
    rintro e w5 ⟨hu5, rfl⟩
    have hc0 := hu5.cell hc0
    have hc1 := hu5.cell hc1
    have HX5 := Lib.hid (HX4.out.trans hu5)
    clear hu5 HX4
    go_wp2_with fail
    refine (fitchR_t Any w5 _ _ t st (HT1.out.keep (HX5.out.kept _)) (IntsAt.keep HS1.out (HX5.out.kept _)) HSZ.out.1 HSZ.out.2.1 HSZ.out.2.2.1 HSZ.out.2.2.2.1).mono ?_
    rintro e w6 ⟨hu6, rfl⟩
    have hc0 := hu6.cell hc0
    have hc1 := hu6.cell hc1
    have HX6 := Lib.hid (HX5.out.trans hu6)
    clear hu6 HX5
    go_wp2_with fail
    refine (punit_t w6 n hn1 hn2).mono ?_
    rintro e w7 ⟨hu7, vx, rfl, hrx⟩
    have hc0 := hu7.cell hc0
    have hc1 := hu7.cell hc1
    have HX7 := Lib.hid (HX6.out.trans hu7)
    have HRX := Lib.hid hrx
    clear hu7 HX6 hrx
    go_wp2_with fail
    refine (unitR_t w7 n hn1 hn2).mono ?_
    rintro e w8 ⟨hu8, vy, rfl, hry⟩
    have hc0 := hu8.cell hc0
    have hc1 := hu8.cell hc1
    have HX8 := Lib.hid (HX7.out.trans hu8)
    have HRX8 := Lib.hid (HRX.out.keep (hu8.kept _))
    have HRY := Lib.hid hry
    have HUL := Lib.hid (unitN_len n)
    clear hu8 HX7 hry HRX
    have HT8 := Lib.hid (HT1.out.keep (HX8.out.kept _))
    have HS8 := Lib.hid (IntsAt.keep HS1.out (HX8.out.kept _))
    have HC8 := Lib.hid (HC1.out.keep (HX8.out.kept _))
    have HCK : Hid (∀ W, Up w8 W → Calls Try.prog 37 #[.agg #[P, N], vs, vc] W fun e w' => StI e w' W (parErr t st cs)) := fun W hW => pcheck_s Any W _ _ _ t st cs (HT8.out.keep (hW.kept _)) (IntsAt.keep HS8.out (hW.kept _)) (HC8.out.keep (hW.kept _)) HSZ.out
    have HCR : Hid (∀ W, Up w8 W → Calls Try.prog 38 #[.agg #[P, N], vs, vc] W fun e w' => StI e w' W (parErr t st cs)) := fun W hW => checkRP_t Any W _ _ _ t st cs (HT8.out.keep (hW.kept _)) (IntsAt.keep HS8.out (hW.kept _)) (HC8.out.keep (hW.kept _)) HSZ.out
    clear HT1 HS1 HC1 HT8 HS8 HC8
    generalize parErr t st cs = pe at *
    generalize scoreN t st cs = sn at *
    generalize parErr t st (unitL 16) = pe2 at *
    generalize scoreN t st (unitL 16) = sn2 at *
    generalize unitErr n = ue at *
    have hup : Hid (Up w8 (w8.drewN 1)) := Up.drewN w8 1
    go_wp2_with fail
    go_region_held3 (fun w' => Hid (Up w8 w') ∧ w'.cell? ⟨w.heap.size, 0, none⟩ = some P ∧ w'.cell? ⟨w.heap.size, 1, none⟩ = some N) (exact ⟨hup, hup.out.cell hc0, hup.out.cell hc1⟩) (first
      | (go_at_call 37; refine (HCK.out _ hup.out).mono ?_; rintro e w9 ⟨rfl, hb9⟩; have hup : Hid (Up w8 w9) := hup.out.trans (show Up _ w9 from hb9); clear hb9)
      | (go_at_call 38; refine (HCR.out _ hup.out).mono ?_; rintro e w10 ⟨rfl, hb10⟩; have hup : Hid (Up w8 w10) := hup.out.trans (show Up _ w10 from hb10); clear hb10)
      | (go_at_call 26; refine (same_yes Any Any _ _ _ (unitN n) (HRX8.out.keep (hup.out.kept _)) (HRY.out.keep (hup.out.kept _)) HUL.out.1 HUL.out.2).mono ?_; rintro e w11 ⟨rfl, hq11⟩; have hup : Hid (Up w8 w11) := hup.out.trans (QD.up hq11); clear hq11)
      | (go_at_call 12; refine (awake_t _).mono ?_; rintro e w13 ⟨rfl, hu13⟩; have hup : Hid (Up w8 w13) := hup.out.trans hu13; clear hu13))
    go_wp2_with fail
    go_ret
    exact ⟨rfl, HU1.out.trans (HX8.out.trans hup.out)⟩
  · clear hg
    go_wp2_with fail
    refine (awake_t w2).mono ?_
    rintro e w3 ⟨rfl, hu3⟩
    have HU3 := Lib.hid ((HU1.out.trans HX2.out).trans hu3)
    clear hu3
    go_wp2_with fail
    go_ret
    exact ⟨rfl, HU3.out⟩
end Go.Proofs.Ytflikmllpimaiaa
