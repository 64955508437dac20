/- The walk of ParsimonyTables. -/
import Derived.Test.YtflikmllpimaiaaB39
import Derived.Test.YtflikmllpimaiaaB40
import Derived.Test.YtflikmllpimaiaaB48
import Derived.Deep.RegionHeld3
namespace Go.Proofs.Ytflikmllpimaiaa
open Go.RowKit Go.Deep
set_option maxHeartbeats 400000 in
theorem farT1_t (w : World) (a : Option Addr) (m c : Nat) : FnIs 21 #[] #[.slice a m c] (.bool (decide (18 < m))) w := by
  unfold FnIs
  go_enter Try.func21, Try.ntmps21
  go_wp2_with fail
  go_ret
  exact ⟨ret_bool (by rw [Bool.eq_iff_iff]; simp; omega), rfl⟩
theorem rowsFarT_t (S : Nat → Prop) (w : World) (v : Value) (xs : List (List Int)) (h : RowsAt S w v xs) (hn : xs.length ≤ 1000000) :
    Calls Try.prog 20 #[v, .func (.func 21) #[] #[]] w fun e w' => e = .returned (.bool (rowFar xs)) ∧ w = w' := by
  obtain ⟨f, hsl, hr⟩ := h
  exact rows_has_t 21 #[] (enters_of Try.func21 (by kernel_rfl) rfl) S w v xs.length f (fun k => decide (18 < (gl xs k).length)) hsl hn (fun k hk => by
    obtain ⟨a, c, e, _, _⟩ := SlAt.open (hr k hk)
    rw [e]; exact farT1_t _ _ _ _)
theorem same_yes (S T : Nat → Prop) (w : World) (v u : Value) (xs : List (List Int)) (h : RowsAt S w v xs) (h2 : RowsAt T w u xs) (hn : xs.length ≤ 1000000) (hr : ∀ k, (gl xs k).length ≤ 1000000) :
    Calls Try.prog 26 #[v, u] w (EqPost w true) := by
  have h3 := sameTable_t S T w v u xs xs h h2 hn hn hr hr
  rw [decide_eq_true rfl] at h3; exact h3
theorem rowFar_len {rows : List (List Int)} (h : rowFar rows = false) : ∀ k, (gl rows k).length ≤ 1000000 := fun k => by
  by_cases hk : k < rows.length
  · have := any_false h hk
    simp at this; omega
  · simp [gl, hk]
def TabCond (t : Tre) (st : List Int) (cs : List (List Int)) (all : List Int) (rows : List (List Int)) : Prop := greatB t st cs = false ∧ all.length ≤ 14 ∧ rows.length ≤ 14 ∧ rowFar rows = false
set_option maxRecDepth 100000 in
set_option maxHeartbeats 2000000 in
theorem tables_no (w : World) (v vs vc va vr : Value) (t : Tre) (st : List Int) (cs : List (List Int)) (all : List Int) (rows : List (List Int)) (hT : TreeAt Any w v t) (hS : IntsAt Any w vs st) (hC : RowsAt Any w vc cs) (hA : IntsAt Any w va all) (hR : RowsAt Any w vr rows)
    (hz : Big t st cs) (hal : all.length ≤ 9223372036854775807) (hrl : rows.length ≤ 9223372036854775807) (hcond : ¬ TabCond t st cs all rows) : Calls Try.prog 6 #[v, vs, vc, va, vr] w (BoPost w true) := by
  have hor : greatB t st cs = true ∨ (greatB t st cs = false ∧ 14 < all.length) ∨ (greatB t st cs = false ∧ all.length ≤ 14 ∧ 14 < rows.length) ∨ (greatB t st cs = false ∧ all.length ≤ 14 ∧ rows.length ≤ 14 ∧ rowFar rows = true) := by
    cases h1 : greatB t st cs
    · right
      by_cases h2 : 14 < all.length
      · exact .inl ⟨rfl, h2⟩
      · right
        by_cases h3 : 14 < rows.length
        · exact .inl ⟨rfl, by omega, h3⟩
        · right
          refine ⟨rfl, by omega, by omega, ?_⟩
          cases h4 : rowFar rows
          · exact absurd ⟨h1, by omega, by omega, h4⟩ hcond
          · rfl
    · exact .inl rfl
  clear hcond
  obtain ⟨P, N, rfl, hP, hN⟩ := hT
  obtain ⟨qA, capA, rfl, hcapA, _⟩ := SlAt.open hA
  obtain ⟨qR, capR, rfl, hcapR, _⟩ := rows_open hR
  have hu := Up.alloc w (.cells #[P, N] 25)
  have hT1 : TreeAt Any (w.alloc (.cells #[P, N] 25)) (.agg #[P, N]) t := TreeAt.keep ⟨P, N, rfl, hP, hN⟩ (hu.kept _)
  have HFI := Lib.hid (great_t Any _ _ _ _ t st cs hT1 (IntsAt.keep hS (hu.kept _)) (hC.keep (hu.kept _)) hz)
  have HR := Lib.hid (hR.keep (hu.kept _))
  have HU := Lib.hid hu
  have HOR := Lib.hid hor
  clear hu hT1 hP hN hS hC hA hR hz hor
  go_enter Try.func6, Try.ntmps6
  go_wp2_with fail
  generalize w.alloc (.cells #[P, N] 25) = w1 at *
  refine HFI.out.mono ?_
  rintro e w2 ⟨rfl, hu2⟩
  have HU2 := Lib.hid (HU.out.trans hu2)
  have HR2 := Lib.hid (HR.out.keep (hu2.kept _))
  clear HU HR hu2 HFI
  rcases HOR.out with h | ⟨h, h1⟩ | ⟨h, h1, h2⟩ | ⟨h, h1, h2, h3⟩
  · rw [h]
    clear h HOR
    go_wp2_with fail
    refine (awake_t w2).mono ?_
    rintro e w3 ⟨rfl, hu3⟩
    have HU3 := Lib.hid (HU2.out.trans hu3)
    clear hu3
    go_wp2_with fail
    go_ret
    exact ⟨rfl, HU3.out⟩
  · rw [h]
    clear h HOR
    go_wp2_with fail
    refine (awake_t w2).mono ?_
    rintro e w3 ⟨rfl, hu3⟩
    have HU3 := Lib.hid (HU2.out.trans hu3)
    clear hu3
    go_wp2_with fail
    go_ret
    exact ⟨rfl, HU3.out⟩
  · rw [h]
    have i1 : decide (14 < (all.length : Int)) = false := by simp; omega
    clear h HOR
    go_wp2_with fail
    refine (awake_t w2).mono ?_
    rintro e w3 ⟨rfl, hu3⟩
    have HU3 := Lib.hid (HU2.out.trans hu3)
    clear hu3
    go_wp2_with fail
    go_ret
    exact ⟨rfl, HU3.out⟩
  · rw [h]
    have i1 : decide (14 < (all.length : Int)) = false := by simp; omega
    have i2 : decide (14 < (rows.length : Int)) = false := by simp; omega
    have HRF := Lib.hid (rowsFarT_t Any w2 _ rows HR2.out (by omega))
    rw [h3] at HRF
    clear h h3 HOR
    go_wp2_with fail
    refine HRF.out.mono ?_
    rintro e w2' ⟨rfl, rfl⟩
    clear HRF
    go_wp2_with fail
    refine (awake_t w2).mono ?_
    rintro e w3 ⟨rfl, hu3⟩
    have HU3 := Lib.hid (HU2.out.trans hu3)
    clear hu3
    go_wp2_with fail
    go_ret
    exact ⟨rfl, HU3.out⟩
theorem tabN_len (t : Tre) (st : List Int) (cs : List (List Int)) (hp : t.ps.length ≤ 1000000) (hm : cs.length ≤ 1000000) : (tableN t st cs).length ≤ 1000000 ∧ ∀ k, (gl (tableN t st cs) k).length ≤ 1000000 := by
  unfold tableN
  by_cases h : parErr t st cs = 0
  · rw [if_pos h]
    refine ⟨by rw [tabL_len]; exact hp, fun k => ?_⟩
    by_cases h : k < t.ps.length
    · rw [gl_tabL _ _ _ h, tabRow_len]; omega
    · simp [gl, tabL, h]
  · rw [if_neg h]; exact ⟨Nat.zero_le _, fun k => by simp [gl]⟩
theorem asgN_len (t : Tre) (st : List Int) (cs : List (List Int)) (hp : t.ps.length ≤ 1000000) : (assignN t st cs).length ≤ 1000000 := by
  unfold assignN
  by_cases h : parErr t st cs = 0
  · rw [if_pos h]; unfold asgL; rw [asgK_len]; exact hp
  · rw [if_neg h]; exact Nat.zero_le _
set_option maxRecDepth 100000 in
set_option maxHeartbeats 6000000 in
theorem tables_yes (w : World) (v vs vc va vr : Value) (t : Tre) (st : List Int) (cs : List (List Int)) (all : List Int) (rows : List (List Int)) (hT : TreeAt Any w v t) (hS : IntsAt Any w vs st) (hC : RowsAt Any w vc cs) (hA : IntsAt Any w va all) (hR : RowsAt Any w vr rows)
    (hz : Big t st cs) (hcond : TabCond t st cs all rows) : Calls Try.prog 6 #[v, vs, vc, va, vr] w (BoPost w true) := by
  obtain ⟨hg, hal, hrl, hrf⟩ := hcond
  obtain ⟨hsz, hp12, _, hst12, hcs18, _⟩ := great_sized hg
  have hRR := rowFar_len hrf
  have hszA : Sized t all cs := ⟨hsz.1, hsz.2.1, hsz.2.2.1, by omega, hsz.2.2.2.2.1, hsz.2.2.2.2.2⟩
  have HSZ := Lib.hid hsz
  have HSZA := Lib.hid hszA
  have HRRL := Lib.hid hRR
  obtain ⟨P, N, rfl, hP, hN⟩ := hT
  obtain ⟨qA, capA, rfl, hcapA, _⟩ := SlAt.open hA
  have hA : IntsAt Any w (.slice qA all.length capA) all := hA
  obtain ⟨qR, capR, rfl, hcapR, _⟩ := rows_open hR
  have hu := Up.alloc w (.cells #[P, N] 25)
  have hT1 : TreeAt Any (w.alloc (.cells #[P, N] 25)) (.agg #[P, N]) t := TreeAt.keep ⟨P, N, rfl, hP, hN⟩ (hu.kept _)
  have HGR := Lib.hid (great_t Any _ _ _ _ t st cs hT1 (IntsAt.keep hS (hu.kept _)) (hC.keep (hu.kept _)) hz)
  rw [hg] at HGR
  have HB0 := Lib.hid (box2_0 w P N 25)
  have HB1 := Lib.hid (box2_1 w P N 25)
  have HALL : Hid (Up w (w.alloc (.cells #[P, N] 25)) ∧ TreeAt Any (w.alloc (.cells #[P, N] 25)) (.agg #[P, N]) t ∧ IntsAt Any (w.alloc (.cells #[P, N] 25)) vs st ∧ RowsAt Any (w.alloc (.cells #[P, N] 25)) vc cs ∧ IntsAt Any (w.alloc (.cells #[P, N] 25)) (.slice qA all.length capA) all ∧ RowsAt Any (w.alloc (.cells #[P, N] 25)) (.slice qR rows.length capR) rows) :=
    ⟨hu, hT1, IntsAt.keep hS (hu.kept _), hC.keep (hu.kept _), IntsAt.keep hA (hu.kept _), hR.keep (hu.kept _)⟩
  have i1 : decide (14 < (all.length : Int)) = false := by simp; omega
  have i2 : decide (14 < (rows.length : Int)) = false := by simp; omega
  have HRF := Lib.hid hrf
  clear hu hT1 hP hN hS hC hA hR hz hg hrf hRR hsz hszA
  go_enter Try.func6, Try.ntmps6
  go_wp2_with fail
  generalize w.alloc (.cells #[P, N] 25) = w1 at *
  obtain ⟨hU1, hT1, hS1, hC1, hA1, hR1⟩ := HALL.out
  have HU1 := Lib.hid hU1
  have HT1 := Lib.hid hT1
  have HS1 := Lib.hid hS1
  have HC1 := Lib.hid hC1
  have HA1 := Lib.hid hA1
  have HR1 := Lib.hid hR1
  clear hU1 hT1 hS1 hC1 hA1 hR1 HALL
  refine HGR.out.mono ?_
  rintro e w2 ⟨rfl, hu2⟩
  have hc0 := hu2.cell HB0.out
  have hc1 := hu2.cell HB1.out
  have HX2 := Lib.hid hu2
  have HRFA := Lib.hid (rowsFarT_t Any w2 _ rows (HR1.out.keep (hu2.kept _)) (by omega))
  rw [HRF.out] at HRFA
  clear hu2 HGR
  go_wp2_with fail
  refine HRFA.out.mono ?_
  rintro e w2' ⟨rfl, rfl⟩
  clear HRFA
  go_wp2_with fail
  -- table
  refine (ptable_t Any w2 _ _ _ t st cs (HT1.out.keep (HX2.out.kept _)) (IntsAt.keep HS1.out (HX2.out.kept _)) (HC1.out.keep (HX2.out.kept _)) HSZ.out).mono ?_
  rintro e w3 ⟨hu3, tv, rfl, htv⟩
  have hc0 := hu3.cell hc0
  have hc1 := hu3.cell hc1
  have HX3 := Lib.hid (HX2.out.trans hu3)
  have HTV3 := Lib.hid htv
  clear hu3 htv
  go_wp2_with fail
  refine (ptableR_t Any w3 _ _ _ t st cs (HT1.out.keep (HX3.out.kept _)) (IntsAt.keep HS1.out (HX3.out.kept _)) (HC1.out.keep (HX3.out.kept _)) HSZ.out).mono ?_
  rintro e w4 ⟨hu4, tu, rfl, htu⟩
  have hc0 := hu4.cell hc0
  have hc1 := hu4.cell hc1
  have HX4 := Lib.hid (HX3.out.trans hu4)
  have HTV4 := Lib.hid (HTV3.out.keep (hu4.kept _))
  have HTU4 := Lib.hid htu
  clear hu4 htu HTV3
  go_wp2_with fail
  refine (assign_t Any w4 _ _ _ t st cs (HT1.out.keep (HX4.out.kept _)) (IntsAt.keep HS1.out (HX4.out.kept _)) (HC1.out.keep (HX4.out.kept _)) HSZ.out).mono ?_
  rintro e w5 ⟨hu5, av, rfl, hav⟩
  have hc0 := hu5.cell hc0
  have hc1 := hu5.cell hc1
  have HX5 := Lib.hid (HX4.out.trans hu5)
  have HTV5 := Lib.hid (HTV4.out.keep (hu5.kept _))
  have HTU5 := Lib.hid (HTU4.out.keep (hu5.kept _))
  have HAV5 := Lib.hid hav
  clear hu5 hav HTV4 HTU4
  go_wp2_with fail
  refine (assignR_t Any w5 _ _ _ t st cs (HT1.out.keep (HX5.out.kept _)) (IntsAt.keep HS1.out (HX5.out.kept _)) (HC1.out.keep (HX5.out.kept _)) HSZ.out).mono ?_
  rintro e w6 ⟨hu6, au, rfl, hau⟩
  have hc0 := hu6.cell hc0
  have hc1 := hu6.cell hc1
  have HX6 := Lib.hid (HX5.out.trans hu6)
  have HTV6 := Lib.hid (HTV5.out.keep (hu6.kept _))
  have HTU6 := Lib.hid (HTU5.out.keep (hu6.kept _))
  have HAV6 := Lib.hid (IntsAt.keep HAV5.out (hu6.kept _))
  have HAU6 := Lib.hid hau
  clear hu6 hau HTV5 HTU5 HAV5
  go_wp2_with fail
  refine (pcost_t Any w6 _ _ _ t all cs (HT1.out.keep (HX6.out.kept _)) (IntsAt.keep HA1.out (HX6.out.kept _)) (HC1.out.keep (HX6.out.kept _)) HSZA.out).mono ?_
  rintro e w7 ⟨hu7, rfl⟩
  have hc0 := hu7.cell hc0
  have hc1 := hu7.cell hc1
  have HX7 := Lib.hid (HX6.out.trans hu7)
  have HY7 := Lib.hid hu7
  clear hu7
  go_wp2_with fail
  refine (pcostR_t Any w7 _ _ _ t all cs (HT1.out.keep (HX7.out.kept _)) (IntsAt.keep HA1.out (HX7.out.kept _)) (HC1.out.keep (HX7.out.kept _)) HSZA.out).mono ?_
  rintro e w8 ⟨hu8, rfl⟩
  have hc0 := hu8.cell hc0
  have hc1 := hu8.cell hc1
  have HX8 := Lib.hid (HX7.out.trans hu8)
  have HY8 := Lib.hid (HY7.out.trans hu8)
  have HTV8 := Lib.hid (HTV6.out.keep (HY8.out.kept _))
  have HTU8 := Lib.hid (HTU6.out.keep (HY8.out.kept _))
  have HAV8 := Lib.hid (IntsAt.keep HAV6.out (HY8.out.kept _))
  have HAU8 := Lib.hid (IntsAt.keep HAU6.out (HY8.out.kept _))
  have HTL := Lib.hid (tabN_len t st cs (by omega) (by omega))
  have HAL := Lib.hid (asgN_len t st cs (by omega))
  clear hu8 HX2 HX3 HX4 HX5 HX6 HX7 HY7 HY8 HTV6 HTU6 HAV6 HAU6
  generalize parErr t st cs = pe at *
  generalize costErr t all cs = ce at *
  generalize costN t all cs = cn at *
  have hup : Hid (Up w8 (w8.drewN 1)) := Up.drewN w8 1
  go_wp2_with fail
  go_region_held3 (fun w' => Hid (Up w8 w') ∧ w'.cell? ⟨w.heap.size, 0, none⟩ = some P ∧ w'.cell? ⟨w.heap.size, 1, none⟩ = some N) (exact ⟨hup, hup.out.cell hc0, hup.out.cell hc1⟩) (first
    | (go_at_call 26; refine (same_yes Any Any _ _ _ (tableN t st cs) (HTV8.out.keep (hup.out.kept _)) (HTU8.out.keep (hup.out.kept _)) HTL.out.1 HTL.out.2).mono ?_; rintro e w9 ⟨rfl, hq9⟩; have hup : Hid (Up w8 w9) := hup.out.trans (QD.up hq9); clear hq9)
    | (go_at_call 27; refine (equal_yes _ _ _ _ _ _ _ (IntsAt.keep HAV8.out (hup.out.kept _)) (IntsAt.keep HAU8.out (hup.out.kept _)) HAL.out HAL.out rfl).mono ?_; rintro e w10 ⟨rfl, hq10⟩; have hup : Hid (Up w8 w10) := hup.out.trans (QD.up hq10); clear hq10)
    | (go_at_call 28; refine (verify_t Any _ _ _ _ _ _ t st cs all rows (HT1.out.keep ((HX8.out.trans hup.out).kept _)) (IntsAt.keep HS1.out ((HX8.out.trans hup.out).kept _)) (HC1.out.keep ((HX8.out.trans hup.out).kept _)) (IntsAt.keep HA1.out ((HX8.out.trans hup.out).kept _)) (HR1.out.keep ((HX8.out.trans hup.out).kept _)) HSZ.out (Nat.le_trans hal (by decide)) (Nat.le_trans hrl (by decide)) HRRL.out).mono ?_; rintro e w11 ⟨rfl, hb11⟩; have hup : Hid (Up w8 w11) := hup.out.trans (show Up _ w11 from hb11); clear hb11)
    | (go_at_call 29; refine (verifyR_t Any _ _ _ _ _ _ t st cs all rows (HT1.out.keep ((HX8.out.trans hup.out).kept _)) (IntsAt.keep HS1.out ((HX8.out.trans hup.out).kept _)) (HC1.out.keep ((HX8.out.trans hup.out).kept _)) (IntsAt.keep HA1.out ((HX8.out.trans hup.out).kept _)) (HR1.out.keep ((HX8.out.trans hup.out).kept _)) HSZ.out (Nat.le_trans hal (by decide)) (Nat.le_trans hrl (by decide)) HRRL.out).mono ?_; rintro e w12 ⟨rfl, hb12⟩; have hup : Hid (Up w8 w12) := hup.out.trans (show Up _ w12 from hb12); clear hb12)
    | (go_at_call 12; refine (awake_t _).mono ?_; rintro e w13 ⟨rfl, hu13⟩; have hup : Hid (Up w8 w13) := hup.out.trans hu13; clear hu13))
  go_wp2_with fail
  go_ret
  exact ⟨rfl, HU1.out.trans (HX8.out.trans hup.out)⟩
theorem tables_law (w : World) (v vs vc va vr : Value) (t : Tre) (st : List Int) (cs : List (List Int)) (all : List Int) (rows : List (List Int)) (hT : TreeAt Any w v t) (hS : IntsAt Any w vs st) (hC : RowsAt Any w vc cs) (hA : IntsAt Any w va all) (hR : RowsAt Any w vr rows)
    (hz : Big t st cs) (hal : all.length ≤ 9223372036854775807) (hrl : rows.length ≤ 9223372036854775807) : Calls Try.prog 6 #[v, vs, vc, va, vr] w (BoPost w true) := by
  by_cases h : TabCond t st cs all rows
  · exact tables_yes w v vs vc va vr t st cs all rows hT hS hC hA hR hz h
  · exact tables_no w v vs vc va vr t st cs all rows hT hS hC hA hR hz hal hrl h
end Go.Proofs.Ytflikmllpimaiaa
