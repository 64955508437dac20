/- The walk of ParsimonyVerifies, where it says nothing; the whole. -/
import Derived.Test.YtflikmllpimaiaaB40
namespace Go.Proofs.Ytflikmllpimaiaa
open Go.RowKit Go.Deep
set_option maxRecDepth 100000 in
set_option maxHeartbeats 2000000 in
theorem verifies_no (w : World) (v vs vc va vr : Value) (t : Tre) (st : List Int) (cs : List (List Int)) (all : List Int) (rows : List (List Int)) (hT : TreeAt Any w v t) (hS : IntsAt Any w vs st) (hC : RowsAt Any w vc cs) (hA : IntsAt Any w va all) (hR : RowsAt Any w vr rows)
    (hz : Big t st cs) (hal : all.length ≤ 9223372036854775807) (hrl : rows.length ≤ 9223372036854775807) (hcond : ¬ VerCond t st cs all rows) : Calls Try.prog 7 #[v, vs, vc, va, vr] w (BoPost w true) := by
  have hor : fineB t st cs = false ∨ (fineB t st cs = true ∧ 14 < all.length) ∨ (fineB t st cs = true ∧ all.length ≤ 14 ∧ 14 < rows.length) ∨ (fineB t st cs = true ∧ all.length ≤ 14 ∧ rows.length ≤ 14 ∧ rowFar rows = true) := by
    cases h1 : fineB t st cs
    · exact .inl rfl
    · right
      by_cases h2 : 14 < all.length
      · exact .inl ⟨rfl, h2⟩
      · right
        by_cases h3 : 14 < rows.length
        · exact .inl ⟨rfl, by omega, h3⟩
        · right
          refine ⟨rfl, by omega, by omega, ?_⟩
          cases h4 : rowFar rows
          · exact absurd ⟨h1, by omega, by omega, h4⟩ hcond
          · rfl
  clear hcond
  obtain ⟨P, N, rfl, hP, hN⟩ := hT
  obtain ⟨qA, capA, rfl, hcapA, _⟩ := SlAt.open hA
  obtain ⟨qR, capR, rfl, hcapR, _⟩ := rows_open hR
  have hu := Up.alloc w (.cells #[P, N] 25)
  have hT1 : TreeAt Any (w.alloc (.cells #[P, N] 25)) (.agg #[P, N]) t := TreeAt.keep ⟨P, N, rfl, hP, hN⟩ (hu.kept _)
  have HFI := Lib.hid (fine_t Any _ _ _ _ t st cs hT1 (IntsAt.keep hS (hu.kept _)) (hC.keep (hu.kept _)) hz)
  have HR := Lib.hid (hR.keep (hu.kept _))
  have HU := Lib.hid hu
  have HOR := Lib.hid hor
  clear hu hT1 hP hN hS hC hA hR hz hor
  go_enter Try.func7, Try.ntmps7
  go_wp2_with fail
  generalize w.alloc (.cells #[P, N] 25) = w1 at *
  refine HFI.out.mono ?_
  rintro e w2 ⟨rfl, hu2⟩
  have HU2 := Lib.hid (HU.out.trans hu2)
  have HR2 := Lib.hid (HR.out.keep (hu2.kept _))
  clear HU HR hu2 HFI
  rcases HOR.out with h | ⟨h, h1⟩ | ⟨h, h1, h2⟩ | ⟨h, h1, h2, h3⟩
  · rw [h]
    clear h HOR
    go_wp2_with fail
    refine (awake_t w2).mono ?_
    rintro e w3 ⟨rfl, hu3⟩
    have HU3 := Lib.hid (HU2.out.trans hu3)
    clear hu3
    go_wp2_with fail
    go_ret
    exact ⟨rfl, HU3.out⟩
  · rw [h]
    clear h HOR
    go_wp2_with fail
    refine (awake_t w2).mono ?_
    rintro e w3 ⟨rfl, hu3⟩
    have HU3 := Lib.hid (HU2.out.trans hu3)
    clear hu3
    go_wp2_with fail
    go_ret
    exact ⟨rfl, HU3.out⟩
  · rw [h]
    have i1 : decide (14 < (all.length : Int)) = false := by simp; omega
    clear h HOR
    go_wp2_with fail
    refine (awake_t w2).mono ?_
    rintro e w3 ⟨rfl, hu3⟩
    have HU3 := Lib.hid (HU2.out.trans hu3)
    clear hu3
    go_wp2_with fail
    go_ret
    exact ⟨rfl, HU3.out⟩
  · rw [h]
    have i1 : decide (14 < (all.length : Int)) = false := by simp; omega
    have i2 : decide (14 < (rows.length : Int)) = false := by simp; omega
    have HRF := Lib.hid (rowsFar_t Any w2 _ rows HR2.out (by omega))
    rw [h3] at HRF
    clear h h3 HOR
    go_wp2_with fail
    refine HRF.out.mono ?_
    rintro e w2' ⟨rfl, rfl⟩
    clear HRF
    go_wp2_with fail
    refine (awake_t w2).mono ?_
    rintro e w3 ⟨rfl, hu3⟩
    have HU3 := Lib.hid (HU2.out.trans hu3)
    clear hu3
    go_wp2_with fail
    go_ret
    exact ⟨rfl, HU3.out⟩
theorem verifies_law (w : World) (v vs vc va vr : Value) (t : Tre) (st : List Int) (cs : List (List Int)) (all : List Int) (rows : List (List Int)) (hT : TreeAt Any w v t) (hS : IntsAt Any w vs st) (hC : RowsAt Any w vc cs) (hA : IntsAt Any w va all) (hR : RowsAt Any w vr rows)
    (hz : Big t st cs) (hal : all.length ≤ 9223372036854775807) (hrl : rows.length ≤ 9223372036854775807) : Calls Try.prog 7 #[v, vs, vc, va, vr] w (BoPost w true) := by
  by_cases h : VerCond t st cs all rows
  · exact verifies_yes w v vs vc va vr t st cs all rows hT hS hC hA hR hz h
  · exact verifies_no w v vs vc va vr t st cs all rows hT hS hC hA hR hz hal hrl h
end Go.Proofs.Ytflikmllpimaiaa
