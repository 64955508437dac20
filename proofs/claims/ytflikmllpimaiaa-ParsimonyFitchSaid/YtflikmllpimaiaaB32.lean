/- The law's fine. -/
import Derived.Test.YtflikmllpimaiaaB27
import Derived.Test.YtflikmllpimaiaaB28
namespace Go.Proofs.Ytflikmllpimaiaa
open Go.RowKit Go.Deep
def fineB (t : Tre) (st : List Int) (cs : List (List Int)) : Bool := !greatB t st cs && decide (parErr t st cs = 0)
theorem fine_sized {t : Tre} {st : List Int} {cs : List (List Int)} (h : fineB t st cs = true) : greatB t st cs = false ∧ Valid t st cs := by
  unfold fineB at h
  simp only [Bool.and_eq_true, Bool.not_eq_true', decide_eq_true_eq] at h
  exact ⟨h.1, parErr_valid h.2⟩
def BoPost (w : World) (b : Bool) (e : Ending) (w' : World) : Prop := e = .returned (.bool b) ∧ Up w w'
set_option maxRecDepth 100000 in
set_option maxHeartbeats 800000 in
theorem fine_t (S : Nat → Prop) (w : World) (v vs vc : Value) (t : Tre) (st : List Int) (cs : List (List Int)) (hT : TreeAt S w v t) (hS : IntsAt S w vs st) (hC : RowsAt S w vc cs) (hz : Big t st cs) :
    Calls Try.prog 11 #[v, vs, vc] w (BoPost w (fineB t st cs)) := by
  obtain ⟨P, N, rfl, hP, hN⟩ := hT
  have hu := Up.alloc w (.cells #[P, N] 25)
  have hT1 : TreeAt S (w.alloc (.cells #[P, N] 25)) (.agg #[P, N]) t := TreeAt.keep ⟨P, N, rfl, hP, hN⟩ (hu.kept S)
  have HT := Lib.hid hT1
  have HS := Lib.hid (IntsAt.keep hS (hu.kept S))
  have HC := Lib.hid (hC.keep (hu.kept S))
  have HU := Lib.hid hu
  have HB0 := Lib.hid (box2_0 w P N 25)
  have HB1 := Lib.hid (box2_1 w P N 25)
  have HG := Lib.hid (great_t S _ _ _ _ t st cs HT.out HS.out HC.out hz)
  clear hu hT1 hP hN hS hC hz
  go_enter Try.func11, Try.ntmps11
  go_wp2_with fail
  generalize w.alloc (.cells #[P, N] 25) = w1 at *
  refine HG.out.mono ?_
  rintro e w2 ⟨rfl, hu2⟩
  have HU2 := Lib.hid (HU.out.trans hu2)
  have hc0 := hu2.cell HB0.out
  have hc1 := hu2.cell HB1.out
  have HT2 := Lib.hid (HT.out.keep (hu2.kept S))
  have HS2 := Lib.hid (IntsAt.keep HS.out (hu2.kept S))
  have HC2 := Lib.hid (HC.out.keep (hu2.kept S))
  have hfin : fineB t st cs = (!greatB t st cs && decide (parErr t st cs = 0)) := rfl
  have HF := Lib.hid hfin
  clear HU HB0 HB1 HT HS HC hu2 hfin
  cases hg : greatB t st cs
  · have HCK := Lib.hid (checkRP_t S w2 _ _ _ t st cs HT2.out HS2.out HC2.out (great_sized hg).1)
    have HG2 := Lib.hid hg
    clear hg
    go_wp2_with fail
    refine HCK.out.mono ?_
    rintro e w3 ⟨rfl, hb3⟩
    have HU3 := Lib.hid (HU2.out.trans (show Up w2 w3 from hb3))
    clear hb3
    go_wp2_with fail
    go_ret
    refine ⟨ret_bool ?_, HU3.out⟩
    rw [HF.out, HG2.out, Bool.eq_iff_iff]; simp
  · have HG2 := Lib.hid hg
    clear hg
    go_wp2_with fail
    go_ret
    exact ⟨ret_bool (by rw [HF.out, HG2.out]; rfl), HU2.out⟩
end Go.Proofs.Ytflikmllpimaiaa
