/- The contracts of parsimony.Fitch and of the reference's Fitch. -/
import Derived.Test.YtflikmllpimaiaaB52
import Derived.Test.YtflikmllpimaiaaB45
import Derived.Deep.RegionHeld3
namespace Go.Proofs.Ytflikmllpimaiaa
open Go.RowKit Go.Deep
def FiPost (w : World) (t : Tre) (st : List Int) (e : Ending) (w' : World) : Prop :=
  Up w w' ∧ e = .returned (.tuple #[.int .i64 (scoreN t st (unitL 16)), .int .i64 (parErr t st (unitL 16))])
theorem mat16 : matErr (unitL 16) = 0 := by decide +kernel
theorem len16 : (unitL 16).length = 16 := unitL_len 16
theorem par16 {t : Tre} (h : treeErr t = 0) (st : List Int) : parErr t st (unitL 16) = knownErr st (leavesL t.ns).length (-1) 16 := by
  unfold parErr; rw [if_neg (fun e => e h), if_neg (fun e => e mat16), len16]; rfl
theorem score16 {t : Tre} {st : List Int} {cs : List (List Int)} (h : parErr t st cs ≠ 0) : scoreN t st cs = 0 := by unfold scoreN; rw [if_neg h]
theorem least2_t (T : Nat → Prop) (w : World) (vr : Value) (row : List Int) (hR : IntsAt T w vr row) (hrn : row.length ≤ 1000) :
    Calls Try.prog 50 #[vr] w fun e w' => e = .returned (.tuple #[.int .i64 (bestK (fun _ => 0) (gi row) row.length).1, .int .i64 (bestK (fun _ => 0) (gi row) row.length).2]) ∧ w = w' := least_t T w vr row hR hrn
theorem unitL_rowlen (n k : Nat) : (gl (unitL n) k).length ≤ n := by
  by_cases h : k < n
  · rw [gl_unitL h, unitRow_len]; exact Nat.le_refl _
  · simp [gl, unitL, h]
set_option maxRecDepth 100000 in
set_option maxHeartbeats 2000000 in
theorem fitch_t (S : Nat → Prop) (w : World) (v vs : Value) (t : Tre) (st : List Int) (hT : TreeAt S w v t) (hS : IntsAt S w vs st) (hp : t.ps.length ≤ 1000000) (hn : t.ns.length ≤ 1000000) (hz : ∀ k, (gs t.ns k).size ≤ 70000) (hst : st.length ≤ 1000000) :
    Calls Try.prog 33 #[v, vs] w (FiPost w t st) := by
  obtain ⟨P, N, rfl, hP, hN⟩ := hT
  have hu := Up.alloc w (.cells #[P, N] 25)
  have hT1 : TreeAt S (w.alloc (.cells #[P, N] 25)) (.agg #[P, N]) t := TreeAt.keep ⟨P, N, rfl, hP, hN⟩ (hu.kept S)
  have HK := Lib.hid (leaves_t S _ _ t hT1 hp hn hz)
  have HU := Lib.hid hu
  have HB0 := Lib.hid (box2_0 w P N 25)
  have HB1 := Lib.hid (box2_1 w P N 25)
  have HT := Lib.hid hT1
  have HS := Lib.hid (IntsAt.keep hS (hu.kept S))
  have HNS := Lib.hid hz
  clear hu hT1 hS hP hN hz
  go_enter Try.func33, Try.ntmps33
  go_wp2_with fail
  generalize w.alloc (.cells #[P, N] 25) = w1 at *
  refine HK.out.mono ?_
  rintro e w2 ⟨hb, ⟨he, rfl⟩ | ⟨he, vl, rfl, hl⟩⟩
  · have HU2 := Lib.hid (HU.out.trans (show Up w1 w2 from hb))
    have HE := Lib.hid he
    clear hb he HK
    go_wp2_with fail
    go_ret2
    have hpe : parErr t st (unitL 16) = 1 := by unfold parErr; rw [if_pos HE.out]
    exact ⟨HU2.out, by rw [score16 (by rw [hpe]; decide), hpe]; rfl⟩
  · have hu2 : Up w1 w2 := hb
    have hc0 := hu2.cell HB0.out
    have hc1 := hu2.cell HB1.out
    have HU2 := Lib.hid (HU.out.trans hu2)
    have HT2 := Lib.hid (HT.out.keep (hu2.kept S))
    have HS2 := Lib.hid (IntsAt.keep HS.out (hu2.kept S))
    obtain ⟨ql, capl, rfl, _, _⟩ := SlAt.open hl
    have HE := Lib.hid he
    have HKN := Lib.hid (known_t S w2 vs st (leavesL t.ns).length (-1) 16 HS2.out hst)
    have HPE := Lib.hid (par16 he st)
    clear hb he HK hu2 hl HU HB0 HB1 HT HS
    go_wp2_with fail
    refine HKN.out.mono ?_
    rintro e w3 ⟨rfl, hb3⟩
    have hu3 : Up w2 w3 := hb3
    have hc0 := hu3.cell hc0
    have hc1 := hu3.cell hc1
    have HU3 := Lib.hid (HU2.out.trans hu3)
    have HT3 := Lib.hid (HT2.out.keep (hu3.kept S))
    have HS3 := Lib.hid (IntsAt.keep HS2.out (hu3.kept S))
    clear hb3 hu3 HKN
    rw [← HPE.out]
    by_cases hpe : parErr t st (unitL 16) = 0
    · rw [hpe]
      have hv := parErr_valid hpe
      have HF : Hid (scoreN t st (unitL 16) = (bestK (fun _ => 0) (gi (tabRow t st (unitL 16) 0)) (unitL 16).length).1) := by unfold Hid scoreN; rw [if_pos hpe]
      have HP := Lib.hid hpe
      have HTB : Hid (∀ W vc, Up w3 W → RowsAt Any W vc (unitL 16) → Calls Try.prog 51 #[.agg #[P, N], vs, vc] W (Tb1Post W t st (unitL 16))) := fun W vc hW hR =>
        (table_v Any W _ _ _ t st (unitL 16) ((HT3.out.keep (hW.kept _)).sub fun _ _ _ => trivial) (IntsAt.sub (IntsAt.keep HS3.out (hW.kept _)) fun _ _ _ => trivial) hR HNS.out hv).mono fun _ _ h => tb1 hv h
      have hml : (tabRow t st (unitL 16) 0).length ≤ 1000 := by rw [tabRow_len, len16]; omega
      have hpos0 : (0 : Int) < (t.ps.length : Int) := by have := (treeErr_zero HE.out).1; omega
      have HML := Lib.hid hml
      have HW3 := Lib.hid (Up.refl w3)
      have hup : Hid (Up w3 (w3.drewN 1)) := Up.drewN w3 1
      clear hpe hv hml
      go_wp2_with fail
      go_region_with (first
        | (go_at_call 65; refine (unit_t _ 16 (by decide) (by decide)).mono ?_; rintro e w5 ⟨hb5, vc, rfl, hr5⟩; have hR5 := Lib.hid hr5; have hc0 := (hup.out.trans (show Up _ w5 from hb5)).cell hc0; have hc1 := (hup.out.trans (show Up _ w5 from hb5)).cell hc1; have hup : Hid (Up w3 w5) := hup.out.trans (show Up _ w5 from hb5); clear hb5 hr5)
        | (go_at_call 51; refine (HTB.out _ _ hup.out hR5.out).mono ?_; rintro e w6 ⟨tb, to, tcap, rq, rc, rfl, hcell, hrow, hup6⟩; have hR6 := Lib.hid hrow; have hup : Hid (Up w3 w6) := hup.out.trans hup6; clear hup6 hrow)
        | (go_at_call 50; refine (least2_t Any _ _ _ hR6.out HML.out).mono ?_; rintro e w7 ⟨rfl, rfl⟩))
      all_goals
        go_wp2_with fail
        go_ret2
        exact ⟨HU3.out.trans hup.out, by rw [HF.out, HP.out, len16, tabRow_len, len16]; rfl⟩
    · have he1 : (parErr t st (unitL 16) != 0) = true := by simpa using hpe
      have HP := Lib.hid hpe
      clear hpe
      have HSC : Hid (scoreN t st (unitL 16) = 0) := score16 HP.out
      go_wp2_with fail
      go_ret2
      exact ⟨HU3.out, by rw [HSC.out]; rfl⟩
set_option maxRecDepth 100000 in
set_option maxHeartbeats 1000000 in
theorem fitchR_t (S : Nat → Prop) (w : World) (v vs : Value) (t : Tre) (st : List Int) (hT : TreeAt S w v t) (hS : IntsAt S w vs st) (hp : t.ps.length ≤ 1000000) (hn : t.ns.length ≤ 1000000) (hz : ∀ k, (gs t.ns k).size ≤ 70000) (hst : st.length ≤ 1000000) :
    Calls Try.prog 34 #[v, vs] w (FiPost w t st) := by
  obtain ⟨P, N, rfl, hP, hN⟩ := hT
  have hu := Up.alloc w (.cells #[P, N] 25)
  have hT1 : TreeAt S (w.alloc (.cells #[P, N] 25)) (.agg #[P, N]) t := TreeAt.keep ⟨P, N, rfl, hP, hN⟩ (hu.kept S)
  have HK := Lib.hid (checkR_t S _ _ t hT1 hp hn hz)
  have HU := Lib.hid hu
  have HB0 := Lib.hid (box2_0 w P N 25)
  have HB1 := Lib.hid (box2_1 w P N 25)
  have HT := Lib.hid hT1
  have HS := Lib.hid (IntsAt.keep hS (hu.kept S))
  have HNS := Lib.hid hz
  have HSZ : Hid (Sized t st (unitL 16)) := ⟨hp, hn, hz, hst, by rw [len16]; decide, fun k => Nat.le_trans (unitL_rowlen 16 k) (by decide)⟩
  clear hu hT1 hS hP hN hz
  go_enter Try.func34, Try.ntmps34
  go_wp2_with fail
  generalize w.alloc (.cells #[P, N] 25) = w1 at *
  refine HK.out.mono ?_
  rintro e w2 ⟨rfl, hb⟩
  have hu2 : Up w1 w2 := hb
  have hc0 := hu2.cell HB0.out
  have hc1 := hu2.cell HB1.out
  have HU2 := Lib.hid (HU.out.trans hu2)
  have HT2 := Lib.hid (HT.out.keep (hu2.kept S))
  have HS2 := Lib.hid (IntsAt.keep HS.out (hu2.kept S))
  clear hb hu2 HK HU HB0 HB1 HT HS
  by_cases he : treeErr t = 0
  · have d1 : (treeErr t != 0) = false := by simpa using he
    have HKN := Lib.hid (statesR_t S w2 _ vs t st 16 HT2.out HS2.out he hp hn HNS.out hst)
    have HPE := Lib.hid (par16 he st)
    clear he
    go_wp2_with fail
    refine HKN.out.mono ?_
    rintro e w3 ⟨rfl, hb3⟩
    have hu3 : Up w2 w3 := hb3
    have hc0 := hu3.cell hc0
    have hc1 := hu3.cell hc1
    have HU3 := Lib.hid (HU2.out.trans hu3)
    have HT3 := Lib.hid (HT2.out.keep (hu3.kept S))
    have HS3 := Lib.hid (IntsAt.keep HS2.out (hu3.kept S))
    clear hb3 hu3 HKN
    rw [← HPE.out]
    by_cases hpe : parErr t st (unitL 16) = 0
    · rw [hpe]
      clear hpe
      go_wp2_with fail
      refine (unitR_t w3 16 (by decide) (by decide)).mono ?_
      rintro e w4 ⟨hu4, vu, rfl, hr4⟩
      have hc0 := hu4.cell hc0
      have hc1 := hu4.cell hc1
      have HSR := Lib.hid (scoreR_t Any w4 _ vs vu t st (unitL 16) ((HT3.out.keep (hu4.kept S)).sub fun _ _ _ => trivial) ((IntsAt.keep HS3.out (hu4.kept S)).sub fun _ _ _ => trivial) hr4 HSZ.out)
      have HU4 := Lib.hid (HU3.out.trans hu4)
      clear hu4 hr4
      go_wp2_with fail
      refine HSR.out.mono ?_
      rintro e w5 ⟨hu5, rfl⟩
      have HU5 := Lib.hid (HU4.out.trans hu5)
      clear hu5
      go_wp2_with fail
      go_ret2
      exact ⟨HU5.out, rfl⟩
    · have he1 : (parErr t st (unitL 16) != 0) = true := by simpa using hpe
      have HP := Lib.hid hpe
      clear hpe
      have HSC : Hid (scoreN t st (unitL 16) = 0) := score16 HP.out
      go_wp2_with fail
      go_ret2
      exact ⟨HU3.out, by rw [HSC.out]; rfl⟩
  · have d1 : (treeErr t != 0) = true := by simpa using he
    have HE := Lib.hid he
    clear he
    go_wp2_with fail
    go_ret2
    have hpe : parErr t st (unitL 16) = 1 := by unfold parErr; rw [if_pos HE.out]
    exact ⟨HU2.out, by rw [score16 (by rw [hpe]; decide), hpe]; rfl⟩
end Go.Proofs.Ytflikmllpimaiaa
