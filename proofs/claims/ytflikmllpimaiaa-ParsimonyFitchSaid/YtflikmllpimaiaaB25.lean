/- The contract of parsimony.Cost. -/
import Derived.Test.YtflikmllpimaiaaB24
namespace Go.Proofs.Ytflikmllpimaiaa
open Go.RowKit Go.Deep
def costErr (t : Tre) (all : List Int) (cs : List (List Int)) : Int := if treeErr t ≠ 0 then 1 else if matErr cs ≠ 0 then matErr cs else knownErr all t.ps.length 0 cs.length
def costN (t : Tre) (all : List Int) (cs : List (List Int)) : Int := if costErr t all cs = 0 then costL t cs all else 0
theorem costErr_zero {t : Tre} {all : List Int} {cs : List (List Int)} (h : costErr t all cs = 0) : treeErr t = 0 ∧ matErr cs = 0 ∧ AllOk t.ps.length cs.length all := by
  unfold costErr at h
  by_cases h1 : treeErr t = 0
  · rw [if_neg (fun e => e h1)] at h
    by_cases h2 : matErr cs = 0
    · rw [if_neg (fun e => e h2)] at h
      refine ⟨h1, h2, ?_⟩
      unfold knownErr at h
      split at h
      · cases h
      · split at h
        · cases h
        · rename_i h3 h4
          have h5 : stBad all 0 cs.length = false := by simpa using h4
          refine ⟨by omega, fun k hk => ?_⟩
          have := any_false h5 (k := k) (by omega)
          simp at this; omega
    · rw [if_pos h2] at h; exact absurd h h2
  · rw [if_pos h1] at h; cases h
theorem AllOk.err {t : Tre} {all : List Int} {cs : List (List Int)} (h1 : treeErr t = 0) (h2 : matErr cs = 0) (h : AllOk t.ps.length cs.length all) : costErr t all cs = 0 := by
  unfold costErr knownErr
  rw [if_neg (fun e => e h1), if_neg (fun e => e h2), if_neg (fun e => e h.1), if_neg]
  have : stBad all 0 cs.length = false := any_none fun j hj => by have := h.2 j (by rw [← h.1]; exact hj); simp; omega
  rw [this]; simp
def CoPost (w : World) (t : Tre) (all : List Int) (cs : List (List Int)) (e : Ending) (w' : World) : Prop :=
  Up w w' ∧ e = .returned (.tuple #[.int .i64 (costN t all cs), .int .i64 (costErr t all cs)])
set_option maxRecDepth 100000 in
set_option maxHeartbeats 800000 in
theorem pcost_t (S : Nat → Prop) (w : World) (v va vc : Value) (t : Tre) (all : List Int) (cs : List (List Int)) (hT : TreeAt S w v t) (hA : IntsAt S w va all) (hC : RowsAt S w vc cs) (hz : Sized t all cs) :
    Calls Try.prog 16 #[v, va, vc] w (CoPost w t all cs) := by
  obtain ⟨hz1, hz2, hz3, hz4, hz5, hz6⟩ := hz
  have hfin : costErr t all cs = if treeErr t ≠ 0 then 1 else if matErr cs ≠ 0 then matErr cs else knownErr all t.ps.length 0 cs.length := rfl
  have HF := Lib.hid hfin
  obtain ⟨P, N, rfl, hP, hN⟩ := hT
  obtain ⟨pp, pcap, rfl, hpcap, _⟩ := SlAt.open hP
  have hP0 : IntsAt S w (.slice pp t.ps.length pcap) t.ps := hP
  obtain ⟨qC, capC, rfl, _, _⟩ := rows_open hC
  have hu := Up.alloc w (.cells #[.slice pp t.ps.length pcap, N] 25)
  have hT1 : TreeAt S (w.alloc (.cells #[.slice pp t.ps.length pcap, N] 25)) (.agg #[.slice pp t.ps.length pcap, N]) t := TreeAt.keep ⟨_, N, rfl, hP0, hN⟩ (hu.kept S)
  have hk := check_t S _ _ t hT1 hz1 hz2 hz3
  have hb0 := box2_0 w (.slice pp t.ps.length pcap) N 25
  have hb1 := box2_1 w (.slice pp t.ps.length pcap) N 25
  have HK := Lib.hid hk
  have HU := Lib.hid hu
  have HB0 := Lib.hid hb0
  have HB1 := Lib.hid hb1
  have HT := Lib.hid hT1
  have HA := Lib.hid (IntsAt.keep hA (hu.kept S))
  have HC := Lib.hid (hC.keep (hu.kept S))
  have HZ6 := Lib.hid hz6
  clear hk hu hb0 hb1 hT1 hA hC hP hP0 hN hfin hz3 hz6
  go_enter Try.func16, Try.ntmps16
  go_wp2_with fail
  generalize w.alloc (.cells #[.slice pp t.ps.length pcap, N] 25) = w1 at *
  refine HK.out.mono ?_
  rintro e w2 ⟨rfl, hb⟩
  have hu2 : Up w1 w2 := hb
  have hc0 := hu2.cell HB0.out
  have hc1 := hu2.cell HB1.out
  have HU2 := Lib.hid (HU.out.trans hu2)
  have HT2 := Lib.hid (HT.out.keep (hu2.kept S))
  have HA2 := Lib.hid (IntsAt.keep HA.out (hu2.kept S))
  have HC2 := Lib.hid (HC.out.keep (hu2.kept S))
  clear hb hu2 HK HU HB0 HB1 HT HA HC
  by_cases he : treeErr t = 0
  · have he1 : (treeErr t != 0) = false := by simpa using he
    have HE := Lib.hid he
    have HM := Lib.hid (matrix_t S w2 _ cs HC2.out hz5 HZ6.out)
    clear he
    go_wp2_with fail
    refine HM.out.mono ?_
    rintro e w3 ⟨rfl, hb⟩
    have hu3 : Up w2 w3 := hb
    have hd0 := hu3.cell hc0
    have hd1 := hu3.cell hc1
    have HU3 := Lib.hid (HU2.out.trans hu3)
    have HT3 := Lib.hid (HT2.out.keep (hu3.kept S))
    have HA3 := Lib.hid (IntsAt.keep HA2.out (hu3.kept S))
    have HC3 := Lib.hid (HC2.out.keep (hu3.kept S))
    clear hb hu3 HM hc0 hc1 HU2 HT2 HA2 HC2 HZ6
    by_cases hm : matErr cs = 0
    · have hm1 : (matErr cs != 0) = false := by simpa using hm
      have HMM := Lib.hid hm
      have HKN := Lib.hid (known_t S w3 _ all t.ps.length 0 cs.length HA3.out hz4)
      clear hm
      go_wp2_with fail
      refine HKN.out.mono ?_
      rintro e w4 ⟨rfl, hb⟩
      have hu4 : Up w3 w4 := hb
      have hf0 := hu4.cell hd0
      have hf1 := hu4.cell hd1
      have HU4 := Lib.hid (HU3.out.trans hu4)
      have HT4 := Lib.hid (HT3.out.keep (hu4.kept S))
      have HA4 := Lib.hid (IntsAt.keep HA3.out (hu4.kept S))
      have HC4 := Lib.hid (HC3.out.keep (hu4.kept S))
      have HKE : Hid (costErr t all cs = knownErr all t.ps.length 0 cs.length) := by unfold Hid; rw [HF.out, if_neg (by rw [HE.out]; simp), if_neg (by rw [HMM.out]; simp)]
      clear hb hu4 HKN hd0 hd1 HU3 HT3 HA3 HC3
      rw [← HKE.out]
      by_cases hn : costErr t all cs = 0
      · have hn1 : (costErr t all cs != 0) = false := by simpa using hn
        have hok := (costErr_zero hn).2.2
        have hme := matErr_zero HMM.out
        have hte := treeErr_zero HE.out
        have HCO := Lib.hid (cost_t S w4 _ _ _ t all cs HT4.out HA4.out HC4.out hte.2.1 hok hme.2.2.1 hme.2.2.2.1)
        have HN := Lib.hid hn
        clear hn hok hme hte
        go_wp2_with fail
        refine HCO.out.mono ?_
        rintro e w5 ⟨rfl, hb⟩
        have HU5 := Lib.hid (HU4.out.trans (show Up w4 w5 from hb))
        clear hb
        go_wp2_with fail
        go_ret2
        exact ⟨HU5.out, by unfold costN; rw [if_pos HN.out, HN.out]; rfl⟩
      · have hn1 : (costErr t all cs != 0) = true := by simpa using hn
        have HN := Lib.hid hn
        clear hn
        go_wp2_with fail
        go_ret2
        exact ⟨HU4.out, by unfold costN; rw [if_neg HN.out]; rfl⟩
    · have hm1 : (matErr cs != 0) = true := by simpa using hm
      have HMM := Lib.hid hm
      clear hm
      go_wp2_with fail
      go_ret2
      refine ⟨HU3.out, ?_⟩
      have h : costErr t all cs = matErr cs := by rw [HF.out, if_neg (by rw [HE.out]; simp), if_pos HMM.out]
      unfold costN
      rw [h, if_neg HMM.out]; rfl
  · have he1 : (treeErr t != 0) = true := by simpa using he
    have HE := Lib.hid he
    clear he
    go_wp2_with fail
    go_ret2
    refine ⟨HU2.out, ?_⟩
    have h : costErr t all cs = 1 := by rw [HF.out, if_pos HE.out]
    unfold costN
    rw [h]; rfl
end Go.Proofs.Ytflikmllpimaiaa
