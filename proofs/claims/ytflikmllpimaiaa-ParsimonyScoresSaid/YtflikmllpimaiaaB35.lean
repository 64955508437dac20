/- The walk of ParsimonyAssign. -/
import Derived.Test.YtflikmllpimaiaaB30
import Derived.Test.YtflikmllpimaiaaB32
import Derived.Test.YtflikmllpimaiaaS
namespace Go.Proofs.Ytflikmllpimaiaa
open Go.RowKit Go.Deep
set_option maxRecDepth 100000 in
set_option maxHeartbeats 1000000 in
theorem fits_t (S : Nat → Prop) (w : World) (v vs va : Value) (t : Tre) (st all : List Int) (hT : TreeAt S w v t) (hS : IntsAt S w vs st) (hA : IntsAt S w va all) (he : treeErr t = 0) (hzs : ∀ k, (gs t.ns k).size ≤ 70000)
    (hal : all.length = t.ps.length) (hsl : st.length = (leavesL t.ns).length) (hf : FitsB t st all) :
    Calls Try.prog 17 #[v, vs, va] w (BoPost w true) := by
  obtain ⟨t1, t2, t3, _, _⟩ := treeErr_zero he
  obtain ⟨P, N, rfl, hP, hN⟩ := hT
  obtain ⟨pp, pcap, rfl, hpcap, _⟩ := SlAt.open hP
  have hP0 : IntsAt S w (.slice pp t.ps.length pcap) t.ps := hP
  obtain ⟨qS, capS, rfl, hcapS, _⟩ := SlAt.open hS
  have hS : IntsAt S w (.slice qS st.length capS) st := hS
  obtain ⟨qA, capA, rfl, hcapA, _⟩ := SlAt.open hA
  have hA : IntsAt S w (.slice qA all.length capA) all := hA
  have hu := Up.alloc w (.cells #[.slice pp t.ps.length pcap, N] 25)
  have hT1 : TreeAt S (w.alloc (.cells #[.slice pp t.ps.length pcap, N] 25)) (.agg #[.slice pp t.ps.length pcap, N]) t := TreeAt.keep ⟨_, N, rfl, hP0, hN⟩ (hu.kept _)
  have HLV := Lib.hid (leaves_t S _ _ t hT1 (by omega) (by omega) hzs)
  have HS := Lib.hid (IntsAt.keep hS (hu.kept _))
  have HA := Lib.hid (IntsAt.keep hA (hu.kept _))
  have HU := Lib.hid hu
  have HB0 := Lib.hid (box2_0 w (.slice pp t.ps.length pcap) N 25)
  have HE := Lib.hid he
  have HAL := Lib.hid hal
  have HSL := Lib.hid hsl
  have HT3 := Lib.hid t3
  clear hu hT1 hP hP0 hN hS hA he hal hsl t3 hzs
  go_enter Try.func17, Try.ntmps17
  go_wp2_with fail
  generalize w.alloc (.cells #[.slice pp t.ps.length pcap, N] 25) = w1 at *
  refine HLV.out.mono ?_
  rintro e w2 ⟨hb, ⟨h1, _⟩ | ⟨_, lv, rfl, hlv⟩⟩
  · exact absurd HE.out h1
  obtain ⟨lp, lc, rfl, _, _⟩ := SlAt.open hlv
  have hu2 : Up w1 w2 := hb
  have hlv : IntsAt (fun b => w1.heap.size ≤ b) w2 (.slice lp (leavesL t.ns).length lc) (leavesL t.ns) := hlv
  have hc0 := hu2.cell HB0.out
  have HU2 := Lib.hid (HU.out.trans hu2)
  have HL2 := Lib.hid hlv
  have HS2 := Lib.hid (IntsAt.keep HS.out (hu2.kept _))
  have HA2 := Lib.hid (IntsAt.keep HA.out (hu2.kept _))
  have hal1 : ((all.length : Int) != t.ps.length) = false := by rw [HAL.out]; simp
  have hsl1 : (((leavesL t.ns).length : Int) != st.length) = false := by rw [HSL.out]; simp
  have hll : (leavesL t.ns).length ≤ 64 := by have := leavesL_len t.ns; have := HT3.out; omega
  clear hb hu2 hlv HU HB0 HS HA HLV
  go_wp2_with fail
  go_loopw [9, 10, 35] (fun _ _ i wr => ∃ k n : Nat, k ≤ (leavesL t.ns).length ∧ i = .int .i64 k ∧ wr = w2.drewN n) (fun _ _ i _ => (leavesL t.ns).length - (intOf i).toNat)
  case atStart => exact ⟨0, 0, Nat.zero_le _, rfl, rfl⟩
  case round =>
    obtain ⟨k, n, hk, rfl, rfl⟩ := hrel
    by_cases hlt : k < (leavesL t.ns).length
    · obtain ⟨lb, lo, rfl, hcl⟩ := ints_get HL2.out hlt
      obtain ⟨q, hq, hqn, _⟩ := leaf_nat hlt
      have hfk := hf k hlt
      rw [hq, Int.toNat_natCast] at hfk
      rw [hq] at hcl
      have hqa : q < all.length := by rw [HAL.out, ← HT3.out]; exact hqn
      have hks : k < st.length := by rw [HSL.out]; exact hlt
      obtain ⟨sb, so, rfl, hcs⟩ := ints_get HS2.out hks
      obtain ⟨ab, ao, rfl, hca⟩ := ints_get HA2.out hqa
      have i1 : (0 : Int) ≤ (k : Int) := by omega
      have i2 : (k : Int) < (st.length : Int) := by omega
      have i3 : (0 : Int) ≤ (q : Int) := by omega
      have i4 : (q : Int) < (all.length : Int) := by omega
      have i5 : decide ((q : Int) < 0) = false := by simp
      have i6 : decide ((all.length : Int) ≤ (q : Int)) = false := by simp; omega
      have i6' : decide (all.length ≤ q) = false := by simp; omega
      generalize gi st k = s at *
      generalize gi all q = a at *
      by_cases h0 : 0 ≤ s
      · have h01 : decide (0 ≤ s) = true := by simpa using h0
        have has : (a != s) = false := by simp [hfk h0]
        clear hq hfk hf
        go_wp2_with fail
        go_quiet (fail)
        go_wp2_with fail
        go_roundw
        case rel => exact ⟨k + 1, n + nq, by omega, by go_num, rfl⟩
        case measure => simp [intOf]; omega
      · have h01 : decide (0 ≤ s) = false := by simpa using h0
        clear hq hfk hf
        go_wp2_with fail
        go_quiet (fail)
        go_wp2_with fail
        go_roundw
        case rel => exact ⟨k + 1, n + nq, by omega, by go_num, rfl⟩
        case measure => simp [intOf]; omega
    · obtain rfl : k = (leavesL t.ns).length := by omega
      clear hlt hf
      go_wp2_with fail
      go_ret
      exact ⟨rfl, HU2.out.trans (Up.drewN w2 n)⟩
set_option maxRecDepth 100000 in
set_option maxHeartbeats 2000000 in
theorem assign_law (w : World) (v vs vc : Value) (t : Tre) (st : List Int) (cs : List (List Int)) (hT : TreeAt Any w v t) (hS : IntsAt Any w vs st) (hC : RowsAt Any w vc cs) (hz : Big t st cs) :
    Calls Try.prog 4 #[v, vs, vc] w (BoPost w true) := by
  obtain ⟨P, N, rfl, hP, hN⟩ := hT
  have hu := Up.alloc w (.cells #[P, N] 25)
  have hT1 : TreeAt Any (w.alloc (.cells #[P, N] 25)) (.agg #[P, N]) t := TreeAt.keep ⟨P, N, rfl, hP, hN⟩ (hu.kept _)
  have HT := Lib.hid hT1
  have HS := Lib.hid (IntsAt.keep hS (hu.kept _))
  have HC := Lib.hid (hC.keep (hu.kept _))
  have HU := Lib.hid hu
  have HB0 := Lib.hid (box2_0 w P N 25)
  have HB1 := Lib.hid (box2_1 w P N 25)
  have HFI := Lib.hid (fine_t Any _ _ _ _ t st cs HT.out HS.out HC.out hz)
  clear hu hT1 hP hN hS hC hz
  go_enter Try.func4, Try.ntmps4
  go_wp2_with fail
  generalize w.alloc (.cells #[P, N] 25) = w1 at *
  refine HFI.out.mono ?_
  rintro e w2 ⟨rfl, hu2⟩
  have HU2 := Lib.hid (HU.out.trans hu2)
  have hc0 := hu2.cell HB0.out
  have hc1 := hu2.cell HB1.out
  have HT2 := Lib.hid (HT.out.keep (hu2.kept _))
  have HS2 := Lib.hid (IntsAt.keep HS.out (hu2.kept _))
  have HC2 := Lib.hid (HC.out.keep (hu2.kept _))
  clear HU HB0 HB1 HT HS HC hu2 HFI
  cases hf : fineB t st cs
  · clear hf
    go_wp2_with fail
    refine (awake_t w2).mono ?_
    rintro e w3 ⟨rfl, hu3⟩
    have HU3 := Lib.hid (HU2.out.trans hu3)
    clear hu3
    go_wp2_with fail
    go_ret
    exact ⟨rfl, HU3.out⟩
  · obtain ⟨hg, hv⟩ := fine_sized hf
    obtain ⟨hsz, _⟩ := great_sized hg
    have HV := Lib.hid hv
    have HSZ := Lib.hid hsz
    clear hf hg hv hsz
    go_wp2_with fail
    refine (assign_t Any w2 _ _ _ t st cs HT2.out HS2.out HC2.out HSZ.out).mono ?_
    rintro e w3 ⟨hu3, av, rfl, hav⟩
    have HU3 := Lib.hid (HU2.out.trans hu3)
    have hd0 := hu3.cell hc0
    have hd1 := hu3.cell hc1
    have HT3 := Lib.hid (HT2.out.keep (hu3.kept _))
    have HS3 := Lib.hid (IntsAt.keep HS2.out (hu3.kept _))
    have HC3 := Lib.hid (HC2.out.keep (hu3.kept _))
    have hasg : assignN t st cs = asgL t st cs := by unfold assignN; rw [if_pos HV.out.par]
    rw [hasg] at hav
    have HA3 : Hid (IntsAt Any w3 av (asgL t st cs)) := IntsAt.sub hav fun _ _ _ => trivial
    clear hu3 HU2 hc0 hc1 HT2 HS2 HC2 hav hasg
    have hp := HV.out.par
    rw [hp]
    clear hp
    go_wp2_with fail
    refine (score_t Any w3 _ _ _ t st cs HT3.out HS3.out HC3.out HSZ.out).mono ?_
    rintro e w4 ⟨hu4, rfl⟩
    have HU4 := Lib.hid (HU3.out.trans hu4)
    have he0 := hu4.cell hd0
    have he1 := hu4.cell hd1
    have HT4 := Lib.hid (HT3.out.keep (hu4.kept _))
    have HS4 := Lib.hid (IntsAt.keep HS3.out (hu4.kept _))
    have HC4 := Lib.hid (HC3.out.keep (hu4.kept _))
    have HA4 := Lib.hid (IntsAt.keep HA3.out (hu4.kept _))
    clear hu4 HU3 hd0 hd1 HT3 HS3 HC3 HA3
    have hp := HV.out.par
    rw [hp]
    clear hp
    have hsz2 : Sized t (asgL t st cs) cs := by
      obtain ⟨a1, a2, a3, a4, a5, a6⟩ := HSZ.out
      exact ⟨a1, a2, a3, by rw [asgL_len]; exact a1, a5, a6⟩
    have HCO := Lib.hid (pcost_t Any w4 _ _ _ t (asgL t st cs) cs HT4.out HA4.out HC4.out hsz2)
    clear hsz2
    go_wp2_with fail
    refine HCO.out.mono ?_
    rintro e w5 ⟨hu5, rfl⟩
    have HU5 := Lib.hid (HU4.out.trans hu5)
    have hf0 := hu5.cell he0
    have hf1 := hu5.cell he1
    have HT5 := Lib.hid (HT4.out.keep (hu5.kept _))
    have HS5 := Lib.hid (IntsAt.keep HS4.out (hu5.kept _))
    have HA5 := Lib.hid (IntsAt.keep HA4.out (hu5.kept _))
    clear hu5 HU4 he0 he1 HT4 HS4 HC4 HA4 HCO
    have hce : costErr t (asgL t st cs) cs = 0 := AllOk.err HV.out.tree HV.out.mat (asg_ok HV.out)
    have hcn : costN t (asgL t st cs) cs = scoreN t st cs := by unfold costN; rw [if_pos hce]; exact asg_cost HV.out
    rw [hce, hcn]
    clear hce hcn
    have hn0 := score_nonneg HV.out
    have HFT := Lib.hid (fits_t Any w5 _ _ _ t st (asgL t st cs) HT5.out HS5.out HA5.out HV.out.tree HSZ.out.2.2.1 (asgL_len t st cs) HV.out.len (asg_fits HV.out))
    generalize scoreN t st cs = n1 at *
    go_wp2_with fail
    refine HFT.out.mono ?_
    rintro e w6 ⟨rfl, hu6⟩
    have HU6 := Lib.hid (HU5.out.trans hu6)
    clear hu6 HFT HU5
    go_wp2_with fail
    refine (awake_t w6).mono ?_
    rintro e w7 ⟨rfl, hu7⟩
    have HU7 := Lib.hid (HU6.out.trans hu7)
    clear hu7
    go_wp2_with fail
    go_ret
    exact ⟨rfl, HU7.out⟩
end Go.Proofs.Ytflikmllpimaiaa
