/- The contract of parsimony.Verify. -/
import Derived.Test.YtflikmllpimaiaaB25
import Derived.Test.YtflikmllpimaiaaB37
import Derived.Test.YtflikmllpimaiaaS
namespace Go.Proofs.Ytflikmllpimaiaa
open Go.RowKit Go.Deep
def leafBad (t : Tre) (st all : List Int) (i : Nat) : Bool := decide (0 ≤ gi st i) && decide (gi all (gi (leavesL t.ns) i).toNat ≠ gi st i)
def fitsBad (t : Tre) (st all : List Int) : Bool := (List.range (leavesL t.ns).length).any (leafBad t st all)
def verErr (t : Tre) (st : List Int) (cs : List (List Int)) (all : List Int) (rows : List (List Int)) : Int :=
  if parErr t st cs ≠ 0 then parErr t st cs else if knownErr all t.ps.length 0 cs.length ≠ 0 ∨ rows ≠ tabL t st cs then 18 else if fitsBad t st all = true then 18 else if costL t cs all ≠ scoreN t st cs then 18 else 0
theorem known_allok {all : List Int} {n m : Nat} (h : knownErr all n 0 m = 0) : AllOk n m all := by
  unfold knownErr at h
  split at h
  · cases h
  · split at h
    · cases h
    · rename_i h3 h4
      have h5 : stBad all 0 m = false := by simpa using h4
      refine ⟨by omega, fun k hk => ?_⟩
      have := any_false h5 (k := k) (by omega)
      simp at this; omega
theorem allok_known {all : List Int} {n m : Nat} (h : AllOk n m all) : knownErr all n 0 m = 0 := by
  unfold knownErr
  rw [if_neg (fun e => e h.1), if_neg]
  have : stBad all 0 m = false := any_none fun j hj => by have := h.2 j (by rw [← h.1]; exact hj); simp; omega
  rw [this]; simp
theorem fits_of {t : Tre} {st all : List Int} (h : fitsBad t st all = false) : FitsB t st all := fun i hi h0 => by
  have := any_false h hi
  unfold leafBad at this
  simp at this
  exact this h0
theorem fitsBad_of {t : Tre} {st all : List Int} (h : FitsB t st all) : fitsBad t st all = false := any_none fun i hi => by
  unfold leafBad
  by_cases h0 : 0 ≤ gi st i
  · simp [h i hi h0]
  · simp [h0]
set_option maxRecDepth 100000 in
set_option maxHeartbeats 2000000 in
theorem verify_t (S : Nat → Prop) (w : World) (v vs vc va vr : Value) (t : Tre) (st : List Int) (cs : List (List Int)) (all : List Int) (rows : List (List Int)) (hT : TreeAt S w v t) (hS : IntsAt S w vs st) (hC : RowsAt S w vc cs) (hA : IntsAt S w va all) (hR : RowsAt S w vr rows)
    (hz : Sized t st cs) (hal : all.length ≤ 1000000) (hrl : rows.length ≤ 1000000) (hrr : ∀ k, (gl rows k).length ≤ 1000000) :
    Calls Try.prog 28 #[v, vs, vc, va, vr] w fun e w' => StI e w' w (verErr t st cs all rows) := by
  have hfin : verErr t st cs all rows = if parErr t st cs ≠ 0 then parErr t st cs else if knownErr all t.ps.length 0 cs.length ≠ 0 ∨ rows ≠ tabL t st cs then 18 else if fitsBad t st all = true then 18 else if costL t cs all ≠ scoreN t st cs then 18 else 0 := rfl
  have HF := Lib.hid hfin
  obtain ⟨P, N, rfl, hP, hN⟩ := hT
  obtain ⟨pp, pcap, rfl, hpcap, _⟩ := SlAt.open hP
  have hP0 : IntsAt S w (.slice pp t.ps.length pcap) t.ps := hP
  obtain ⟨qS, capS, rfl, hcapS, _⟩ := SlAt.open hS
  have hS : IntsAt S w (.slice qS st.length capS) st := hS
  obtain ⟨qA, capA, rfl, hcapA, _⟩ := SlAt.open hA
  have hA : IntsAt S w (.slice qA all.length capA) all := hA
  obtain ⟨qC, capC, rfl, hcapC, _⟩ := rows_open hC
  obtain ⟨qR, capR, rfl, hcapR, _⟩ := rows_open hR
  have hu := Up.alloc w (.cells #[.slice pp t.ps.length pcap, N] 25)
  have hT1 : TreeAt S (w.alloc (.cells #[.slice pp t.ps.length pcap, N] 25)) (.agg #[.slice pp t.ps.length pcap, N]) t := TreeAt.keep ⟨_, N, rfl, hP0, hN⟩ (hu.kept _)
  have HT := Lib.hid hT1
  have HS := Lib.hid (IntsAt.keep hS (hu.kept _))
  have HC := Lib.hid (hC.keep (hu.kept _))
  have HA := Lib.hid (IntsAt.keep hA (hu.kept _))
  have HR := Lib.hid (hR.keep (hu.kept _))
  have HU := Lib.hid hu
  have HB0 := Lib.hid (box2_0 w (.slice pp t.ps.length pcap) N 25)
  have HB1 := Lib.hid (box2_1 w (.slice pp t.ps.length pcap) N 25)
  have HCK := Lib.hid (pcheck_s S _ _ _ _ t st cs HT.out HS.out HC.out hz)
  have HZ := Lib.hid hz
  have HRR := Lib.hid hrr
  clear hu hT1 hP hP0 hN hS hC hA hR hz hrr hfin
  go_enter Try.func28, Try.ntmps28
  go_wp2_with fail
  generalize w.alloc (.cells #[.slice pp t.ps.length pcap, N] 25) = w1 at *
  refine HCK.out.mono ?_
  rintro e w2 ⟨rfl, hb⟩
  have hu2 : Up w1 w2 := hb
  have HU2 := Lib.hid (HU.out.trans hu2)
  have hc0 := hu2.cell HB0.out
  have hc1 := hu2.cell HB1.out
  have HT2 := Lib.hid (HT.out.keep (hu2.kept _))
  have HS2 := Lib.hid (IntsAt.keep HS.out (hu2.kept _))
  have HC2 := Lib.hid (HC.out.keep (hu2.kept _))
  have HA2 := Lib.hid (IntsAt.keep HA.out (hu2.kept _))
  have HR2 := Lib.hid (HR.out.keep (hu2.kept _))
  clear HU HB0 HB1 HT HS HC HA HR hu2 hb HCK
  by_cases he : parErr t st cs = 0
  · have he1 : (parErr t st cs != 0) = false := by simpa using he
    have HV := Lib.hid (parErr_valid he)
    have HF2 : Hid (verErr t st cs all rows = if knownErr all t.ps.length 0 cs.length ≠ 0 ∨ rows ≠ tabL t st cs then 18 else if fitsBad t st all = true then 18 else if costL t cs all ≠ scoreN t st cs then 18 else 0) := by
      unfold Hid; rw [HF.out, if_neg (fun h => h he)]
    have hps := treeErr_zero HV.out.tree
    obtain ⟨hps1, hps2, hps3, _, _⟩ := hps
    have HPS3 := Lib.hid hps3
    have hms := (matErr_zero HV.out.mat).2.1
    have HK := Lib.hid (known_t S w2 _ all t.ps.length 0 cs.length HA2.out hal)
    clear he HF hps3
    go_wp2_with fail
    refine HK.out.mono ?_
    rintro e w3 ⟨rfl, hb⟩
    have hu3 : Up w2 w3 := hb
    have HU3 := Lib.hid (HU2.out.trans hu3)
    have hd0 := hu3.cell hc0
    have hd1 := hu3.cell hc1
    have HT3 := Lib.hid (HT2.out.keep (hu3.kept _))
    have HS3 := Lib.hid (IntsAt.keep HS2.out (hu3.kept _))
    have HC3 := Lib.hid (HC2.out.keep (hu3.kept _))
    have HA3 := Lib.hid (IntsAt.keep HA2.out (hu3.kept _))
    have HR3 := Lib.hid (HR2.out.keep (hu3.kept _))
    clear hb hu3 HK HU2 hc0 hc1 HT2 HS2 HC2 HA2 HR2
    by_cases hk : knownErr all t.ps.length 0 cs.length = 0
    · have hk1 : (knownErr all t.ps.length 0 cs.length != 0) = false := by simpa using hk
      have HAO := Lib.hid (known_allok hk)
      have HF3 : Hid (verErr t st cs all rows = if rows ≠ tabL t st cs then 18 else if fitsBad t st all = true then 18 else if costL t cs all ≠ scoreN t st cs then 18 else 0) := by
        unfold Hid; rw [HF2.out]; simp only [hk, ne_eq, not_true_eq_false, false_or]
      have HTB := Lib.hid (table_v S w3 _ _ _ t st cs HT3.out HS3.out HC3.out HZ.out.2.2.1 HV.out)
      clear hk HF2
      go_wp2_with fail
      refine HTB.out.mono ?_
      rintro e w4 ⟨hb, tv, rfl, htv⟩
      have hu4 : Up w3 w4 := hb
      have HU4 := Lib.hid (HU3.out.trans hu4)
      have he0 := hu4.cell hd0
      have he1' := hu4.cell hd1
      have HT4 := Lib.hid (HT3.out.keep (hu4.kept _))
      have HS4 := Lib.hid (IntsAt.keep HS3.out (hu4.kept _))
      have HC4 := Lib.hid (HC3.out.keep (hu4.kept _))
      have HA4 := Lib.hid (IntsAt.keep HA3.out (hu4.kept _))
      have HR4 := Lib.hid (HR3.out.keep (hu4.kept _))
      have HEQ := Lib.hid (equalRows_t S Any w4 _ _ rows (tabL t st cs) HR4.out htv hrl (by rw [tabL_len]; omega) HRR.out (fun k => by
        by_cases h : k < t.ps.length
        · rw [gl_tabL _ _ _ h, tabRow_len]; omega
        · simp [gl, tabL, h]))
      clear hb hu4 HTB HU3 hd0 hd1 HT3 HS3 HC3 HA3 HR3 htv
      by_cases hrw : rows = tabL t st cs
      · have hrt : decide (rows = tabL t st cs) = true := decide_eq_true hrw
        rw [hrt] at HEQ
        have HRW := Lib.hid hrw
        have HF4 : Hid (verErr t st cs all rows = if fitsBad t st all = true then 18 else if costL t cs all ≠ scoreN t st cs then 18 else 0) := by
          unfold Hid; rw [HF3.out, if_neg (fun h => h hrw)]
        clear hrw hrt HF3
        go_wp2_with fail
        refine HEQ.out.mono ?_
        rintro e w5 ⟨rfl, n5, rfl⟩
        have hu5 := Up.drewN w4 n5
        generalize w4.drewN n5 = w5 at *
        have HU5 := Lib.hid (HU4.out.trans hu5)
        have hf0 := hu5.cell he0
        have hf1 := hu5.cell he1'
        have HT5 := Lib.hid (HT4.out.keep (hu5.kept _))
        have HS5 := Lib.hid (IntsAt.keep HS4.out (hu5.kept _))
        have HC5 := Lib.hid (HC4.out.keep (hu5.kept _))
        have HA5 := Lib.hid (IntsAt.keep HA4.out (hu5.kept _))
        have HR5 := Lib.hid (HR4.out.keep (hu5.kept _))
        have HLV := Lib.hid (leaves_t S w5 _ t HT5.out (by omega) (by rw [HPS3.out]; omega) HZ.out.2.2.1)
        clear hu5 HEQ HU4 he0 he1' HT4 HS4 HC4 HA4 HR4
        go_wp2_with fail
        refine HLV.out.mono ?_
        rintro e w6 ⟨hb, ⟨h1, _⟩ | ⟨_, lv, rfl, hlv⟩⟩
        · exact absurd HV.out.tree h1
        obtain ⟨lp, lc, rfl, _, _⟩ := SlAt.open hlv
        have hu6 : Up w5 w6 := hb
        have HU6 := Lib.hid (HU5.out.trans hu6)
        have HG0 := Lib.hid (hu6.cell hf0)
        have HG1 := Lib.hid (hu6.cell hf1)
        have HT6 := Lib.hid (HT5.out.keep (hu6.kept _))
        have HS6 := Lib.hid (IntsAt.keep HS5.out (hu6.kept _))
        have HC6 := Lib.hid (HC5.out.keep (hu6.kept _))
        have HA6 := Lib.hid (IntsAt.keep HA5.out (hu6.kept _))
        have HR6 := Lib.hid (HR5.out.keep (hu6.kept _))
        have HL6 : Hid (IntsAt (fun b => w5.heap.size ≤ b) w6 (.slice lp (leavesL t.ns).length lc) (leavesL t.ns)) := hlv
        have hll : (leavesL t.ns).length ≤ 64 := by have := leavesL_len t.ns; have := HPS3.out; omega
        clear hb hu6 HU5 hf0 hf1 HT5 HS5 HC5 HA5 HR5 hlv HLV
        go_wp2_with fail
        go_loopw [14, 15, 49] (fun _ _ i wr => ∃ k : Nat, k ≤ (leavesL t.ns).length ∧ i = .int .i64 k ∧ Hid (QD w6 wr) ∧ Hid (∀ j, j < k → leafBad t st all j = false)) (fun _ _ i _ => (leavesL t.ns).length - (intOf i).toNat)
        case atStart => exact ⟨0, Nat.zero_le _, rfl, QD.refl _, fun j hj => absurd hj (Nat.not_lt_zero _)⟩
        case round =>
          obtain ⟨k, hk, rfl, hQ, hd⟩ := hrel
          by_cases hlt : k < (leavesL t.ns).length
          · obtain ⟨lb, lo, rfl, hcl⟩ := ints_get (IntsAt.keep HL6.out (hQ.out.kept _)) hlt
            obtain ⟨q, hq, hqn, _⟩ := leaf_nat hlt
            have hlbd : leafBad t st all k = (decide (0 ≤ gi st k) && decide (gi all q ≠ gi st k)) := by unfold leafBad; rw [hq, Int.toNat_natCast]
            have HLB := Lib.hid hlbd
            rw [hq] at hcl
            have hqa : q < all.length := by rw [HAO.out.1, ← HPS3.out]; exact hqn
            have hks : k < st.length := by rw [HV.out.len]; exact hlt
            obtain ⟨sb, so, rfl, hcs⟩ := ints_get (IntsAt.keep HS6.out (hQ.out.kept _)) hks
            obtain ⟨ab, ao, rfl, hca⟩ := ints_get (IntsAt.keep HA6.out (hQ.out.kept _)) hqa
            have i1 : (0 : Int) ≤ (k : Int) := by omega
            have i2 : (k : Int) < (st.length : Int) := by omega
            have i3 : (0 : Int) ≤ (q : Int) := by omega
            have i4 : (q : Int) < (all.length : Int) := by omega
            generalize gi st k = s at *
            generalize gi all q = a at *
            clear hq hlbd
            by_cases h0 : 0 ≤ s
            · have h01 : decide (0 ≤ s) = true := by simpa using h0
              by_cases has : a = s
              · have has1 : (a != s) = false := by simp [has]
                have HG : Hid (leafBad t st all k = false) := by unfold Hid; rw [HLB.out, has]; simp
                clear has
                go_wp2_with fail
                go_quiet (fail)
                go_wp2_with fail
                go_roundw
                case rel => exact ⟨k + 1, by omega, by go_num, hQ.out.drewN nq, fun j hj => if e : j = k then by subst e; exact HG.out else hd.out j (by omega)⟩
                case measure => simp [intOf]; omega
              · have has1 : (a != s) = true := by simpa using has
                have HG : Hid (fitsBad t st all = true) := any_at hlt (by rw [HLB.out]; simp [h0, has])
                clear has
                go_wp2_with fail
                go_quiet (fail)
                go_wp2_with fail
                go_ret
                exact ⟨ret_int (by rw [HF4.out, if_pos HG.out]), HU6.out.trans (hQ.out.drewN nq).up⟩
            · have h01 : decide (0 ≤ s) = false := by simpa using h0
              have HG : Hid (leafBad t st all k = false) := by unfold Hid; rw [HLB.out]; simp [h0]
              go_wp2_with fail
              go_quiet (fail)
              go_wp2_with fail
              go_roundw
              case rel => exact ⟨k + 1, by omega, by go_num, hQ.out.drewN nq, fun j hj => if e : j = k then by subst e; exact HG.out else hd.out j (by omega)⟩
              case measure => simp [intOf]; omega
          · obtain rfl : k = (leavesL t.ns).length := by omega
            have HG : Hid (fitsBad t st all = false) := any_none hd.out
            have HF5 : Hid (verErr t st cs all rows = if costL t cs all ≠ scoreN t st cs then 18 else 0) := by unfold Hid; rw [HF4.out, HG.out]; simp
            have hu7 := hQ.out.up
            obtain ⟨wo, rfl⟩ : ∃ wo : World, wo = wr := ⟨_, rfl⟩
            have HR7 := HR6.out.keep (hu7.kept _)
            have hrl0 : rows.length = t.ps.length := by rw [HRW.out, tabL_len]
            obtain ⟨rb, ro, rq, rc, rfl, hrc, hri⟩ := rows_get HR7 (k := 0) (by omega)
            have hgl : gl rows 0 = tabRow t st cs 0 := by rw [HRW.out, gl_tabL _ _ _ hps1]
            rw [hgl] at hrc hri
            rw [Nat.add_zero] at hrc
            rw [hrl0]
            have HLS := Lib.hid (least_t S wo _ _ hri (by rw [tabRow_len]; omega))
            have hg0 := hu7.cell HG0.out
            have hg1 := hu7.cell HG1.out
            have HU7 := Lib.hid (HU6.out.trans hu7)
            have hsc : (bestK (fun _ => 0) (gi (tabRow t st cs 0)) (tabRow t st cs 0).length).1 = scoreN t st cs := by rw [tabRow_len, scoreN_eq HV.out]
            have HSC := Lib.hid hsc
            have hpos : (0 : Int) < (t.ps.length : Int) := by omega
            have HCO := Lib.hid (cost_t S wo _ _ _ t all cs (HT6.out.keep (hu7.kept _)) (IntsAt.keep HA6.out (hu7.kept _)) (HC6.out.keep (hu7.kept _)) hps2 HAO.out (matErr_zero HV.out.mat).2.2.1 (matErr_zero HV.out.mat).2.2.2.1)
            clear hlt hk hu7 HR7 hgl hri hsc hrl0
            go_wp2_with fail
            refine HLS.out.mono ?_
            rintro e w8 ⟨rfl, rfl⟩
            unfold pairOf
            rw [HSC.out]
            go_wp2_with fail
            refine HCO.out.mono ?_
            rintro e w9 ⟨rfl, hb⟩
            have HU9 := Lib.hid (HU7.out.trans (show Up wo w9 from hb))
            clear hb HCO HLS HSC
            generalize costL t cs all = c1 at *
            generalize scoreN t st cs = c2 at *
            by_cases hc : c1 = c2
            · have hc1' : (c1 != c2) = false := by simp [hc]
              have HCC := Lib.hid hc
              clear hc
              go_wp2_with fail
              go_ret
              exact ⟨ret_int (by rw [HF5.out, if_neg (fun h => h HCC.out)]), HU9.out⟩
            · have hc1' : (c1 != c2) = true := by simpa using hc
              go_wp2_with fail
              go_ret
              exact ⟨ret_int (by rw [HF5.out, if_pos hc]), HU9.out⟩
      · have hrt : decide (rows = tabL t st cs) = false := decide_eq_false hrw
        rw [hrt] at HEQ
        have HRW := Lib.hid hrw
        clear hrw hrt
        go_wp2_with fail
        refine HEQ.out.mono ?_
        rintro e w5 ⟨rfl, n5, rfl⟩
        have HU5 := Lib.hid (HU4.out.trans (Up.drewN w4 n5))
        go_wp2_with fail
        go_ret
        exact ⟨ret_int (by rw [HF3.out, if_pos HRW.out]), HU5.out⟩
    · have hk1 : (knownErr all t.ps.length 0 cs.length != 0) = true := by simpa using hk
      have HKK := Lib.hid hk
      clear hk
      go_wp2_with fail
      go_ret
      exact ⟨ret_int (by rw [HF2.out, if_pos (.inl HKK.out)]), HU3.out⟩
  · have he1 : (parErr t st cs != 0) = true := by simpa using he
    have HE := Lib.hid he
    clear he
    go_wp2_with fail
    go_ret
    exact ⟨ret_int (by rw [HF.out, if_pos HE.out]), HU2.out⟩
end Go.Proofs.Ytflikmllpimaiaa
