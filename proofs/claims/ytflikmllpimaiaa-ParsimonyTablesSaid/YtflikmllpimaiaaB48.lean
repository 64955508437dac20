/- The contract of the reference's Verify. -/
import Derived.Test.YtflikmllpimaiaaB38
import Derived.Test.YtflikmllpimaiaaB45
import Derived.Test.YtflikmllpimaiaaB47
import Derived.Deep.RegionHeld3
namespace Go.Proofs.Ytflikmllpimaiaa
open Go.RowKit Go.Deep
set_option maxRecDepth 100000 in
set_option maxHeartbeats 4000000 in
theorem verifyR_t (S : Nat → Prop) (w : World) (v vs vc va vr : Value) (t : Tre) (st : List Int) (cs : List (List Int)) (all : List Int) (rows : List (List Int)) (hT : TreeAt S w v t) (hS : IntsAt S w vs st) (hC : RowsAt S w vc cs) (hA : IntsAt S w va all) (hR : RowsAt S w vr rows)
    (hz : Sized t st cs) (hal : all.length ≤ 1000000) (hrl : rows.length ≤ 1000000) (hrr : ∀ k, (gl rows k).length ≤ 1000000) :
    Calls Try.prog 29 #[v, vs, vc, va, vr] w fun e w' => StI e w' w (verErr t st cs all rows) := by
  have hfin : verErr t st cs all rows = if parErr t st cs ≠ 0 then parErr t st cs else if knownErr all t.ps.length 0 cs.length ≠ 0 ∨ rows ≠ tabL t st cs then 18 else if fitsBad t st all = true then 18 else if costL t cs all ≠ scoreN t st cs then 18 else 0 := rfl
  have HF := Lib.hid hfin
  obtain ⟨P, N, rfl, hP, hN⟩ := hT
  obtain ⟨pp, pcap, rfl, hpcap, _⟩ := SlAt.open hP
  have hP0 : IntsAt S w (.slice pp t.ps.length pcap) t.ps := hP
  obtain ⟨qS, capS, rfl, hcapS, _⟩ := SlAt.open hS
  have hS : IntsAt S w (.slice qS st.length capS) st := hS
  obtain ⟨qA, capA, rfl, hcapA, _⟩ := SlAt.open hA
  have hA : IntsAt S w (.slice qA all.length capA) all := hA
  obtain ⟨qC, capC, rfl, hcapC, _⟩ := rows_open hC
  obtain ⟨qR, capR, rfl, hcapR, _⟩ := rows_open hR
  have hu := Up.alloc w (.cells #[.slice pp t.ps.length pcap, N] 25)
  have hT1 : TreeAt S (w.alloc (.cells #[.slice pp t.ps.length pcap, N] 25)) (.agg #[.slice pp t.ps.length pcap, N]) t := TreeAt.keep ⟨_, N, rfl, hP0, hN⟩ (hu.kept _)
  have HT := Lib.hid hT1
  have HS := Lib.hid (IntsAt.keep hS (hu.kept _))
  have HC := Lib.hid (hC.keep (hu.kept _))
  have HA := Lib.hid (IntsAt.keep hA (hu.kept _))
  have HR := Lib.hid (hR.keep (hu.kept _))
  have HU := Lib.hid hu
  have HB0 := Lib.hid (box2_0 w (.slice pp t.ps.length pcap) N 25)
  have HB1 := Lib.hid (box2_1 w (.slice pp t.ps.length pcap) N 25)
  have HCK := Lib.hid (checkRP_t S _ _ _ _ t st cs HT.out HS.out HC.out hz)
  have HZ := Lib.hid hz
  have HRR := Lib.hid hrr
  clear hu hT1 hP hP0 hN hS hC hA hR hz hrr hfin
  go_enter Try.func29, Try.ntmps29
  go_wp2_with fail
  generalize w.alloc (.cells #[.slice pp t.ps.length pcap, N] 25) = w1 at *
  refine HCK.out.mono ?_
  rintro e w2 ⟨rfl, hb⟩
  have hu2 : Up w1 w2 := hb
  have HU2 := Lib.hid (HU.out.trans hu2)
  have hc0 := hu2.cell HB0.out
  have hc1 := hu2.cell HB1.out
  have HT2 := Lib.hid (HT.out.keep (hu2.kept _))
  have HS2 := Lib.hid (IntsAt.keep HS.out (hu2.kept _))
  have HC2 := Lib.hid (HC.out.keep (hu2.kept _))
  have HA2 := Lib.hid (IntsAt.keep HA.out (hu2.kept _))
  have HR2 := Lib.hid (HR.out.keep (hu2.kept _))
  clear HU HB0 HB1 HT HS HC HA HR hu2 hb HCK
  by_cases he : parErr t st cs = 0
  · have he1 : (parErr t st cs != 0) = false := by simpa using he
    have HV := Lib.hid (parErr_valid he)
    have HF2 : Hid (verErr t st cs all rows = if knownErr all t.ps.length 0 cs.length ≠ 0 ∨ rows ≠ tabL t st cs then 18 else if fitsBad t st all = true then 18 else if costL t cs all ≠ scoreN t st cs then 18 else 0) := by
      unfold Hid; rw [HF.out, if_neg (fun h => h he)]
    have hps := treeErr_zero HV.out.tree
    obtain ⟨hps1, hps2, hps3, _, _⟩ := hps
    have HPS3 := Lib.hid hps3
    have hms := (matErr_zero HV.out.mat).2.1
    have HCE : Hid (costErr t all cs = knownErr all t.ps.length 0 cs.length) := by
      show costErr t all cs = _
      unfold costErr; rw [if_neg (fun h => h HV.out.tree), if_neg (fun h => h HV.out.mat)]
    have HK := Lib.hid (pcostR_t S w2 _ _ _ t all cs HT2.out HA2.out HC2.out ⟨HZ.out.1, HZ.out.2.1, HZ.out.2.2.1, hal, HZ.out.2.2.2.2.1, HZ.out.2.2.2.2.2⟩)
    clear he HF hps3
    go_wp2_with fail
    refine HK.out.mono ?_
    rintro e w3 ⟨hb, rfl⟩
    have hu3 : Up w2 w3 := hb
    have HU3 := Lib.hid (HU2.out.trans hu3)
    have hd0 := hu3.cell hc0
    have hd1 := hu3.cell hc1
    have HT3 := Lib.hid (HT2.out.keep (hu3.kept _))
    have HS3 := Lib.hid (IntsAt.keep HS2.out (hu3.kept _))
    have HC3 := Lib.hid (HC2.out.keep (hu3.kept _))
    have HA3 := Lib.hid (IntsAt.keep HA2.out (hu3.kept _))
    have HR3 := Lib.hid (HR2.out.keep (hu3.kept _))
    clear hb hu3 HK HU2 hc0 hc1 HT2 HS2 HC2 HA2 HR2
    by_cases hk : costErr t all cs = 0
    · have hk1 : (costErr t all cs != 0) = false := by simpa using hk
      have HAO := Lib.hid (known_allok (HCE.out.symm.trans hk))
      have HCN : Hid (costN t all cs = costL t cs all) := by show costN t all cs = _; unfold costN; rw [if_pos hk]
      have HF3 : Hid (verErr t st cs all rows = if rows ≠ tabL t st cs then 18 else if fitsBad t st all = true then 18 else if costL t cs all ≠ scoreN t st cs then 18 else 0) := by
        unfold Hid; rw [HF2.out]; rw [HCE.out] at hk; simp only [hk, ne_eq, not_true_eq_false, false_or]
      have HTB : Hid (∀ W, Up w3 W → Calls Try.prog 59 #[.agg #[.slice pp t.ps.length pcap, N], .slice qS st.length capS, .slice qC cs.length capC] W (TbPost W (tabL t st cs))) := fun W hW => tableR_t S W _ _ _ t st cs (HT3.out.keep (hW.kept _)) (IntsAt.keep HS3.out (hW.kept _)) (HC3.out.keep (hW.kept _)) HZ.out.2.2.1 HV.out
      have HTL : Hid ((tabL t st cs).length ≤ 1000000 ∧ ∀ k, (gl (tabL t st cs) k).length ≤ 1000000) := ⟨by rw [tabL_len]; omega, fun k => by
        by_cases h : k < t.ps.length
        · rw [gl_tabL _ _ _ h, tabRow_len]; omega
        · simp [gl, tabL, h]⟩
      clear hk HF2
      rw [HCN.out]
      have hd0a : ∀ n, (w3.drewN n).cell? ⟨w.heap.size, 0, none⟩ = some (.slice pp t.ps.length pcap) := fun n => (Up.drewN w3 n).cell hd0
      have hd1a : ∀ n, (w3.drewN n).cell? ⟨w.heap.size, 1, none⟩ = some N := fun n => (Up.drewN w3 n).cell hd1
      by_cases hrw : rows = tabL t st cs
      · have hrt : decide (rows = tabL t st cs) = true := decide_eq_true hrw
        have HRT := Lib.hid hrt
        have HRW := Lib.hid hrw
        have HF4 : Hid (verErr t st cs all rows = if fitsBad t st all = true then 18 else if costL t cs all ≠ scoreN t st cs then 18 else 0) := by
          unfold Hid; rw [HF3.out, if_neg (fun h => h hrw)]
        have HR4 := HR3.out
        have hrl0 : rows.length = t.ps.length := by rw [hrw, tabL_len]
        obtain ⟨rb, ro, rq, rc, rfl, hrc, hri⟩ := rows_get HR4 (k := 0) (by omega)
        have hgl : gl rows 0 = tabRow t st cs 0 := by rw [hrw, gl_tabL _ _ _ hps1]
        rw [hgl, tabRow_len] at hrc hri
        rw [Nat.add_zero] at hrc
        have HRI := Lib.hid hri
        have hpos : (0 : Int) < (rows.length : Int) := by omega
        have hposN : 0 < rows.length := by omega
        have hposD : decide ((0 : Int) < (rows.length : Int)) = true := decide_eq_true hpos
        have hmk2 := fun W => run_make_row' (P := Try.prog) 22 3 (.int .i64 0) 8 Try.underlying22 Try.infoI rfl .i64 .i64 cs.length (by omega) (by omega) W
        have HRL : Hid ((tabRow t st cs 0).length ≤ (List.replicate cs.length (0 : Int)).length ∧ (List.replicate cs.length (0 : Int)).length ≤ 1000 ∧ (∀ k, 0 ≤ gi (List.replicate cs.length (0 : Int)) k ∧ gi (List.replicate cs.length (0 : Int)) k ≤ 1000) ∧ ∀ k, gi (tabRow t st cs 0) k ≤ 1000000000) :=
          ⟨by rw [tabRow_len, List.length_replicate]; exact Nat.le_refl _, by rw [List.length_replicate]; omega, fun k => by rw [gi_zeros]; omega, fun k => by have := (HV.out.tb 0 k (treeErr_zero HV.out.tree).1).2; omega⟩
        have HSC : Hid ((bestK (gi (List.replicate cs.length 0)) (gi (tabRow t st cs 0)) (tabRow t st cs 0).length).1 = scoreN t st cs) := by unfold Hid; rw [scoreN_eq HV.out, tabRow_len, bestK_congr (fun j _ => gi_zeros _ j) (fun _ _ => rfl)]
        have hw1 : ∀ W : World, Up w3 W → W.cell? ⟨rb, ro, none⟩ = some (.slice rq cs.length rc) := fun W h => h.cell hrc
        have HW1 := Lib.hid hw1
        clear hrw hrt HF3 HR4 hgl hri hrl0 hw1
        go_wp2_with fail
        have hup : Hid (Up w3 (w3.drewN 1)) := Up.drewN w3 1
        go_region_held3 (fun w' => Hid (Up w3 w') ∧ w'.cell? ⟨w.heap.size, 0, none⟩ = some (.slice pp t.ps.length pcap) ∧ w'.cell? ⟨w.heap.size, 1, none⟩ = some N ∧ w'.cell? ⟨rb, ro, none⟩ = some (.slice rq cs.length rc)) (first | exact ⟨hup, hup.out.cell hd0, hup.out.cell hd1, HW1.out _ hup.out⟩ | exact ⟨hup.out.trans (Up.alloc _ _), (hup.out.trans (Up.alloc _ _)).cell hd0, (hup.out.trans (Up.alloc _ _)).cell hd1, HW1.out _ (hup.out.trans (Up.alloc _ _))⟩) (first
          | (go_at_call 59; refine (HTB.out _ hup.out).mono ?_; rintro e w4 ⟨hb4, tv, rfl, htv⟩; have hup : Hid (Up w3 w4) := hup.out.trans (show Up _ w4 from hb4); have HTV := Lib.hid htv; clear hb4 htv)
          | (go_at_call 26; refine (sameTable_t S Any _ _ _ rows (tabL t st cs) (HR3.out.keep (hup.out.kept _)) HTV.out hrl HTL.out.1 HRR.out HTL.out.2).mono ?_; rw [HRT.out]; rintro e w5 ⟨rfl, hq5⟩; have hup : Hid (Up w3 w5) := hup.out.trans (QD.up hq5); clear hq5)
          | (go_at_call 60; refine (leastR_t S Any _ _ _ (tabRow t st cs 0) (List.replicate cs.length 0) (IntsAt.keep HRI.out ((hup.out.trans (Up.alloc _ _)).kept _)) (zeros_at _ _ _) HRL.out.1 HRL.out.2.1 HRL.out.2.2.1 HRL.out.2.2.2).mono ?_; rw [HSC.out]; rintro e w7 ⟨rfl, hq7⟩; have hup : Hid (Up w3 w7) := (hup.out.trans (Up.alloc _ _)).trans (QD.up hq7); clear hq7))
        all_goals
          have HU7 := hup
          by_cases hcq : costL t cs all = scoreN t st cs
          · have hcq1 : (costL t cs all != scoreN t st cs) = false := by simp [hcq]
            have HCQ := Lib.hid hcq
            have hg0 := HU7.out.cell hd0
            have hg1 := HU7.out.cell hd1
            have HS7 := Lib.hid (IntsAt.keep HS3.out (HU7.out.kept _))
            have HA7 := Lib.hid (IntsAt.keep HA3.out (HU7.out.kept _))
            have HLV := Lib.hid (leavesR_t S w7 _ t (HT3.out.keep (HU7.out.kept _)) (by omega) (by rw [HPS3.out]; omega) HZ.out.2.2.1)
            have HUU := Lib.hid (HU3.out.trans HU7.out)
            clear hcq hd0 hd1 hd0a hd1a hmk2 hrc HR3 HS3 HA3 HT3 HC3 HTB HW1 HTV hup
            go_wp2_with fail
            refine HLV.out.mono ?_
            rintro e w8 ⟨hb, ⟨h1, _⟩ | ⟨_, lv, rfl, hlv⟩⟩
            · exact absurd HV.out.tree h1
            obtain ⟨lp, lc, rfl, _, _⟩ := SlAt.open hlv
            have hu8 : Up w7 w8 := hb
            have HU8 := Lib.hid (HUU.out.trans hu8)
            have HS8 := Lib.hid (IntsAt.keep HS7.out (hu8.kept _))
            have HA8 := Lib.hid (IntsAt.keep HA7.out (hu8.kept _))
            have HL8 : Hid (IntsAt (fun b => w7.heap.size ≤ b) w8 (.slice lp (leavesL t.ns).length lc) (leavesL t.ns)) := hlv
            have hll : (leavesL t.ns).length ≤ 64 := by have := leavesL_len t.ns; have := HPS3.out; omega
            clear hb hu8 HUU HS7 HA7 hlv HLV hg0 hg1 HU7
            go_wp2_with fail
            go_loopw [16] (fun i wr => ∃ k : Nat, k ≤ (leavesL t.ns).length ∧ i = .int .i64 k ∧ Hid (QD w8 wr) ∧ Hid (∀ j, j < k → leafBad t st all j = false)) (fun i _ => (leavesL t.ns).length - (intOf i).toNat)
            case atStart => exact ⟨0, Nat.zero_le _, rfl, QD.refl _, fun j hj => absurd hj (Nat.not_lt_zero _)⟩
            case round =>
              obtain ⟨k, hk, rfl, hQ, hd⟩ := hrel
              by_cases hlt : k < (leavesL t.ns).length
              · obtain ⟨lb, lo, rfl, hcl⟩ := ints_get (IntsAt.keep HL8.out (hQ.out.kept _)) hlt
                obtain ⟨q, hq, hqn, _⟩ := leaf_nat hlt
                have hlbd : leafBad t st all k = (decide (0 ≤ gi st k) && decide (gi all q ≠ gi st k)) := by unfold leafBad; rw [hq, Int.toNat_natCast]
                have HLB := Lib.hid hlbd
                rw [hq] at hcl
                have hqa : q < all.length := by rw [HAO.out.1, ← HPS3.out]; exact hqn
                have hks : k < st.length := by rw [HV.out.len]; exact hlt
                obtain ⟨sb, so, rfl, hcs⟩ := ints_get (IntsAt.keep HS8.out (hQ.out.kept _)) hks
                obtain ⟨ab, ao, rfl, hca⟩ := ints_get (IntsAt.keep HA8.out (hQ.out.kept _)) hqa
                have i1 : (0 : Int) ≤ (k : Int) := by omega
                have i2 : (k : Int) < (st.length : Int) := by omega
                have i3 : (0 : Int) ≤ (q : Int) := by omega
                have i4 : (q : Int) < (all.length : Int) := by omega
                generalize gi st k = s at *
                generalize gi all q = a at *
                clear hq hlbd
                by_cases h0 : 0 ≤ s
                · have h01 : decide (0 ≤ s) = true := by simpa using h0
                  by_cases has : a = s
                  · have has1 : (a != s) = false := by simp [has]
                    have HG : Hid (leafBad t st all k = false) := by unfold Hid; rw [HLB.out, has]; simp
                    clear has
                    go_wp2_with fail
                    go_quiet (fail)
                    go_wp2_with fail
                    go_roundw
                    case rel => exact ⟨k + 1, by omega, by go_num, hQ.out.drewN nq, fun j hj => if e : j = k then by subst e; exact HG.out else hd.out j (by omega)⟩
                    case measure => simp [intOf]; omega
                  · have has1 : (a != s) = true := by simpa using has
                    have HG : Hid (fitsBad t st all = true) := any_at hlt (by rw [HLB.out]; simp [h0, has])
                    clear has
                    go_wp2_with fail
                    go_quiet (fail)
                    go_wp2_with fail
                    go_ret
                    exact ⟨ret_int (by rw [HF4.out, if_pos HG.out]), HU8.out.trans (hQ.out.drewN nq).up⟩
                · have h01 : decide (0 ≤ s) = false := by simpa using h0
                  have HG : Hid (leafBad t st all k = false) := by unfold Hid; rw [HLB.out]; simp [h0]
                  go_wp2_with fail
                  go_quiet (fail)
                  go_wp2_with fail
                  go_roundw
                  case rel => exact ⟨k + 1, by omega, by go_num, hQ.out.drewN nq, fun j hj => if e : j = k then by subst e; exact HG.out else hd.out j (by omega)⟩
                  case measure => simp [intOf]; omega
              · obtain rfl : k = (leavesL t.ns).length := by omega
                have HG : Hid (fitsBad t st all = false) := any_none hd.out
                clear hlt hk
                go_wp2_with fail
                go_ret
                exact ⟨ret_int (by rw [HF4.out, HG.out, HCQ.out]; simp), HU8.out.trans hQ.out.up⟩
          · have hcq1 : (costL t cs all != scoreN t st cs) = true := by simpa using hcq
            have HCQ := Lib.hid hcq
            clear hcq hd0 hd1 hd0a hd1a hmk2 hrc
            go_wp2_with fail
            go_ret
            refine ⟨ret_int ?_, HU3.out.trans HU7.out⟩
            rw [HF4.out, if_pos HCQ.out]
            split <;> rfl
      · have hrt : decide (rows = tabL t st cs) = false := decide_eq_false hrw
        have HRT := Lib.hid hrt
        have HRW := Lib.hid hrw
        clear hrw hrt
        go_wp2_with fail
        have hup : Hid (Up w3 (w3.drewN 1)) := Up.drewN w3 1
        refine wp_region_held_drew (S := fun w' => Hid (Up w3 w') ∧ w'.cell? ⟨w.heap.size, 0, none⟩ = some (.slice pp t.ps.length pcap) ∧ w'.cell? ⟨w.heap.size, 1, none⟩ = some N) (by kernel_rfl) ⟨hup, hup.out.cell hd0, hup.out.cell hd1⟩ (fun hHeld => ?_)
        refine wpAnyH_take (i := 0) (v := ?hv0h1) rfl (by kernel_rfl) (by kernel_rfl) (by kernel_rfl) (fun _ _ _ h => h) (Or.inl ⟨by rfl, ?hy0h1⟩) (by assumption) ?hr0h1
        case hy0h1 => (intro w hSw; (try dsimp only at hSw); go_simp; (try with_reducible rfl))
        try simp only [Act.put, List.getElem_toArray, List.getElem_cons_succ, List.getElem_cons_zero, List.setIfInBounds_toArray, List.set_cons_zero, List.set_cons_succ]
        refine wpAnyH_take (i := 1) (v := ?hv1h2) rfl (by kernel_rfl) (by kernel_rfl) (by kernel_rfl) (fun _ _ _ h => h) (Or.inl ⟨by rfl, ?hy1h2⟩) (by assumption) ?hr1h2
        case hy1h2 => (intro w hSw; (try dsimp only at hSw); go_simp; (try with_reducible rfl))
        try simp only [Act.put, List.getElem_toArray, List.getElem_cons_succ, List.getElem_cons_zero, List.setIfInBounds_toArray, List.set_cons_zero, List.set_cons_succ]
        refine wpAnyH_take (i := 2) (v := ?hv2h3) rfl (by kernel_rfl) (by kernel_rfl) (by kernel_rfl) (fun _ _ _ h => h) (Or.inl ⟨by rfl, ?hy2h3⟩) (by assumption) ?hr2h3
        case hy2h3 => (intro w hSw; (try dsimp only at hSw); go_simp; (try with_reducible rfl))
        try simp only [Act.put, List.getElem_toArray, List.getElem_cons_succ, List.getElem_cons_zero, List.setIfInBounds_toArray, List.set_cons_zero, List.set_cons_succ]
        refine wpAnyH_take (i := 3) (v := ?hv3h4) rfl (by kernel_rfl) (by kernel_rfl) (by kernel_rfl) (fun _ _ _ h => h) (Or.inl ⟨by rfl, ?hy3h4⟩) (by assumption) ?hr3h4
        case hy3h4 => (intro w hSw; (try dsimp only at hSw); go_simp; (try with_reducible rfl))
        try simp only [Act.put, List.getElem_toArray, List.getElem_cons_succ, List.getElem_cons_zero, List.setIfInBounds_toArray, List.set_cons_zero, List.set_cons_succ]
        refine wpAnyH_take (i := 4) (v := ?hv4h5) rfl (by kernel_rfl) (by kernel_rfl) (by kernel_rfl) (fun _ _ _ h => h) (Or.inl ⟨by rfl, ?hy4h5⟩) (by assumption) ?hr4h5
        case hy4h5 => (intro w hSw; (try dsimp only at hSw); go_simp; (try with_reducible rfl))
        try simp only [Act.put, List.getElem_toArray, List.getElem_cons_succ, List.getElem_cons_zero, List.setIfInBounds_toArray, List.set_cons_zero, List.set_cons_succ]
        refine wpAnyH_take (i := 5) (v := ?hv5h6) rfl (by kernel_rfl) (by kernel_rfl) (by kernel_rfl) (fun _ _ _ h => h) (Or.inl ⟨by rfl, ?hy5h6⟩) (by assumption) ?hr5h6
        case hy5h6 => (intro w hSw; (try dsimp only at hSw); go_simp; (try with_reducible rfl))
        try simp only [Act.put, List.getElem_toArray, List.getElem_cons_succ, List.getElem_cons_zero, List.setIfInBounds_toArray, List.set_cons_zero, List.set_cons_succ]
        refine wpAnyH_take (i := 6) (v := ?hv6h7) rfl (by kernel_rfl) (by kernel_rfl) (by kernel_rfl) (fun _ _ _ h => h) (Or.inl ⟨by rfl, ?hy6h7⟩) (by assumption) ?hr6h7
        case hy6h7 => (intro w hSw; (try dsimp only at hSw); go_simp; (try with_reducible rfl))
        try simp only [Act.put, List.getElem_toArray, List.getElem_cons_succ, List.getElem_cons_zero, List.setIfInBounds_toArray, List.set_cons_zero, List.set_cons_succ]
        refine wpAnyH_ready (rs := [7]) (by kernel_rfl) (by simp) (AllReadyH.cons rfl (fun K hK => ?_) AllReadyH.nil)
        go_simp
        refine (HTB.out _ hup.out).mono ?_
        rintro e w4 ⟨hb4, tv, rfl, htv⟩
        have hup : Hid (Up w3 w4) := hup.out.trans (show Up _ w4 from hb4)
        have HTV := Lib.hid htv
        clear hb4 htv
        go_wp2_with fail
        refine hK.out _ _ ⟨hup, hup.out.cell hd0, hup.out.cell hd1⟩ (fun hHeld => ?_)
        clear hK K
        refine wpAnyH_ready (rs := [8]) (by kernel_rfl) (by simp) (AllReadyH.cons rfl (fun K hK => ?_) AllReadyH.nil)
        go_simp
        refine (sameTable_t S Any _ _ _ rows (tabL t st cs) (HR3.out.keep (hup.out.kept _)) HTV.out hrl HTL.out.1 HRR.out HTL.out.2).mono ?_
        rw [HRT.out]
        rintro e w5 ⟨rfl, hq5⟩
        have hup : Hid (Up w3 w5) := hup.out.trans (QD.up hq5)
        clear hq5
        go_wp2_with fail
        refine hK.out _ _ ⟨hup, hup.out.cell hd0, hup.out.cell hd1⟩ (fun hHeld => ?_)
        clear hK K
        refine wpAnyH_take (i := 9) (v := ?hv9h8) rfl (by kernel_rfl) (by kernel_rfl) (by kernel_rfl) (fun _ _ _ h => h) (Or.inl ⟨by rfl, ?hy9h8⟩) (by assumption) ?hr9h8
        case hy9h8 => (intro w hSw; (try dsimp only at hSw); go_simp; (try with_reducible rfl))
        try simp only [Act.put, List.getElem_toArray, List.getElem_cons_succ, List.getElem_cons_zero, List.setIfInBounds_toArray, List.set_cons_zero, List.set_cons_succ]
        refine wpAnyH_take (i := 10) (v := ?hv10h9) rfl (by kernel_rfl) (by kernel_rfl) (by kernel_rfl) (fun _ _ _ h => h) (Or.inl ⟨by rfl, ?hy10h9⟩) (by assumption) ?hr10h9
        case hy10h9 => (intro w hSw; (try dsimp only at hSw); go_simp; (try with_reducible rfl))
        try simp only [Act.put, List.getElem_toArray, List.getElem_cons_succ, List.getElem_cons_zero, List.setIfInBounds_toArray, List.set_cons_zero, List.set_cons_succ]
        refine wpAnyH_take (i := 11) (v := ?hv11h10) rfl (by kernel_rfl) (by kernel_rfl) (by kernel_rfl) (fun _ _ _ h => h) (Or.inl ⟨by rfl, ?hy11h10⟩) (by assumption) ?hr11h10
        case hy11h10 => (intro w hSw; (try dsimp only at hSw); go_simp; (try with_reducible rfl))
        try simp only [Act.put, List.getElem_toArray, List.getElem_cons_succ, List.getElem_cons_zero, List.setIfInBounds_toArray, List.set_cons_zero, List.set_cons_succ]
        refine wpAnyH_take (i := 12) (v := undef) rfl (by kernel_rfl) (by kernel_rfl) (by kernel_rfl) (fun _ _ _ h => h) (Or.inr ⟨by kernel_rfl, rfl⟩) (by assumption) ?_
        try simp only [Act.put, List.getElem_toArray, List.getElem_cons_succ, List.getElem_cons_zero, List.setIfInBounds_toArray, List.set_cons_zero, List.set_cons_succ]
        refine wpAnyH_take (i := 13) (v := undef) rfl (by kernel_rfl) (by kernel_rfl) (by kernel_rfl) (fun _ _ _ h => h) (Or.inr ⟨by kernel_rfl, rfl⟩) (by assumption) ?_
        try simp only [Act.put, List.getElem_toArray, List.getElem_cons_succ, List.getElem_cons_zero, List.setIfInBounds_toArray, List.set_cons_zero, List.set_cons_succ]
        refine wpAnyH_take (i := 14) (v := undef) rfl (by kernel_rfl) (by kernel_rfl) (by kernel_rfl) (fun _ _ _ h => h) (Or.inr ⟨by kernel_rfl, rfl⟩) (by assumption) ?_
        try simp only [Act.put, List.getElem_toArray, List.getElem_cons_succ, List.getElem_cons_zero, List.setIfInBounds_toArray, List.set_cons_zero, List.set_cons_succ]
        refine wpAnyH_take (i := 15) (v := undef) rfl (by kernel_rfl) (by kernel_rfl) (by kernel_rfl) (fun _ _ _ h => h) (Or.inr ⟨by kernel_rfl, rfl⟩) (by assumption) ?_
        try simp only [Act.put, List.getElem_toArray, List.getElem_cons_succ, List.getElem_cons_zero, List.setIfInBounds_toArray, List.set_cons_zero, List.set_cons_succ]
        refine wpAnyH_take (i := 16) (v := undef) rfl (by kernel_rfl) (by kernel_rfl) (by kernel_rfl) (fun _ _ _ h => h) (Or.inr ⟨by kernel_rfl, rfl⟩) (by assumption) ?_
        try simp only [Act.put, List.getElem_toArray, List.getElem_cons_succ, List.getElem_cons_zero, List.setIfInBounds_toArray, List.set_cons_zero, List.set_cons_succ]
        refine wpAnyH_take (i := 17) (v := undef) rfl (by kernel_rfl) (by kernel_rfl) (by kernel_rfl) (fun _ _ _ h => h) (Or.inr ⟨by kernel_rfl, rfl⟩) (by assumption) ?_
        try simp only [Act.put, List.getElem_toArray, List.getElem_cons_succ, List.getElem_cons_zero, List.setIfInBounds_toArray, List.set_cons_zero, List.set_cons_succ]
        refine wpAnyH_take (i := 18) (v := undef) rfl (by kernel_rfl) (by kernel_rfl) (by kernel_rfl) (fun _ _ _ h => h) (Or.inr ⟨by kernel_rfl, rfl⟩) (by assumption) ?_
        try simp only [Act.put, List.getElem_toArray, List.getElem_cons_succ, List.getElem_cons_zero, List.setIfInBounds_toArray, List.set_cons_zero, List.set_cons_succ]
        refine wpAnyH_take (i := 19) (v := undef) rfl (by kernel_rfl) (by kernel_rfl) (by kernel_rfl) (fun _ _ _ h => h) (Or.inr ⟨by kernel_rfl, rfl⟩) (by assumption) ?_
        try simp only [Act.put, List.getElem_toArray, List.getElem_cons_succ, List.getElem_cons_zero, List.setIfInBounds_toArray, List.set_cons_zero, List.set_cons_succ]
        refine wpAnyH_take (i := 20) (v := undef) rfl (by kernel_rfl) (by kernel_rfl) (by kernel_rfl) (fun _ _ _ h => h) (Or.inr ⟨by kernel_rfl, rfl⟩) (by assumption) ?_
        try simp only [Act.put, List.getElem_toArray, List.getElem_cons_succ, List.getElem_cons_zero, List.setIfInBounds_toArray, List.set_cons_zero, List.set_cons_succ]
        refine wpAnyH_take (i := 21) (v := ?hv21h11) rfl (by kernel_rfl) (by kernel_rfl) (by kernel_rfl) (fun _ _ _ h => h) (Or.inl ⟨by rfl, ?hy21h11⟩) (by assumption) ?hr21h11
        case hy21h11 => (intro w hSw; (try dsimp only at hSw); go_simp; (try with_reducible rfl))
        try simp only [Act.put, List.getElem_toArray, List.getElem_cons_succ, List.getElem_cons_zero, List.setIfInBounds_toArray, List.set_cons_zero, List.set_cons_succ]
        refine wpAnyH_done (by kernel_rfl) ?_ _
        go_wp2_with fail
        go_ret
        exact ⟨ret_int (by rw [HF3.out, if_pos HRW.out]), HU3.out.trans hup.out⟩
    · have hk1 : (costErr t all cs != 0) = true := by simpa using hk
      have HKK := Lib.hid hk
      clear hk
      go_wp2_with fail
      go_quiet (fail)
      go_wp2_with fail
      go_ret
      exact ⟨ret_int (by rw [HF2.out, ← HCE.out, if_pos (.inl HKK.out)]), HU3.out.trans (Up.drewN _ _)⟩
  · have he1 : (parErr t st cs != 0) = true := by simpa using he
    have HE := Lib.hid he
    clear he
    go_wp2_with fail
    go_ret
    exact ⟨ret_int (by rw [HF.out, if_pos HE.out]), HU2.out⟩
end Go.Proofs.Ytflikmllpimaiaa
