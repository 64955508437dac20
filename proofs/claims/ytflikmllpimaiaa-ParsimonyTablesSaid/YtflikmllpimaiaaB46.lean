/- The contract of the reference's Assign. -/
import Derived.Test.YtflikmllpimaiaaB45
import Derived.Test.YtflikmllpimaiaaB22
namespace Go.Proofs.Ytflikmllpimaiaa
open Go.RowKit Go.Deep
set_option maxRecDepth 100000 in
set_option maxHeartbeats 4000000 in
theorem assignR_t (S : Nat → Prop) (w : World) (v vs vc : Value) (t : Tre) (st : List Int) (cs : List (List Int)) (hT : TreeAt S w v t) (hS : IntsAt S w vs st) (hC : RowsAt S w vc cs) (hz : Sized t st cs) :
    Calls Try.prog 24 #[v, vs, vc] w (AsPost w t st cs) := by
  have hns := hz.2.2.1
  obtain ⟨P, N, rfl, hP, hN⟩ := hT
  obtain ⟨pp, pcap, rfl, hpcap, _⟩ := SlAt.open hP
  have hP0 : IntsAt S w (.slice pp t.ps.length pcap) t.ps := hP
  obtain ⟨qC, capC, rfl, hcapC, _⟩ := rows_open hC
  have hu := Up.alloc w (.cells #[.slice pp t.ps.length pcap, N] 25)
  have hT1 : TreeAt S (w.alloc (.cells #[.slice pp t.ps.length pcap, N] 25)) (.agg #[.slice pp t.ps.length pcap, N]) t := TreeAt.keep ⟨_, N, rfl, hP0, hN⟩ (hu.kept S)
  have hk := checkRP_t S _ _ _ _ t st cs hT1 (IntsAt.keep hS (hu.kept S)) (hC.keep (hu.kept S)) hz
  have HK := Lib.hid hk
  have HU := Lib.hid hu
  have HB0 := Lib.hid (box2_0 w (.slice pp t.ps.length pcap) N 25)
  have HB1 := Lib.hid (box2_1 w (.slice pp t.ps.length pcap) N 25)
  have HT := Lib.hid hT1
  have HP := Lib.hid (IntsAt.keep hP0 (hu.kept S))
  have HS := Lib.hid (IntsAt.keep hS (hu.kept S))
  have HC := Lib.hid (hC.keep (hu.kept S))
  have HNS := Lib.hid hns
  clear hk hu hT1 hS hC hP hP0 hN hz hns
  go_enter Try.func24, Try.ntmps24
  go_wp2_with fail
  generalize w.alloc (.cells #[.slice pp t.ps.length pcap, N] 25) = w1 at *
  refine HK.out.mono ?_
  rintro e w2 ⟨rfl, hb⟩
  have hu2 : Up w1 w2 := hb
  have hc0 := hu2.cell HB0.out
  have hc1 := hu2.cell HB1.out
  have HU2 := Lib.hid (HU.out.trans hu2)
  have HT2 := Lib.hid (HT.out.keep (hu2.kept S))
  have HP2 := Lib.hid (IntsAt.keep HP.out (hu2.kept S))
  have HS2 := Lib.hid (IntsAt.keep HS.out (hu2.kept S))
  have HC2 := Lib.hid (HC.out.keep (hu2.kept S))
  clear hb hu2 HK HU HB0 HB1 HT HS HC HP
  by_cases he : parErr t st cs = 0
  · have he1 : (parErr t st cs != 0) = false := by simpa using he
    have hv := parErr_valid he
    have HF : Hid (assignN t st cs = asgL t st cs) := by unfold Hid assignN; rw [if_pos he]
    have hps1 := (treeErr_zero hv.tree).1
    have hps2 := (treeErr_zero hv.tree).2.1
    have hm1 := (matErr_zero hv.mat).1
    have hm2 := (matErr_zero hv.mat).2.1
    have HE := Lib.hid he
    have HV := Lib.hid hv
    have HTB := Lib.hid (tableR_t S w2 _ _ _ t st cs HT2.out HS2.out HC2.out HNS.out hv)
    have hmk2 := fun W => run_make_row' (P := Try.prog) 22 3 (.int .i64 0) 8 Try.underlying22 Try.infoI rfl .i64 .i64 cs.length (by omega) (by omega) W
    clear he hv
    go_wp2_with fail
    refine HTB.out.mono ?_
    rintro e w3 ⟨hb3, tv, rfl, hrows⟩
    have hu3 : Up w2 w3 := hb3
    obtain ⟨tp, tcap, rfl, htcap, _⟩ := rows_open hrows
    rw [tabL_len] at hrows htcap ⊢
    obtain ⟨tb, to, _, _, rfl, _, _⟩ := rows_get hrows (k := 0) (by rw [tabL_len]; exact hps1)
    have hu34 := Up.alloc w3 (.cells #[] 3)
    have HU3 := Lib.hid (HU2.out.trans hu3)
    have HD0 := Lib.hid (hu3.cell hc0)
    have HP3 := Lib.hid (IntsAt.keep HP2.out (hu3.kept S))
    have HC3 := Lib.hid (HC2.out.keep (hu3.kept S))
    have HR3 := Lib.hid hrows
    have HO3 := Lib.hid (Owns.made w3 3)
    have HU34 := Lib.hid hu34
    clear hb3 hu3 hrows HTB hc0 hc1 HU2 HT2 HP2 HS2 HC2 hu34
    go_wp2_with fail
    go_loopw [10, 11, 12, 13, 14] (fun o i _ _ _ wr => ∃ k : Nat, k ≤ t.ps.length ∧ i = .int .i64 k ∧ Hid (Owns w3.heap.size 3 wr o ((asgK t st cs k).map (Value.int .i64))) ∧ Hid (Up w3 wr)) (fun _ i _ _ _ _ => t.ps.length - (intOf i).toNat)
    case atStart => exact ⟨0, Nat.zero_le _, rfl, HO3, HU34⟩
    case round =>
      obtain ⟨k, hk, rfl, hO, hUr⟩ := hrel
      obtain ⟨wo, rfl⟩ : ∃ wo : World, wo = wr := ⟨_, rfl⟩
      obtain ⟨ov, rfl⟩ : ∃ o : Value, o = u10 := ⟨_, rfl⟩
      by_cases hlt : k < t.ps.length
      · have hu5 := Up.alloc wo (.cells (madeCells #[.int .i64 0] cs.length) 3)
        have hup := hUr.out.trans hu5
        have hd0 := hup.cell HD0.out
        have HO5 := Lib.hid (hO.out.alloc (.cells (madeCells #[.int .i64 0] cs.length) 3))
        obtain ⟨rq, rc, hrc, hri⟩ := rows_get' (HR3.out.keep (hup.kept _)) (k := k) (by rw [tabL_len]; exact hlt)
        rw [gl_tabL _ _ _ hlt, tabRow_len] at hrc hri
        have HRI := Lib.hid hri
        have HUP := Lib.hid hup
        have hz5 := zeros_at wo cs.length 3
        have HZ5 := Lib.hid hz5
        clear hu5 hup hri hz5 hO
        by_cases hk0 : k = 0
        · have HKK : Hid (asgK t st cs (k + 1) = asgK t st cs k ++ [(bestK (gi (List.replicate cs.length 0)) (gi (tabRow t st cs k)) cs.length).2]) := by
            show asgK t st cs k ++ [asgAt t st cs (asgK t st cs k) k] = _
            unfold asgAt; rw [if_pos hk0]
            rw [bestK_congr (c := fun _ => (0 : Int)) (c' := gi (List.replicate cs.length 0)) (fun j _ => (gi_zeros _ j).symm) (fun _ _ => rfl)]
          have HCB : Hid ((List.replicate cs.length (0 : Int)).length = cs.length ∧ ∀ j, 0 ≤ gi (List.replicate cs.length (0 : Int)) j ∧ gi (List.replicate cs.length (0 : Int)) j ≤ 1000) := ⟨List.length_replicate .., fun j => by rw [gi_zeros]; omega⟩
          have i0 : decide (0 < (k : Int)) = false := by simp; omega
          have i0' : decide (0 < k) = false := by simp; omega
          clear hk0 hd0 HC3 HP3 HD0
          go_wp2_with fail
          generalize wo.alloc (.cells (madeCells #[.int .i64 0] cs.length) 3) = w5 at *
          generalize List.replicate cs.length (0 : Int) = crow at *
          generalize wo.heap.size = cb at *
          obtain ⟨o, ho, hom, ho0, ho1, ho2, ho3⟩ := best_ok HV.out (c := gi crow) (fun j _ => HCB.out.2 j) hlt
          rw [ho] at HKK
          have HR3b : Hid (∀ j, gi (tabRow t st cs k) j ≤ 1000000000) := fun j => by have := (HV.out.tb k j hlt).2; omega
          refine (leastR_t _ _ w5 _ _ (tabRow t st cs k) crow HRI.out HZ5.out (by rw [tabRow_len, HCB.out.1]; exact Nat.le_refl _) (by rw [HCB.out.1]; omega) HCB.out.2 HR3b.out).mono ?_
          rintro e w6 ⟨rfl, n6, rfl⟩
          have hX1 := HCB.out.2 o
          have hX2 := (HV.out.tb k o hlt).2
          have hT2 := HV.out.tb k
          rw [tabRow_len, ho1]
          have HNE : Hid (∀ j, j < o → 0 ≤ gi (tabRow t st cs k) j → gi (tabRow t st cs k) j + gi crow j ≠ gi (tabRow t st cs k) o + gi crow o) := fun j hj h0 => by have := ho3 j hj h0; omega
          have HWR : Hid (∀ j, -1 ≤ gi (tabRow t st cs k) j ∧ gi (tabRow t st cs k) j ≤ 100000000) := fun j => by have := HV.out.tb k j hlt; omega
          have hcomm : gi crow o + gi (tabRow t st cs k) o = gi (tabRow t st cs k) o + gi crow o := Int.add_comm _ _
          rw [hcomm]
          have hXX : ∃ X, gi (tabRow t st cs k) o + gi crow o = X := ⟨_, rfl⟩
          obtain ⟨X, hX⟩ := hXX
          rw [hX] at HNE ⊢
          have HXX := Lib.hid hX
          have HO0 := Lib.hid ho0
          have HSZ : Hid (w3.heap.size ≤ w5.heap.size) := HUP.out.size
          clear ho ho1 ho2 ho3 ho0 hX1 hX2 hT2 hcomm hX HR3b
          go_wp2_with fail
          go_loopw [10, 14] (fun v i wr => ∃ s : Nat, s ≤ o ∧ i = .int .i64 s ∧ ov = v ∧ Hid (QD w5 wr)) (fun _ i _ => o - (intOf i).toNat)
          case atStart => exact ⟨0, Nat.zero_le _, rfl, rfl, ⟨n6, rfl⟩⟩
          case round =>
            obtain ⟨s, hs, rfl, rfl, hQ⟩ := hrel
            obtain ⟨wi, rfl⟩ : ∃ wi : World, wi = wr := ⟨_, rfl⟩
            have hrc2 := hQ.out.up.cell hrc
            obtain ⟨rb, ro, rfl, h1⟩ := ints_get (IntsAt.keep HRI.out (hQ.out.kept _)) (k := s) (by rw [tabRow_len]; omega)
            have h2 := ints_get' (IntsAt.keep HZ5.out (hQ.out.kept _)) (k := s) (by rw [HCB.out.1]; omega)
            rw [Nat.zero_add] at h2
            have hb1 := HCB.out.2 s
            have hb2 := HWR.out s
            have hsz := HSZ.out
            have i3 : (0 : Int) ≤ (s : Int) := by omega
            have i4 : (s : Int) < (cs.length : Int) := by omega
            have i5 : decide ((s : Int) < (cs.length : Int)) = true := by simp; omega
            have i5' : decide (s < cs.length) = true := by simp; omega
            by_cases hso : s < o
            · have hne := HNE.out s hso
              generalize gi (tabRow t st cs k) s = r at *
              generalize gi crow s = c at *
              have hsum : IntKind.i64.wrap (r + c) = r + c := IntWalk.i64_in _ (by omega)
              by_cases hr0 : r < 0
              · have d1 : decide (0 ≤ r) = false := by simp; omega
                clear hne hsz
                go_wp2_with fail
                go_quiet (fail)
                go_wp2_with fail
                go_roundw
                case rel => exact ⟨s + 1, by omega, by go_num, rfl, hQ.out.drewN _⟩
                case measure => simp [intOf]; omega
              · have d1 : decide (0 ≤ r) = true := by simp; omega
                have d2 : (r + c == X) = false := by simpa using hne (by omega)
                clear hne hsz
                go_wp2_with fail
                go_quiet (fail)
                go_wp2_with fail
                go_roundw
                case rel => exact ⟨s + 1, by omega, by go_num, rfl, hQ.out.drewN _⟩
                case measure => simp [intOf]; omega
            · obtain rfl : s = o := by omega
              have hxx := HXX.out
              have h00 := HO0.out
              generalize gi (tabRow t st cs k) s = r at *
              generalize gi crow s = c at *
              have hsum : IntKind.i64.wrap (r + c) = X := by rw [IntWalk.i64_in _ (by omega)]; exact hxx
              have d1 : decide (0 ≤ r) = true := by simp; omega
              have HLN : Hid (((asgK t st cs k).map (Value.int .i64)).length = k) := by unfold Hid; rw [List.length_map, asgK_len]
              have HTK : Hid ((asgK t st cs (k + 1)).map (Value.int .i64) = (asgK t st cs k).map (Value.int .i64) ++ [.int .i64 s]) := by
                unfold Hid; rw [HKK.out, List.map_append]; rfl
              have HOW : Hid (∀ n, Owns w3.heap.size 3 (wi.drewN n) (ov) ((asgK t st cs k).map (Value.int .i64))) := fun n => HO5.out.kept fun b _ hb2 => Below.block ((hQ.out.drewN n).up) b hb2
              have hsz6 : ∀ n, w3.heap.size ≤ (wi.drewN n).heap.size := fun n => Nat.le_trans HSZ.out ((hQ.out.drewN n).up.size)
              clear hso hsz hxx h00
              go_wp2_with fail
              go_quiet (fail)
              go_wp2_with (at_builtin; refine wpList_appN (wi.drewN nq) rfl _ _ 22 rfl w3.heap.size 3 _ 8 Try.underlying22 Try.infoI rfl (by decide) (HOW.out nq) rfl _ rfl rfl k HLN.out (by omega) (hsz6 nq) ?_; intro g cap w8 hown1 hg1 hbe1)
              have HO1 : Hid (Owns w3.heap.size 3 w8 (.slice (some ⟨g, 0, none⟩) (k + 1) cap) ((asgK t st cs (k + 1)).map (Value.int .i64))) := by unfold Hid; rw [HTK.out]; exact hown1
              have HU8 : Hid (Up w3 w8) := Below.trans (HUP.out.trans (hQ.out.drewN nq).up) hbe1
              clear hown1 hg1 hbe1
              go_roundw
              case rel => exact ⟨k + 1, by omega, by go_num, HO1, HU8⟩
              case measure => simp [intOf]; omega
        · have hkpos : 0 < k := by omega
          have hpar := par_ok (treeErr_zero HV.out.tree).2.2.2.1 hlt
          obtain ⟨pb, po, rfl, hcp⟩ := ints_get (IntsAt.keep HP3.out (HUP.out.kept S)) hlt
          obtain ⟨p, hp⟩ : ∃ p : Nat, gi t.ps k = p := Int.eq_ofNat_of_zero_le (hpar.2.1 hkpos)
          have hpk : p < k := by have := hpar.1; omega
          rw [hp] at hcp
          obtain ⟨q, hq, hqm⟩ := asgK_ok HV.out (k := k) (j := p) (by omega) hpk
          obtain ⟨og, ocap, rfl, hog, hog2, hoc, _, _⟩ := HO5.out.set (j := p) (by rw [List.length_map, asgK_len]; exact hpk)
          rw [List.length_map, asgK_len] at HO5 ⊢
          have hoc2 : (wo.alloc (.cells (madeCells #[.int .i64 0] cs.length) 3)).cell? ⟨og, p, none⟩ = some (.int .i64 q) := by
            rw [hoc, ← hq]
            have : p < (asgK t st cs k).length := by rw [asgK_len]; exact hpk
            simp [gi, this]
          obtain ⟨cb, co, cq, cc, rfl, hcc, hci⟩ := rows_get (HC3.out.keep (HUP.out.kept S)) hqm
          rw [(matErr_zero HV.out.mat).2.2.1 q hqm] at hcc hci
          have HKK : Hid (asgK t st cs (k + 1) = asgK t st cs k ++ [(bestK (gi (gl cs q)) (gi (tabRow t st cs k)) cs.length).2]) := by
            show asgK t st cs k ++ [asgAt t st cs (asgK t st cs k) k] = _
            unfold asgAt; rw [if_neg hk0, hp, Int.toNat_natCast, hq, Int.toNat_natCast]
          have HCI := Lib.hid hci
          have i1 : (0 : Int) ≤ (p : Int) := by omega
          have i2 : (p : Int) < (k : Int) := by omega
          have i0 : decide (0 < (k : Int)) = true := by simp; omega
          have HCB : Hid ((gl cs q).length = cs.length ∧ ∀ j, 0 ≤ gi (gl cs q) j ∧ gi (gl cs q) j ≤ 1000) := ⟨(matErr_zero HV.out.mat).2.2.1 q hqm, (matErr_zero HV.out.mat).2.2.2.1 q⟩
          clear hoc hpar hp hq hci hk0 HC3 HP3 HD0
          go_wp2_with fail
          generalize wo.alloc (.cells (madeCells #[.int .i64 0] cs.length) 3) = w5 at *
          generalize gl cs q = crow at *
          obtain ⟨o, ho, hom, ho0, ho1, ho2, ho3⟩ := best_ok HV.out (c := gi crow) (fun j _ => HCB.out.2 j) hlt
          rw [ho] at HKK
          have HR3b : Hid (∀ j, gi (tabRow t st cs k) j ≤ 1000000000) := fun j => by have := (HV.out.tb k j hlt).2; omega
          refine (leastR_t _ _ w5 _ _ (tabRow t st cs k) crow HRI.out HCI.out (by rw [tabRow_len, HCB.out.1]; exact Nat.le_refl _) (by rw [HCB.out.1]; omega) HCB.out.2 HR3b.out).mono ?_
          rintro e w6 ⟨rfl, n6, rfl⟩
          have hX1 := HCB.out.2 o
          have hX2 := (HV.out.tb k o hlt).2
          have hT2 := HV.out.tb k
          rw [tabRow_len, ho1]
          have HNE : Hid (∀ j, j < o → 0 ≤ gi (tabRow t st cs k) j → gi (tabRow t st cs k) j + gi crow j ≠ gi (tabRow t st cs k) o + gi crow o) := fun j hj h0 => by have := ho3 j hj h0; omega
          have HWR : Hid (∀ j, -1 ≤ gi (tabRow t st cs k) j ∧ gi (tabRow t st cs k) j ≤ 100000000) := fun j => by have := HV.out.tb k j hlt; omega
          have hcomm : gi crow o + gi (tabRow t st cs k) o = gi (tabRow t st cs k) o + gi crow o := Int.add_comm _ _
          rw [hcomm]
          have hXX : ∃ X, gi (tabRow t st cs k) o + gi crow o = X := ⟨_, rfl⟩
          obtain ⟨X, hX⟩ := hXX
          rw [hX] at HNE ⊢
          have HXX := Lib.hid hX
          have HO0 := Lib.hid ho0
          have HSZ : Hid (w3.heap.size ≤ w5.heap.size) := HUP.out.size
          clear ho ho1 ho2 ho3 ho0 hX1 hX2 hT2 hcomm hX HR3b
          go_wp2_with fail
          go_loopw [10, 14] (fun v i wr => ∃ s : Nat, s ≤ o ∧ i = .int .i64 s ∧ .slice (some ⟨og, 0, none⟩) k ocap = v ∧ Hid (QD w5 wr)) (fun _ i _ => o - (intOf i).toNat)
          case atStart => exact ⟨0, Nat.zero_le _, rfl, rfl, ⟨n6, rfl⟩⟩
          case round =>
            obtain ⟨s, hs, rfl, rfl, hQ⟩ := hrel
            obtain ⟨wi, rfl⟩ : ∃ wi : World, wi = wr := ⟨_, rfl⟩
            have hrc2 := hQ.out.up.cell hrc
            obtain ⟨rb, ro, rfl, h1⟩ := ints_get (IntsAt.keep HRI.out (hQ.out.kept _)) (k := s) (by rw [tabRow_len]; omega)
            obtain ⟨xb, xo, rfl, h2⟩ := ints_get (IntsAt.keep HCI.out (hQ.out.kept _)) (k := s) (by rw [HCB.out.1]; omega)
            have hb1 := HCB.out.2 s
            have hb2 := HWR.out s
            have hsz := HSZ.out
            have i3 : (0 : Int) ≤ (s : Int) := by omega
            have i4 : (s : Int) < (cs.length : Int) := by omega
            have i5 : decide ((s : Int) < (cs.length : Int)) = true := by simp; omega
            have i5' : decide (s < cs.length) = true := by simp; omega
            by_cases hso : s < o
            · have hne := HNE.out s hso
              generalize gi (tabRow t st cs k) s = r at *
              generalize gi crow s = c at *
              have hsum : IntKind.i64.wrap (r + c) = r + c := IntWalk.i64_in _ (by omega)
              by_cases hr0 : r < 0
              · have d1 : decide (0 ≤ r) = false := by simp; omega
                clear hne hsz
                go_wp2_with fail
                go_quiet (fail)
                go_wp2_with fail
                go_roundw
                case rel => exact ⟨s + 1, by omega, by go_num, rfl, hQ.out.drewN _⟩
                case measure => simp [intOf]; omega
              · have d1 : decide (0 ≤ r) = true := by simp; omega
                have d2 : (r + c == X) = false := by simpa using hne (by omega)
                clear hne hsz
                go_wp2_with fail
                go_quiet (fail)
                go_wp2_with fail
                go_roundw
                case rel => exact ⟨s + 1, by omega, by go_num, rfl, hQ.out.drewN _⟩
                case measure => simp [intOf]; omega
            · obtain rfl : s = o := by omega
              have hxx := HXX.out
              have h00 := HO0.out
              generalize gi (tabRow t st cs k) s = r at *
              generalize gi crow s = c at *
              have hsum : IntKind.i64.wrap (r + c) = X := by rw [IntWalk.i64_in _ (by omega)]; exact hxx
              have d1 : decide (0 ≤ r) = true := by simp; omega
              have HLN : Hid (((asgK t st cs k).map (Value.int .i64)).length = k) := by unfold Hid; rw [List.length_map, asgK_len]
              have HTK : Hid ((asgK t st cs (k + 1)).map (Value.int .i64) = (asgK t st cs k).map (Value.int .i64) ++ [.int .i64 s]) := by
                unfold Hid; rw [HKK.out, List.map_append]; rfl
              have HOW : Hid (∀ n, Owns w3.heap.size 3 (wi.drewN n) (.slice (some ⟨og, 0, none⟩) k ocap) ((asgK t st cs k).map (Value.int .i64))) := fun n => HO5.out.kept fun b _ hb2 => Below.block ((hQ.out.drewN n).up) b hb2
              have hsz6 : ∀ n, w3.heap.size ≤ (wi.drewN n).heap.size := fun n => Nat.le_trans HSZ.out ((hQ.out.drewN n).up.size)
              clear hso hsz hxx h00
              go_wp2_with fail
              go_quiet (fail)
              go_wp2_with (at_builtin; refine wpList_appN (wi.drewN nq) rfl _ _ 22 rfl w3.heap.size 3 _ 8 Try.underlying22 Try.infoI rfl (by decide) (HOW.out nq) rfl _ rfl rfl k HLN.out (by omega) (hsz6 nq) ?_; intro g cap w8 hown1 hg1 hbe1)
              have HO1 : Hid (Owns w3.heap.size 3 w8 (.slice (some ⟨g, 0, none⟩) (k + 1) cap) ((asgK t st cs (k + 1)).map (Value.int .i64))) := by unfold Hid; rw [HTK.out]; exact hown1
              have HU8 : Hid (Up w3 w8) := Below.trans (HUP.out.trans (hQ.out.drewN nq).up) hbe1
              clear hown1 hg1 hbe1
              go_roundw
              case rel => exact ⟨k + 1, by omega, by go_num, HO1, HU8⟩
              case measure => simp [intOf]; omega
      · obtain rfl : k = t.ps.length := by omega
        obtain ⟨og, ocap, rfl, hog, hog2, hoc, _, _⟩ := hO.out.set (j := 0) (by rw [List.length_map, asgK_len]; exact hps1)
        rw [List.length_map, asgK_len] at hO ⊢
        clear hoc hlt hk hmk2
        go_wp2_with fail
        go_ret2
        refine ⟨HU3.out.trans hUr.out, .slice (some ⟨og, 0, none⟩) t.ps.length ocap, by rw [HE.out]; rfl, ?_⟩
        rw [HF.out]
        exact hO.out.ints.sub fun b hb _ => by have := HU3.out.size; omega
  · have he1 : (parErr t st cs != 0) = true := by simpa using he
    have HE := Lib.hid he
    clear he
    go_wp2_with fail
    go_ret2
    exact ⟨HU2.out.trans (Up.alloc _ _), _, rfl, by unfold assignN; rw [if_neg HE.out]; exact ints_made _ _ _ _⟩
end Go.Proofs.Ytflikmllpimaiaa
