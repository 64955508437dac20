/- The walk of SharederrorLeaves. -/
import Derived.Test.YtkfndaebmbnmaaaQ19
import Derived.Test.YtkfndaebmbnmaaaQ22
namespace Go.Proofs.Ytkfndaebmbnmaaa
open Go.RowKit Go.Deep
theorem flt_take {ns : List ByteArray} {k : Nat} (hk : k < ns.length) : fltN (ns.take (k + 1)) = fltN (ns.take k) ++ if (gs ns k).size = 0 then [] else [gs ns k] := by
  have hg : gs ns k = ns[k] := by simp [gs, hk]
  rw [List.take_succ_eq_append_getElem hk, fltN_app, ← hg]
  congr 1
  unfold fltN
  by_cases h : (gs ns k).size = 0
  · rw [if_pos h, List.filter_cons_of_neg (by simp [h])]; rfl
  · rw [if_neg h, List.filter_cons_of_pos (by simpa using h)]; rfl
theorem cntI_le (ps : List Int) (i : Int) : ∀ k, cntI ps i k ≤ k
  | 0 => Nat.le_refl _
  | k + 1 => by
    have := cntI_le ps i k
    rw [cntI]; split <;> omega
theorem gs_small {n : Nat} {ns : List ByteArray} (h : (fltN ns).Perm (namesA n)) (k : Nat) : (gs ns k).size ≤ 70000 := by
  by_cases hk : k < ns.length
  · by_cases hz : (gs ns k).size = 0
    · omega
    · have h1 : gs ns k ∈ ns := by simp [gs, hk]
      have h2 : gs ns k ∈ fltN ns := List.mem_filter.2 ⟨h1, by simpa using hz⟩
      obtain ⟨i, _, h4⟩ := List.mem_map.1 (h.mem_iff.1 h2)
      rw [← h4]; show 1 ≤ 70000; omega
  · have : gs ns k = ByteArray.empty := by simp [gs, show ns.length ≤ k by omega]
    rw [this]; show 0 ≤ 70000; omega
set_option maxRecDepth 100000 in
set_option maxHeartbeats 8000000 in
theorem leaves_law (w : World) (v : Value) (l : List Grp) (x : Int) (h : GrpsAt Any w v l) (hn : l.length ≤ 9223372036854775807) (hr : ∀ k, (gg l k).src.length ≤ 9223372036854775807) (hx0 : 0 ≤ x) (hx1 : x ≤ 255) :
    Calls Try.prog 8 #[v, .int .u8 x] w fun e w' => e = .returned (.bool true) ∧ Up w w' := by
  obtain ⟨p, cap, rfl, hcap⟩ := grps_open h
  have HX := Lib.hid h
  have HF := Lib.hid (fine35_t Any w _ l h hn hr)
  have HAW := Lib.hid awake35_t
  cases hf : fine35B l
  · rw [hf] at HF
    clear hf hn hr h
    go_enter Try.func8, Try.ntmps8
    go_wp2_with (first | (go_at_call 15; refine HF.out.mono ?_; rintro e w1 ⟨rfl, hu1⟩) | (go_at_call 12; refine (HAW.out _).mono ?_; rintro e w' ⟨rfl, hu⟩) | fail)
    go_ret
    exact ⟨rfl, hu1.trans hu⟩
  · obtain ⟨hl, hs, hg⟩ := fine35_ok hf
    rw [hf] at HF
    have hl2 : l.length ≤ 1000000 := by omega
    have hs2 : ∀ k, (gg l k).src.length ≤ 1000000 := fun k => by have := hs k; omega
    obtain ⟨c, rfl⟩ := Int.eq_ofNat_of_zero_le hx0
    obtain ⟨n, hne⟩ : ∃ n, n = 1 + c % 10 := ⟨_, rfl⟩
    have hn0 : 0 < n := by omega
    have hn10 : n ≤ 10 := by omega
    have hse : (1 : Int) + (c : Int) % 10 = (n : Int) := by omega
    have hse3 : (1 : Int) + Int.tmod (c : Int) 10 = (n : Int) := by rw [Int.tmod_eq_emod_of_nonneg (by omega)]; exact hse
    have hw0 : wrap64 (c : Int) = (c : Int) := by unfold wrap64; omega
    have hw1 : wrap64 (1 + (wrap64 (c : Int)).tmod 10) = (n : Int) := by rw [hw0, hse3]; unfold wrap64; omega
    have HNM := Lib.hid (fun W => names_t W n (by omega))
    have HST : Hid (∀ W sv, Up w W → StrsAt Any W sv (namesA n) → Calls Try.prog 34 #[sv, .slice p l.length cap] W (StPost W (namesA n) l)) := fun W sv hu hi =>
      shTree_t Any W sv _ (namesA n) l hi (HX.out.keep (hu.kept _)) (by rw [namesA_len]; omega) (fun k => by
        by_cases hk : k < n
        · rw [gs_namesA hk]; show 1 ≤ 70000; omega
        · have : gs (namesA n) k = ByteArray.empty := by simp [gs, namesA, show n ≤ k by omega]
          rw [this]; show 0 ≤ 70000; omega) hl2 hs2 raw_small
    have HEA := Lib.hid (shErr_A (l := l) hn0 hn10 hg)
    clear hf hn hr h hne hx0 hx1
    go_enter Try.func8, Try.ntmps8
    go_wp2_with fail
    refine HF.out.mono ?_
    rintro e w1 ⟨rfl, hu1⟩
    have HU1 := Lib.hid hu1
    clear hu1
    go_wp2_with fail
    refine (HNM.out _).mono ?_
    rintro e w2 ⟨hu2, v2, rfl, ho2⟩
    clear hse hse3 hw0 hw1
    have HU2 := Lib.hid (HU1.out.trans hu2)
    have HS2 := Lib.hid (HST.out w2 v2 HU2.out (ho2.strs.sub fun b _ _ => trivial))
    clear hu2 ho2
    go_wp2_with fail
    refine HS2.out.mono ?_
    rintro e w3 ⟨hu3, v3, rfl, ht3⟩
    have HU3 := Lib.hid (HU2.out.trans hu3)
    clear hu3
    by_cases hsh : shErr (namesA n) l = 0
    · obtain ⟨hv, hcan, hperm, hres⟩ := shTree_law hsh
      have HONE := Lib.hid (fun i hi => shTree_one hsh (i := i) hi)
      have HLV := Lib.hid (leaves_A hn10 hsh)
      have hz3 : ∀ k, (gs (shTree (namesA n) l).ns k).size ≤ 70000 := gs_small hperm
      obtain ⟨hp0, hp64, hnl, _, _⟩ := treeErr_zero hv
      rw [hres]
      clear hres hsh hperm HEA
      generalize shTree (namesA n) l = T at *
      obtain ⟨P, N, rfl, hP, hN⟩ := ht3
      obtain ⟨pp, pc, rfl, _, _⟩ := SlAt.open hP
      obtain ⟨np, nc, rfl, _, _⟩ := SlAt.open hN
      have hP : IntsAt Any w3 (.slice pp T.ps.length pc) T.ps := hP
      have hN : StrsAt Any w3 (.slice np T.ns.length nc) T.ns := hN
      have hal := Up.alloc w3 (.cells #[.slice pp T.ps.length pc, .slice np T.ns.length nc] 55)
      have HU4 := Lib.hid (HU3.out.trans hal)
      have b0 := box2_0 w3 (.slice pp T.ps.length pc) (.slice np T.ns.length nc) 55
      have b1 := box2_1 w3 (.slice pp T.ps.length pc) (.slice np T.ns.length nc) 55
      have HB0 := Lib.hid b0
      have HB1 := Lib.hid b1
      have HP4 := Lib.hid (IntsAt.keep hP (hal.kept _))
      have HN4 := Lib.hid (StrsAt.keep hN (hal.kept _))
      have HCN := Lib.hid (pcanonical_t Any _ (.agg #[.slice pp T.ps.length pc, .slice np T.ns.length nc]) T ⟨_, _, rfl, HP4.out, HN4.out⟩ (by omega) (by omega) hz3)
      have HV := Lib.hid hv
      have HCT := Lib.hid hcan
      have HSZ := Lib.hid hp64
      have HNL := Lib.hid hnl
      clear hal hP hN hv hcan hz3 hp0 hp64 hnl HU3
      go_wp2_with fail
      clear b0 b1
      generalize w3.alloc (.cells #[.slice pp T.ps.length pc, .slice np T.ns.length nc] 55) = w4 at *
      refine HCN.out.mono ?_
      rintro e w5 ⟨hu5, hcc⟩
      rcases hcc with ⟨hbad, _⟩ | ⟨_, cv, rfl, ht5⟩
      · exact absurd HV.out hbad
      rw [HCT.out] at ht5
      obtain ⟨P2, N2, rfl, hP2, hN2⟩ := ht5
      obtain ⟨pp2, pc2, rfl, _, _⟩ := SlAt.open hP2
      obtain ⟨np2, nc2, rfl, _, _⟩ := SlAt.open hN2
      have hP2 : IntsAt _ w5 (.slice pp2 T.ps.length pc2) T.ps := hP2
      have hN2 : StrsAt _ w5 (.slice np2 T.ns.length nc2) T.ns := hN2
      have hal := Up.alloc w5 (.cells #[.slice pp2 T.ps.length pc2, .slice np2 T.ns.length nc2] 55)
      have c0 := box2_0 w5 (.slice pp2 T.ps.length pc2) (.slice np2 T.ns.length nc2) 55
      have c1 := box2_1 w5 (.slice pp2 T.ps.length pc2) (.slice np2 T.ns.length nc2) 55
      have hu6 := hu5.trans hal
      have b0 := hu6.cell HB0.out
      have b1 := hu6.cell HB1.out
      have HU6 := Lib.hid (HU4.out.trans hu6)
      have HB0' := Lib.hid b0
      have HB1' := Lib.hid b1
      have HP6 := Lib.hid (IntsAt.keep HP4.out (hu6.kept _))
      have HN6 := Lib.hid (StrsAt.keep HN4.out (hu6.kept _))
      have HSM := Lib.hid (sameTree_yes Any Any _ _ _ T ⟨_, _, rfl, (IntsAt.keep hP2 (hal.kept _)).sub fun _ _ _ => trivial, (StrsAt.keep hN2 (hal.kept _)).sub fun _ _ _ => trivial⟩ ⟨_, _, rfl, HP6.out, HN6.out⟩ (by have := HSZ.out; omega) (by have := HSZ.out; have := HNL.out; omega))
      clear hal hu5 hu6 hP2 hN2 HP4 HN4 HB0 HB1 HU4 HCN
      go_wp2_with fail
      refine HSM.out.mono ?_
      rintro e w7 ⟨rfl, hu7⟩
      have b1 := hu7.cell HB1'.out
      have HB07 := Lib.hid (hu7.cell HB0'.out)
      have HU7 := Lib.hid (HU6.out.trans hu7)
      have HP7 := Lib.hid (IntsAt.keep HP6.out (hu7.kept _))
      have HN7 := Lib.hid (StrsAt.keep HN6.out (hu7.kept _))
      clear b0 c0 c1 hu7 HSM HB0' HB1' HP6 HN6 HU6
      go_wp2_with fail
      clear b1
      go_loopw [10, 12, 65] (fun d _ i wr => ∃ k : Nat, k ≤ T.ns.length ∧ i = .int .i64 k ∧ Hid (Owns w7.heap.size 9 wr d ((fltN (T.ns.take k)).map Value.string)) ∧ Hid (Up w7 wr)) (fun _ _ i _ => T.ns.length - (intOf i).toNat)
      case atStart => exact ⟨0, Nat.zero_le _, rfl, Owns.nil _ _ _, Up.refl _⟩
      case round =>
        obtain ⟨k, hk, rfl, hD, hUr⟩ := hrel
        obtain ⟨wo, rfl⟩ : ∃ wo : World, wo = wr := ⟨_, rfl⟩
        obtain ⟨d, rfl⟩ : ∃ d : Value, d = u10 := ⟨_, rfl⟩
        by_cases hlt : k < T.ns.length
        · obtain ⟨b, off, rfl, hcell⟩ := strs_get (StrsAt.keep HN7.out (hUr.out.kept _)) hlt
          have i1 : (0 : Int) ≤ (k : Int) := by omega
          have i2 : (k : Int) < (T.ns.length : Int) := by omega
          have i3 : (k : Int) < 64 := by have := HSZ.out; have := HNL.out; omega
          have HTK := Lib.hid (flt_take hlt)
          have HNIL := Lib.hid (toList_nil (gs T.ns k))
          have HLN : Hid ((fltN (T.ns.take k)).length ≤ 64) := by
            have h1 : (fltN (T.ns.take k)).length ≤ (T.ns.take k).length := List.length_filter_le _ _
            rw [List.length_take] at h1
            have := HSZ.out; have := HNL.out; unfold Hid; omega
          have HUA := Lib.hid hUr.out
          have HDA := Lib.hid hD.out
          have hsz := hUr.out.size
          have HLT := Lib.hid hlt
          clear hUr hD hk
          generalize gs T.ns k = s at *
          by_cases hs0 : s.size = 0
          · have hs1 : s.toList = [] := HNIL.out.2 hs0
            have HF : Hid (fltN (T.ns.take (k + 1)) = fltN (T.ns.take k)) := by unfold Hid; rw [HTK.out, if_pos hs0, List.append_nil]
            clear hs0
            go_wp2_with fail
            go_roundw
            case rel => exact ⟨k + 1, HLT.out, by have := HLT.out; have := HNL.out; have := HSZ.out; go_num, by rw [HF.out]; exact HDA.out, HUA.out⟩
            case measure => have := HLT.out; have := HNL.out; have := HSZ.out; simp [intOf]; omega
          · have hs1 : (s.toList == []) = false := by
              rw [Bool.eq_false_iff]; intro e; exact hs0 (HNIL.out.1 (by simpa using e))
            have hs2 : (s.toList != []) = true := by
              rw [bne_iff_ne]; intro e; exact hs0 (HNIL.out.1 (by simpa using e))
            have HF : Hid (fltN (T.ns.take (k + 1)) = fltN (T.ns.take k) ++ [s]) := by unfold Hid; rw [HTK.out, if_neg hs0]
            have HLM : Hid (((fltN (T.ns.take k)).map Value.string).length = (fltN (T.ns.take k)).length) := List.length_map _
            have HL6 : Hid ((fltN (T.ns.take k)).length ≤ 1000000) := by have := HLN.out; unfold Hid; omega
            clear hs0
            go_wp2_with (at_builtin; refine wpList_appM wo rfl _ _ 53 rfl w7.heap.size 9 (.string ⟨#[]⟩) 16 Try.underlying53 Try.infoStr2 rfl (by decide) HDA.out rfl (.string s) _ rfl rfl rfl _ HLM.out HL6.out hsz ?_; intro g8 cap8 w8 hown1 hgr1 hbe1)
            go_roundw
            case rel => exact ⟨k + 1, HLT.out, by have := HLT.out; have := HNL.out; have := HSZ.out; go_num, by unfold Hid; rw [HF.out, List.map_append]; exact hown1, Below.trans HUA.out hbe1⟩
            case measure => have := HLT.out; have := HNL.out; have := HSZ.out; simp [intOf]; omega
        · obtain rfl : k = T.ns.length := by omega
          have hD2 := hD.out
          rw [List.take_length] at hD2
          have hUW := hUr.out
          clear hlt hk hD hUr
          have hfl : (fltN T.ns).length ≤ 64 := by
            have h1 : (fltN T.ns).length ≤ T.ns.length := List.length_filter_le _ _
            have := HSZ.out; have := HNL.out; omega
          obtain ⟨g, cap2, hdv⟩ : ∃ g c, d = .slice g (fltN T.ns).length c := by
            obtain ⟨h1, h2 | ⟨g, c, _, h2, _⟩⟩ := hD2
            · exact ⟨none, 0, by rw [h2.1]; simp at h2; simp [h2]⟩
            · exact ⟨_, _, by rw [h2, List.length_map]⟩
          have HSO := Lib.hid (sort_str_t w7 wo d (fltN T.ns) hUW hD2 (by omega))
          rw [HLV.out] at HSO
          have HUW := Lib.hid hUW
          clear hD2 hUW hfl
          subst hdv
          go_wp2_with fail
          refine HSO.out.mono ?_
          rintro e w9 ⟨rfl, hu9, ho9⟩
          have HU9 := Lib.hid hu9
          have b0 := hu9.cell HB07.out
          have HO9 : Hid (w9.cell? ⟨w3.heap.size, 0, none⟩ = some (.slice pp T.ps.length pc) ∧ IntsAt Any w9 (.slice pp T.ps.length pc) T.ps ∧ StrsAt Any w9 (.slice g (fltN T.ns).length cap2) (namesA n)) := ⟨b0, IntsAt.keep HP7.out (hu9.kept _), ho9.strs.sub fun b _ _ => trivial⟩
          clear hu9 ho9 HSO HUW
          go_wp2_with fail
          clear b0
          go_loop [13, 14, 16, 81] (fun _ _ _ i => ∃ k : Nat, k ≤ T.ps.length ∧ i = .int .i64 k) (fun _ _ _ i => T.ps.length - (intOf i).toNat)
          case atStart => exact ⟨0, Nat.zero_le _, rfl⟩
          case round =>
            obtain ⟨k, hk, rfl⟩ := hrel
            have b0 := HO9.out.1
            by_cases hlt : k < T.ps.length
            · have HNE := Lib.hid (HONE.out k hlt)
              have i1 : (0 : Int) ≤ (k : Int) := by omega
              have i2 : (k : Int) < (T.ps.length : Int) := by omega
              have i3 : (k : Int) < 64 := by have := HSZ.out; omega
              go_wp2_with fail
              go_loop [14, 16, 87] (fun c _ i => ∃ j : Nat, j ≤ T.ps.length ∧ i = .int .i64 j ∧ c = .int .i64 (cntI T.ps k j)) (fun _ _ i => T.ps.length - (intOf i).toNat)
              case atStart => exact ⟨0, Nat.zero_le _, rfl, rfl⟩
              case round =>
                obtain ⟨j, hj, rfl, rfl⟩ := hrel
                have HCS : Hid (cntI T.ps k (j + 1) = if gi T.ps j = k then cntI T.ps k j + 1 else cntI T.ps k j) := rfl
                have hcj := cntI_le T.ps k j
                by_cases hjl : j < T.ps.length
                · obtain ⟨b, off, rfl, hcell⟩ := ints_get HO9.out.2.1 hjl
                  have j1 : (0 : Int) ≤ (j : Int) := by omega
                  have j2 : (j : Int) < (T.ps.length : Int) := by omega
                  have j3 : (j : Int) < 64 := by have := HSZ.out; omega
                  have hcb : (cntI T.ps k j : Int) < 64 := by omega
                  generalize gi T.ps j = x at *
                  by_cases e : x = k
                  · have d1 : (x == (k : Int)) = true := by simpa using e
                    have HF : Hid (cntI T.ps k (j + 1) = cntI T.ps k j + 1) := by unfold Hid; rw [HCS.out, if_pos e]
                    clear e
                    go_wp2_with fail
                    go_round
                    case rel => exact ⟨j + 1, by omega, by go_num, by rw [HF.out]; go_num⟩
                    case measure => simp [intOf]; omega
                  · have d1 : (x == (k : Int)) = false := by simpa using e
                    have HF : Hid (cntI T.ps k (j + 1) = cntI T.ps k j) := by unfold Hid; rw [HCS.out, if_neg e]
                    clear e
                    go_wp2_with fail
                    go_round
                    case rel => exact ⟨j + 1, by omega, by go_num, by rw [HF.out]⟩
                    case measure => simp [intOf]; omega
                · obtain rfl : j = T.ps.length := by omega
                  have hne := HNE.out
                  have d1 : ((cntI T.ps k T.ps.length : Int) == 1) = false := by simp; omega
                  go_wp2_with fail
                  go_round
                  case rel => exact ⟨k + 1, by omega, by go_num⟩
                  case measure => simp [intOf]; omega
            · obtain rfl : k = T.ps.length := by omega
              go_wp2_with fail
              refine (HNM.out _).mono ?_
              rintro e w10 ⟨hu10, v10, rfl, ho10⟩
              have HEQ := Lib.hid (equal_str_t Any Any w10 _ v10 (namesA n) (namesA n) (StrsAt.keep HO9.out.2.2 (hu10.kept _)) (ho10.strs.sub fun b _ _ => trivial) (by rw [namesA_len]; omega) (by rw [namesA_len]; omega))
              rw [decide_eq_true rfl] at HEQ
              have HU10 := Lib.hid (HU7.out.trans (HU9.out.trans hu10))
              clear hu10 ho10
              go_wp2_with fail
              refine HEQ.out.mono ?_
              rintro e w11 ⟨rfl, n11, rfl⟩
              go_wp2_with fail
              refine (HAW.out _).mono ?_
              rintro e w12 ⟨rfl, hu12⟩
              go_wp2_with fail
              go_ret
              exact ⟨rfl, (HU10.out.trans (Up.drewN _ _)).trans hu12⟩
    · have hre : shRes (namesA n) l = shErr (namesA n) l := by unfold shRes; rw [if_pos hsh]
      have htr : shTree (namesA n) l = ⟨[], []⟩ := by unfold shTree; rw [if_pos hsh]
      rw [htr] at ht3
      rw [hre]
      obtain ⟨P, N, rfl, hP, hN⟩ := ht3
      obtain ⟨pp, pc, rfl, _, _⟩ := SlAt.open hP
      obtain ⟨np, nc, rfl, _, _⟩ := SlAt.open hN
      clear hP hN
      have hal := Up.alloc w3 (.cells #[.slice pp 0 pc, .slice np 0 nc] 55)
      have HU4 := Lib.hid (HU3.out.trans hal)
      have hb0 := box2_0 w3 (.slice pp 0 pc) (.slice np 0 nc) 55
      clear hal
      rcases HEA.out with he | he | he
      · exact absurd he hsh
      · rw [he]
        clear hsh
        go_wp2_with (first | (go_at_call 12; refine (HAW.out _).mono ?_; rintro e w' ⟨rfl, hu⟩) | fail)
        go_ret
        exact ⟨rfl, HU4.out.trans hu⟩
      · rw [he]
        clear hsh
        go_wp2_with (first | (go_at_call 12; refine (HAW.out _).mono ?_; rintro e w' ⟨rfl, hu⟩) | fail)
        go_ret
        exact ⟨rfl, HU4.out.trans hu⟩
end Go.Proofs.Ytkfndaebmbnmaaa
