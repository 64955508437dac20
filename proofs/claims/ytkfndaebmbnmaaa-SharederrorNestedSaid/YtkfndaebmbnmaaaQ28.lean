/- The walk of SharederrorLeaves. The walk of SharederrorNested. The walk of SharederrorNested. -/
import Derived.Test.YtkfndaebmbnmaaaQ19
import Derived.Test.YtkfndaebmbnmaaaQ24
import Derived.Test.YtkfndaebmbnmaaaQ20
import Derived.Test.YtkfndaebmbnmaaaQ27
namespace Go.Proofs.Ytkfndaebmbnmaaa
open Go.RowKit Go.Deep
theorem flt_take {ns : List ByteArray} {k : Nat} (hk : k < ns.length) : fltN (ns.take (k + 1)) = fltN (ns.take k) ++ if (gs ns k).size = 0 then [] else [gs ns k] := by
  have hg : gs ns k = ns[k] := by simp [gs, hk]
  rw [List.take_succ_eq_append_getElem hk, fltN_app, ← hg]
  congr 1
  unfold fltN
  by_cases h : (gs ns k).size = 0
  · rw [if_pos h, List.filter_cons_of_neg (by simp [h])]; rfl
  · rw [if_neg h, List.filter_cons_of_pos (by simpa using h)]; rfl
theorem cntI_le (ps : List Int) (i : Int) : ∀ k, cntI ps i k ≤ k
  | 0 => Nat.le_refl _
  | k + 1 => by
    have := cntI_le ps i k
    rw [cntI]; split <;> omega
theorem gs_small {n : Nat} {ns : List ByteArray} (h : (fltN ns).Perm (namesA n)) (k : Nat) : (gs ns k).size ≤ 70000 := by
  by_cases hk : k < ns.length
  · by_cases hz : (gs ns k).size = 0
    · omega
    · have h1 : gs ns k ∈ ns := by simp [gs, hk]
      have h2 : gs ns k ∈ fltN ns := List.mem_filter.2 ⟨h1, by simpa using hz⟩
      obtain ⟨i, _, h4⟩ := List.mem_map.1 (h.mem_iff.1 h2)
      rw [← h4]; show 1 ≤ 70000; omega
  · have : gs ns k = ByteArray.empty := by simp [gs, show ns.length ≤ k by omega]
    rw [this]; show 0 ≤ 70000; omega
set_option maxRecDepth 100000 in
set_option maxHeartbeats 8000000 in
theorem leaves_law (w : World) (v : Value) (l : List Grp) (x : Int) (h : GrpsAt Any w v l) (hn : l.length ≤ 9223372036854775807) (hr : ∀ k, (gg l k).src.length ≤ 9223372036854775807) (hx0 : 0 ≤ x) (hx1 : x ≤ 255) :
    Calls Try.prog 8 #[v, .int .u8 x] w fun e w' => e = .returned (.bool true) ∧ Up w w' := by
  obtain ⟨p, cap, rfl, hcap⟩ := grps_open h
  have HX := Lib.hid h
  have HF := Lib.hid (fine35_t Any w _ l h hn hr)
  have HAW := Lib.hid awake35_t
  cases hf : fine35B l
  · rw [hf] at HF
    clear hf hn hr h
    go_enter Try.func8, Try.ntmps8
    go_wp2_with (first | (go_at_call 15; refine HF.out.mono ?_; rintro e w1 ⟨rfl, hu1⟩) | (go_at_call 12; refine (HAW.out _).mono ?_; rintro e w' ⟨rfl, hu⟩) | fail)
    go_ret
    exact ⟨rfl, hu1.trans hu⟩
  · obtain ⟨hl, hs, hg⟩ := fine35_ok hf
    rw [hf] at HF
    have hl2 : l.length ≤ 1000000 := by omega
    have hs2 : ∀ k, (gg l k).src.length ≤ 1000000 := fun k => by have := hs k; omega
    obtain ⟨c, rfl⟩ := Int.eq_ofNat_of_zero_le hx0
    obtain ⟨n, hne⟩ : ∃ n, n = 1 + c % 10 := ⟨_, rfl⟩
    have hn0 : 0 < n := by omega
    have hn10 : n ≤ 10 := by omega
    have hse : (1 : Int) + (c : Int) % 10 = (n : Int) := by omega
    have hse3 : (1 : Int) + Int.tmod (c : Int) 10 = (n : Int) := by rw [Int.tmod_eq_emod_of_nonneg (by omega)]; exact hse
    have hw0 : wrap64 (c : Int) = (c : Int) := by unfold wrap64; omega
    have hw1 : wrap64 (1 + (wrap64 (c : Int)).tmod 10) = (n : Int) := by rw [hw0, hse3]; unfold wrap64; omega
    have HNM := Lib.hid (fun W => names_t W n (by omega))
    have HST : Hid (∀ W sv, Up w W → StrsAt Any W sv (namesA n) → Calls Try.prog 34 #[sv, .slice p l.length cap] W (StPost W (namesA n) l)) := fun W sv hu hi =>
      shTree_t Any W sv _ (namesA n) l hi (HX.out.keep (hu.kept _)) (by rw [namesA_len]; omega) (fun k => by
        by_cases hk : k < n
        · rw [gs_namesA hk]; show 1 ≤ 70000; omega
        · have : gs (namesA n) k = ByteArray.empty := by simp [gs, namesA, show n ≤ k by omega]
          rw [this]; show 0 ≤ 70000; omega) hl2 hs2 raw_small
    have HEA := Lib.hid (shErr_A (l := l) hn0 hn10 hg)
    clear hf hn hr h hne hx0 hx1
    go_enter Try.func8, Try.ntmps8
    go_wp2_with fail
    refine HF.out.mono ?_
    rintro e w1 ⟨rfl, hu1⟩
    have HU1 := Lib.hid hu1
    clear hu1
    go_wp2_with fail
    refine (HNM.out _).mono ?_
    rintro e w2 ⟨hu2, v2, rfl, ho2⟩
    clear hse hse3 hw0 hw1
    have HU2 := Lib.hid (HU1.out.trans hu2)
    have HS2 := Lib.hid (HST.out w2 v2 HU2.out (ho2.strs.sub fun b _ _ => trivial))
    clear hu2 ho2
    go_wp2_with fail
    refine HS2.out.mono ?_
    rintro e w3 ⟨hu3, v3, rfl, ht3⟩
    have HU3 := Lib.hid (HU2.out.trans hu3)
    clear hu3
    by_cases hsh : shErr (namesA n) l = 0
    · obtain ⟨hv, hcan, hperm, hres⟩ := shTree_law hsh
      have HONE := Lib.hid (fun i hi => shTree_one hsh (i := i) hi)
      have HLV := Lib.hid (leaves_A hn10 hsh)
      have hz3 : ∀ k, (gs (shTree (namesA n) l).ns k).size ≤ 70000 := gs_small hperm
      obtain ⟨hp0, hp64, hnl, _, _⟩ := treeErr_zero hv
      rw [hres]
      clear hres hsh hperm HEA
      generalize shTree (namesA n) l = T at *
      obtain ⟨P, N, rfl, hP, hN⟩ := ht3
      obtain ⟨pp, pc, rfl, _, _⟩ := SlAt.open hP
      obtain ⟨np, nc, rfl, _, _⟩ := SlAt.open hN
      have hP : IntsAt Any w3 (.slice pp T.ps.length pc) T.ps := hP
      have hN : StrsAt Any w3 (.slice np T.ns.length nc) T.ns := hN
      have hal := Up.alloc w3 (.cells #[.slice pp T.ps.length pc, .slice np T.ns.length nc] 55)
      have HU4 := Lib.hid (HU3.out.trans hal)
      have b0 := box2_0 w3 (.slice pp T.ps.length pc) (.slice np T.ns.length nc) 55
      have b1 := box2_1 w3 (.slice pp T.ps.length pc) (.slice np T.ns.length nc) 55
      have HB0 := Lib.hid b0
      have HB1 := Lib.hid b1
      have HP4 := Lib.hid (IntsAt.keep hP (hal.kept _))
      have HN4 := Lib.hid (StrsAt.keep hN (hal.kept _))
      have HCN := Lib.hid (pcanonical_t Any _ (.agg #[.slice pp T.ps.length pc, .slice np T.ns.length nc]) T ⟨_, _, rfl, HP4.out, HN4.out⟩ (by omega) (by omega) hz3)
      have HV := Lib.hid hv
      have HCT := Lib.hid hcan
      have HSZ := Lib.hid hp64
      have HNL := Lib.hid hnl
      clear hal hP hN hv hcan hz3 hp0 hp64 hnl HU3
      go_wp2_with fail
      clear b0 b1
      generalize w3.alloc (.cells #[.slice pp T.ps.length pc, .slice np T.ns.length nc] 55) = w4 at *
      refine HCN.out.mono ?_
      rintro e w5 ⟨hu5, hcc⟩
      rcases hcc with ⟨hbad, _⟩ | ⟨_, cv, rfl, ht5⟩
      · exact absurd HV.out hbad
      rw [HCT.out] at ht5
      obtain ⟨P2, N2, rfl, hP2, hN2⟩ := ht5
      obtain ⟨pp2, pc2, rfl, _, _⟩ := SlAt.open hP2
      obtain ⟨np2, nc2, rfl, _, _⟩ := SlAt.open hN2
      have hP2 : IntsAt _ w5 (.slice pp2 T.ps.length pc2) T.ps := hP2
      have hN2 : StrsAt _ w5 (.slice np2 T.ns.length nc2) T.ns := hN2
      have hal := Up.alloc w5 (.cells #[.slice pp2 T.ps.length pc2, .slice np2 T.ns.length nc2] 55)
      have c0 := box2_0 w5 (.slice pp2 T.ps.length pc2) (.slice np2 T.ns.length nc2) 55
      have c1 := box2_1 w5 (.slice pp2 T.ps.length pc2) (.slice np2 T.ns.length nc2) 55
      have hu6 := hu5.trans hal
      have b0 := hu6.cell HB0.out
      have b1 := hu6.cell HB1.out
      have HU6 := Lib.hid (HU4.out.trans hu6)
      have HB0' := Lib.hid b0
      have HB1' := Lib.hid b1
      have HP6 := Lib.hid (IntsAt.keep HP4.out (hu6.kept _))
      have HN6 := Lib.hid (StrsAt.keep HN4.out (hu6.kept _))
      have HSM := Lib.hid (sameTree_yes Any Any _ _ _ T ⟨_, _, rfl, (IntsAt.keep hP2 (hal.kept _)).sub fun _ _ _ => trivial, (StrsAt.keep hN2 (hal.kept _)).sub fun _ _ _ => trivial⟩ ⟨_, _, rfl, HP6.out, HN6.out⟩ (by have := HSZ.out; omega) (by have := HSZ.out; have := HNL.out; omega))
      clear hal hu5 hu6 hP2 hN2 HP4 HN4 HB0 HB1 HU4 HCN
      go_wp2_with fail
      refine HSM.out.mono ?_
      rintro e w7 ⟨rfl, hu7⟩
      have b1 := hu7.cell HB1'.out
      have HB07 := Lib.hid (hu7.cell HB0'.out)
      have HU7 := Lib.hid (HU6.out.trans hu7)
      have HP7 := Lib.hid (IntsAt.keep HP6.out (hu7.kept _))
      have HN7 := Lib.hid (StrsAt.keep HN6.out (hu7.kept _))
      clear b0 c0 c1 hu7 HSM HB0' HB1' HP6 HN6 HU6
      go_wp2_with fail
      clear b1
      go_loopw [10, 12, 65] (fun d _ i wr => ∃ k : Nat, k ≤ T.ns.length ∧ i = .int .i64 k ∧ Hid (Owns w7.heap.size 9 wr d ((fltN (T.ns.take k)).map Value.string)) ∧ Hid (Up w7 wr)) (fun _ _ i _ => T.ns.length - (intOf i).toNat)
      case atStart => exact ⟨0, Nat.zero_le _, rfl, Owns.nil _ _ _, Up.refl _⟩
      case round =>
        obtain ⟨k, hk, rfl, hD, hUr⟩ := hrel
        obtain ⟨wo, rfl⟩ : ∃ wo : World, wo = wr := ⟨_, rfl⟩
        obtain ⟨d, rfl⟩ : ∃ d : Value, d = u10 := ⟨_, rfl⟩
        by_cases hlt : k < T.ns.length
        · obtain ⟨b, off, rfl, hcell⟩ := strs_get (StrsAt.keep HN7.out (hUr.out.kept _)) hlt
          have i1 : (0 : Int) ≤ (k : Int) := by omega
          have i2 : (k : Int) < (T.ns.length : Int) := by omega
          have i3 : (k : Int) < 64 := by have := HSZ.out; have := HNL.out; omega
          have HTK := Lib.hid (flt_take hlt)
          have HNIL := Lib.hid (toList_nil (gs T.ns k))
          have HLN : Hid ((fltN (T.ns.take k)).length ≤ 64) := by
            have h1 : (fltN (T.ns.take k)).length ≤ (T.ns.take k).length := List.length_filter_le _ _
            rw [List.length_take] at h1
            have := HSZ.out; have := HNL.out; unfold Hid; omega
          have HUA := Lib.hid hUr.out
          have HDA := Lib.hid hD.out
          have hsz := hUr.out.size
          have HLT := Lib.hid hlt
          clear hUr hD hk
          generalize gs T.ns k = s at *
          by_cases hs0 : s.size = 0
          · have hs1 : s.toList = [] := HNIL.out.2 hs0
            have HF : Hid (fltN (T.ns.take (k + 1)) = fltN (T.ns.take k)) := by unfold Hid; rw [HTK.out, if_pos hs0, List.append_nil]
            clear hs0
            go_wp2_with fail
            go_roundw
            case rel => exact ⟨k + 1, HLT.out, by have := HLT.out; have := HNL.out; have := HSZ.out; go_num, by rw [HF.out]; exact HDA.out, HUA.out⟩
            case measure => have := HLT.out; have := HNL.out; have := HSZ.out; simp [intOf]; omega
          · have hs1 : (s.toList == []) = false := by
              rw [Bool.eq_false_iff]; intro e; exact hs0 (HNIL.out.1 (by simpa using e))
            have hs2 : (s.toList != []) = true := by
              rw [bne_iff_ne]; intro e; exact hs0 (HNIL.out.1 (by simpa using e))
            have HF : Hid (fltN (T.ns.take (k + 1)) = fltN (T.ns.take k) ++ [s]) := by unfold Hid; rw [HTK.out, if_neg hs0]
            have HLM : Hid (((fltN (T.ns.take k)).map Value.string).length = (fltN (T.ns.take k)).length) := List.length_map _
            have HL6 : Hid ((fltN (T.ns.take k)).length ≤ 1000000) := by have := HLN.out; unfold Hid; omega
            clear hs0
            go_wp2_with (at_builtin; refine wpList_appM wo rfl _ _ 53 rfl w7.heap.size 9 (.string ⟨#[]⟩) 16 Try.underlying53 Try.infoStr2 rfl (by decide) HDA.out rfl (.string s) _ rfl rfl rfl _ HLM.out HL6.out hsz ?_; intro g8 cap8 w8 hown1 hgr1 hbe1)
            go_roundw
            case rel => exact ⟨k + 1, HLT.out, by have := HLT.out; have := HNL.out; have := HSZ.out; go_num, by unfold Hid; rw [HF.out, List.map_append]; exact hown1, Below.trans HUA.out hbe1⟩
            case measure => have := HLT.out; have := HNL.out; have := HSZ.out; simp [intOf]; omega
        · obtain rfl : k = T.ns.length := by omega
          have hD2 := hD.out
          rw [List.take_length] at hD2
          have hUW := hUr.out
          clear hlt hk hD hUr
          have hfl : (fltN T.ns).length ≤ 64 := by
            have h1 : (fltN T.ns).length ≤ T.ns.length := List.length_filter_le _ _
            have := HSZ.out; have := HNL.out; omega
          obtain ⟨g, cap2, hdv⟩ : ∃ g c, d = .slice g (fltN T.ns).length c := by
            obtain ⟨h1, h2 | ⟨g, c, _, h2, _⟩⟩ := hD2
            · exact ⟨none, 0, by rw [h2.1]; simp at h2; simp [h2]⟩
            · exact ⟨_, _, by rw [h2, List.length_map]⟩
          have HSO := Lib.hid (sort_str_t w7 wo d (fltN T.ns) hUW hD2 (by omega))
          rw [HLV.out] at HSO
          have HUW := Lib.hid hUW
          clear hD2 hUW hfl
          subst hdv
          go_wp2_with fail
          refine HSO.out.mono ?_
          rintro e w9 ⟨rfl, hu9, ho9⟩
          have HU9 := Lib.hid hu9
          have b0 := hu9.cell HB07.out
          have HO9 : Hid (w9.cell? ⟨w3.heap.size, 0, none⟩ = some (.slice pp T.ps.length pc) ∧ IntsAt Any w9 (.slice pp T.ps.length pc) T.ps ∧ StrsAt Any w9 (.slice g (fltN T.ns).length cap2) (namesA n)) := ⟨b0, IntsAt.keep HP7.out (hu9.kept _), ho9.strs.sub fun b _ _ => trivial⟩
          clear hu9 ho9 HSO HUW
          go_wp2_with fail
          clear b0
          go_loop [13, 14, 16, 81] (fun _ _ _ i => ∃ k : Nat, k ≤ T.ps.length ∧ i = .int .i64 k) (fun _ _ _ i => T.ps.length - (intOf i).toNat)
          case atStart => exact ⟨0, Nat.zero_le _, rfl⟩
          case round =>
            obtain ⟨k, hk, rfl⟩ := hrel
            have b0 := HO9.out.1
            by_cases hlt : k < T.ps.length
            · have HNE := Lib.hid (HONE.out k hlt)
              have i1 : (0 : Int) ≤ (k : Int) := by omega
              have i2 : (k : Int) < (T.ps.length : Int) := by omega
              have i3 : (k : Int) < 64 := by have := HSZ.out; omega
              go_wp2_with fail
              go_loop [14, 16, 87] (fun c _ i => ∃ j : Nat, j ≤ T.ps.length ∧ i = .int .i64 j ∧ c = .int .i64 (cntI T.ps k j)) (fun _ _ i => T.ps.length - (intOf i).toNat)
              case atStart => exact ⟨0, Nat.zero_le _, rfl, rfl⟩
              case round =>
                obtain ⟨j, hj, rfl, rfl⟩ := hrel
                have HCS : Hid (cntI T.ps k (j + 1) = if gi T.ps j = k then cntI T.ps k j + 1 else cntI T.ps k j) := rfl
                have hcj := cntI_le T.ps k j
                by_cases hjl : j < T.ps.length
                · obtain ⟨b, off, rfl, hcell⟩ := ints_get HO9.out.2.1 hjl
                  have j1 : (0 : Int) ≤ (j : Int) := by omega
                  have j2 : (j : Int) < (T.ps.length : Int) := by omega
                  have j3 : (j : Int) < 64 := by have := HSZ.out; omega
                  have hcb : (cntI T.ps k j : Int) < 64 := by omega
                  generalize gi T.ps j = x at *
                  by_cases e : x = k
                  · have d1 : (x == (k : Int)) = true := by simpa using e
                    have HF : Hid (cntI T.ps k (j + 1) = cntI T.ps k j + 1) := by unfold Hid; rw [HCS.out, if_pos e]
                    clear e
                    go_wp2_with fail
                    go_round
                    case rel => exact ⟨j + 1, by omega, by go_num, by rw [HF.out]; go_num⟩
                    case measure => simp [intOf]; omega
                  · have d1 : (x == (k : Int)) = false := by simpa using e
                    have HF : Hid (cntI T.ps k (j + 1) = cntI T.ps k j) := by unfold Hid; rw [HCS.out, if_neg e]
                    clear e
                    go_wp2_with fail
                    go_round
                    case rel => exact ⟨j + 1, by omega, by go_num, by rw [HF.out]⟩
                    case measure => simp [intOf]; omega
                · obtain rfl : j = T.ps.length := by omega
                  have hne := HNE.out
                  have d1 : ((cntI T.ps k T.ps.length : Int) == 1) = false := by simp; omega
                  go_wp2_with fail
                  go_round
                  case rel => exact ⟨k + 1, by omega, by go_num⟩
                  case measure => simp [intOf]; omega
            · obtain rfl : k = T.ps.length := by omega
              go_wp2_with fail
              refine (HNM.out _).mono ?_
              rintro e w10 ⟨hu10, v10, rfl, ho10⟩
              have HEQ := Lib.hid (equal_str_t Any Any w10 _ v10 (namesA n) (namesA n) (StrsAt.keep HO9.out.2.2 (hu10.kept _)) (ho10.strs.sub fun b _ _ => trivial) (by rw [namesA_len]; omega) (by rw [namesA_len]; omega))
              rw [decide_eq_true rfl] at HEQ
              have HU10 := Lib.hid (HU7.out.trans (HU9.out.trans hu10))
              clear hu10 ho10
              go_wp2_with fail
              refine HEQ.out.mono ?_
              rintro e w11 ⟨rfl, n11, rfl⟩
              go_wp2_with fail
              refine (HAW.out _).mono ?_
              rintro e w12 ⟨rfl, hu12⟩
              go_wp2_with fail
              go_ret
              exact ⟨rfl, (HU10.out.trans (Up.drewN _ _)).trans hu12⟩
    · have hre : shRes (namesA n) l = shErr (namesA n) l := by unfold shRes; rw [if_pos hsh]
      have htr : shTree (namesA n) l = ⟨[], []⟩ := by unfold shTree; rw [if_pos hsh]
      rw [htr] at ht3
      rw [hre]
      obtain ⟨P, N, rfl, hP, hN⟩ := ht3
      obtain ⟨pp, pc, rfl, _, _⟩ := SlAt.open hP
      obtain ⟨np, nc, rfl, _, _⟩ := SlAt.open hN
      clear hP hN
      have hal := Up.alloc w3 (.cells #[.slice pp 0 pc, .slice np 0 nc] 55)
      have HU4 := Lib.hid (HU3.out.trans hal)
      have hb0 := box2_0 w3 (.slice pp 0 pc) (.slice np 0 nc) 55
      clear hal
      rcases HEA.out with he | he | he
      · exact absurd he hsh
      · rw [he]
        clear hsh
        go_wp2_with (first | (go_at_call 12; refine (HAW.out _).mono ?_; rintro e w' ⟨rfl, hu⟩) | fail)
        go_ret
        exact ⟨rfl, HU4.out.trans hu⟩
      · rw [he]
        clear hsh
        go_wp2_with (first | (go_at_call 12; refine (HAW.out _).mono ?_; rintro e w' ⟨rfl, hu⟩) | fail)
        go_ret
        exact ⟨rfl, HU4.out.trans hu⟩
end Go.Proofs.Ytkfndaebmbnmaaa
namespace Go.Proofs.Ytkfndaebmbnmaaa
open Go.RowKit Go.Deep
/-- The last source is no name's number. -/
def lastB (n : Nat) (g : Grp) : Bool := decide ((n : Int) ≤ gi g.src (g.src.length - 1))
theorem last_mx {l : List Int} (h : srcOk l = true) : mxL l = gi l (l.length - 1) := by
  obtain ⟨_, h0, hm⟩ := srcOk_small h
  have asc : ∀ k, k < l.length → ∀ j, j < k → gi l j < gi l k := by
    intro k
    induction k with
    | zero => intro _ j hj; omega
    | succ k ih =>
      intro hk j hj
      have h1 := hm (k + 1) (by omega) hk
      rw [Nat.add_sub_cancel] at h1
      by_cases e : j = k
      · subst e; exact h1
      · have := ih (by omega) j (by omega); omega
  have up : ∀ k, k ≤ l.length → mxK l k ≤ gi l (l.length - 1) := by
    intro k
    induction k with
    | zero =>
      intro _
      show gi l 0 ≤ _
      by_cases e : l.length - 1 = 0
      · rw [e]; omega
      · have := asc (l.length - 1) (by omega) 0 (by omega); omega
    | succ k ih =>
      intro hk
      have h1 := ih (by omega)
      rw [mxK]
      by_cases e : l.length - 1 = k
      · subst e; omega
      · have := asc (l.length - 1) (by omega) k (by omega); omega
  have h1 := up l.length (Nat.le_refl _)
  have h2 := mxK_ge l (show l.length - 1 < l.length by omega)
  unfold mxL; omega
theorem far_last {l : List Grp} (hg : gcErr l = 0) (n : Nat) : farB l n = (List.range l.length).any fun k => lastB n (gg l k) := by
  unfold farB
  rw [Bool.eq_iff_iff, List.any_eq_true, List.any_eq_true]
  constructor
  · rintro ⟨k, hk, h⟩
    refine ⟨k, hk, ?_⟩
    rw [last_mx ((gcErr_zero hg).2 k (List.mem_range.1 hk)).2.2.2] at h; exact h
  · rintro ⟨k, hk, h⟩
    refine ⟨k, hk, ?_⟩
    rw [last_mx ((gcErr_zero hg).2 k (List.mem_range.1 hk)).2.2.2]; exact h
theorem shErr_N {n : Nat} {l : List Grp} (h0 : 0 < n) (hn : n ≤ 10) (hg : gcErr l = 0) (hf : farB l n = false) : shErr (namesA n) l = if cfL l = [] then 0 else 17 := by
  unfold shErr
  have hl := namesA_len n
  rw [if_neg (by omega), if_neg (by omega), if_neg (by rw [namesA_err hn]; simp), if_neg (by rw [hg]; simp), hl, hf]
  by_cases e : cfL l = []
  · rw [if_pos e, if_neg (by simp), if_neg (by simp [e])]
  · rw [if_neg e, if_neg (by simp), if_pos e]
theorem nmLt_num : ∀ i, i < 10 → (nmLt i).size = 1 ∧ lvNum (nmLt i) = (i : Nat) := by decide +kernel
theorem nil_shape {w : World} {v : Value} (h : IntsAt Any w v []) : ∃ q c, v = .slice q 0 c := by
  obtain ⟨q, c, rfl, _⟩ := h
  exact ⟨q, c, rfl⟩
set_option maxRecDepth 100000 in
set_option maxHeartbeats 400000 in
theorem nest1_t (S : Nat → Prop) (w : World) (g : Grp) (sv : Value) (pb n : Nat) (hc : w.cell? ⟨pb, 0, none⟩ = some (.int .i64 n)) (hi : IntsAt S w sv g.src) (h0 : 0 < g.src.length) (hn : g.src.length ≤ 1000000) :
    Calls Try.prog 40 (#[gAgg g sv] ++ #[.pointer (some ⟨pb, 0, none⟩)]) w fun e w' => e = .returned (.bool (lastB n g)) ∧ Up w w' := by
  show Calls Try.prog 40 #[.agg #[.int .i64 g.un, .int .i64 g.st, sv], .pointer (some ⟨pb, 0, none⟩)] w _
  obtain ⟨q, cap, rfl, hcap, _⟩ := SlAt.open hi
  have hal := Up.alloc w (.cells #[.int .i64 g.un, .int .i64 g.st, .slice q g.src.length cap] 32)
  obtain ⟨_, _, hb2⟩ := box3 w (.int .i64 g.un) (.int .i64 g.st) (.slice q g.src.length cap) 32
  have hb3 := hal.cell hc
  obtain ⟨b, off, rfl, hcell⟩ := ints_get (IntsAt.keep hi (hal.kept S)) (k := g.src.length - 1) (by omega)
  have hi1 : (0 : Int) ≤ (g.src.length : Int) - 1 := by omega
  have hi2 : (g.src.length : Int) - 1 < (g.src.length : Int) := by omega
  have hi3 : ((g.src.length - 1 : Nat) : Int) = (g.src.length : Int) - 1 := by omega
  have hi4 : ((g.src.length : Int) - 1).toNat = g.src.length - 1 := by omega
  have HU := Lib.hid hal
  have HLB : Hid (lastB n g = decide ((n : Int) ≤ gi g.src (g.src.length - 1))) := rfl
  clear hal hi hc
  generalize gi g.src (g.src.length - 1) = z at *
  go_enter Try.func40, Try.ntmps40
  go_wp2_with fail
  go_quiet (fail)
  go_wp2_with fail
  go_ret
  exact ⟨ret_bool HLB.out.symm, HU.out.trans (Up.drewN _ _)⟩
set_option maxRecDepth 100000 in
set_option maxHeartbeats 400000 in
theorem nest2_t (S T : Nat → Prop) (w : World) (g : Grp) (sv vo : Value) (pb : Nat) (own : List Int) (hc : w.cell? ⟨pb, 0, none⟩ = some vo) (ho : IntsAt T w vo own) (hi : IntsAt S w sv g.src) (hn : g.src.length ≤ 1000000) (hm : own.length ≤ 1000000) :
    Calls Try.prog 44 (#[gAgg g sv] ++ #[.pointer (some ⟨pb, 0, none⟩)]) w fun e w' => e = .returned (.bool (decide (g.src = own))) ∧ Up w w' := by
  show Calls Try.prog 44 #[.agg #[.int .i64 g.un, .int .i64 g.st, sv], .pointer (some ⟨pb, 0, none⟩)] w _
  obtain ⟨q, cap, rfl, hcap, _⟩ := SlAt.open hi
  obtain ⟨oq, oc, rfl, _, _⟩ := SlAt.open ho
  have hal := Up.alloc w (.cells #[.int .i64 g.un, .int .i64 g.st, .slice q g.src.length cap] 32)
  obtain ⟨_, _, hb2⟩ := box3 w (.int .i64 g.un) (.int .i64 g.st) (.slice q g.src.length cap) 32
  have hb3 := hal.cell hc
  have HM := Lib.hid (equal_int_t S T _ _ _ g.src own (IntsAt.keep hi (hal.kept S)) (IntsAt.keep ho (hal.kept T)) hn hm)
  have HU := Lib.hid hal
  clear hal hi hc ho
  go_enter Try.func44, Try.ntmps44
  go_wp2_with fail
  refine HM.out.mono ?_
  rintro e w' ⟨rfl, n, rfl⟩
  go_wp2_with fail
  go_ret
  exact ⟨rfl, HU.out.trans (Up.drewN _ _)⟩
end Go.Proofs.Ytkfndaebmbnmaaa
namespace Go.Proofs.Ytkfndaebmbnmaaa
open Go.RowKit Go.Deep
set_option maxRecDepth 100000 in
set_option maxHeartbeats 8000000 in
theorem nested_law (w : World) (v : Value) (l : List Grp) (x : Int) (h : GrpsAt Any w v l) (hn : l.length ≤ 9223372036854775807) (hr : ∀ k, (gg l k).src.length ≤ 9223372036854775807) (hx0 : 0 ≤ x) (hx1 : x ≤ 255) :
    Calls Try.prog 9 #[v, .int .u8 x] w fun e w' => e = .returned (.bool true) ∧ Up w w' := by
  obtain ⟨p, cap, rfl, hcap⟩ := grps_open h
  have HX := Lib.hid h
  have HF := Lib.hid (fine35_t Any w _ l h hn hr)
  have HAW := Lib.hid awake35_t
  cases hf : fine35B l
  · rw [hf] at HF
    clear hf hn hr h
    go_enter Try.func9, Try.ntmps9
    go_wp2_with (first | (go_at_call 15; refine HF.out.mono ?_; rintro e w1 ⟨rfl, hu1⟩) | (go_at_call 12; refine (HAW.out _).mono ?_; rintro e w' ⟨rfl, hu⟩) | fail)
    go_ret
    exact ⟨rfl, hu1.trans hu⟩
  · obtain ⟨hl, hs, hg⟩ := fine35_ok hf
    rw [hf] at HF
    have hl2 : l.length ≤ 1000000 := by omega
    have hs2 : ∀ k, (gg l k).src.length ≤ 1000000 := fun k => by have := hs k; omega
    obtain ⟨c, rfl⟩ := Int.eq_ofNat_of_zero_le hx0
    obtain ⟨n, hne⟩ : ∃ n, n = 1 + c % 10 := ⟨_, rfl⟩
    have hn0 : 0 < n := by omega
    have hn10 : n ≤ 10 := by omega
    have hse : (1 : Int) + (c : Int) % 10 = (n : Int) := by omega
    have hse3 : (1 : Int) + Int.tmod (c : Int) 10 = (n : Int) := by rw [Int.tmod_eq_emod_of_nonneg (by omega)]; exact hse
    have hw0 : wrap64 (c : Int) = (c : Int) := by unfold wrap64; omega
    have hw1 : wrap64 (1 + (wrap64 (c : Int)).tmod 10) = (n : Int) := by rw [hw0, hse3]; unfold wrap64; omega
    have HNM := Lib.hid (fun W => names_t W n (by omega))
    have HST : Hid (∀ W sv, Up w W → StrsAt Any W sv (namesA n) → Calls Try.prog 34 #[sv, .slice p l.length cap] W (StPost W (namesA n) l)) := fun W sv hu hi =>
      shTree_t Any W sv _ (namesA n) l hi (HX.out.keep (hu.kept _)) (by rw [namesA_len]; omega) (fun k => by
        by_cases hk : k < n
        · rw [gs_namesA hk]; show 1 ≤ 70000; omega
        · have : gs (namesA n) k = ByteArray.empty := by simp [gs, namesA, show n ≤ k by omega]
          rw [this]; show 0 ≤ 70000; omega) hl2 hs2 raw_small
    have hpos : ∀ k, k < l.length → 0 < (gg l k).src.length := fun k hk => (srcOk_small ((gcErr_zero hg).2 k hk).2.2.2).2.1
    have HL1 : Hid (∀ W b, Up w W → W.cell? ⟨b, 0, none⟩ = some (.int .i64 n) → Calls Try.prog 24 #[.slice p l.length cap, .func (.func 40) #[] #[.pointer (some ⟨b, 0, none⟩)]] W fun e w' => e = .returned (.bool (farB l n)) ∧ Up W w') := fun W b hu hb => by
      rw [far_last hg]
      exact eg_has_t 40 #[.pointer (some ⟨b, 0, none⟩)] (enters_of Try.func40 (by kernel_rfl) rfl) Any W _ l (fun k => lastB n (gg l k)) (HX.out.keep (hu.kept _)) hl2
        (fun k w' sv hk hU hi => nest1_t Any w' (gg l k) sv b n (hU.cell hb) hi (hpos k hk) (hs2 k))
    have HCF : Hid (∀ W, Up w W → Calls Try.prog 16 #[.slice p l.length cap] W (CfPost W l)) := fun W hu => conflicts_t Any W _ l (HX.out.keep (hu.kept _)) hl2 hs2
    have HGC := Lib.hid hg
    clear hf hn hr h hne hx0 hx1 hpos
    cases hfa : farB l n
    · have HSE := Lib.hid (shErr_N (l := l) hn0 hn10 hg hfa)
      rw [hfa] at HL1
      clear hfa
      go_enter Try.func9, Try.ntmps9
      go_wp2_with fail
      refine HF.out.mono ?_
      rintro e w1 ⟨rfl, hu1⟩
      have HU1 := Lib.hid hu1
      have hb := box1_0 w1 (.int .i64 n) 3
      have HU2 := Lib.hid (hu1.trans (Up.alloc w1 (.cells #[.int .i64 n] 3)))
      have HB := Lib.hid hb
      clear hu1
      go_wp2_with fail
      refine (HL1.out _ _ HU2.out HB.out).mono ?_
      rintro e w3 ⟨rfl, hu3⟩
      have HU3 := Lib.hid (HU2.out.trans hu3)
      have HB3 := Lib.hid (hu3.cell HB.out)
      clear hu3 hb hse hse3 hw0 hw1 HB HU2 HL1 HF
      go_wp2_with fail
      refine (HCF.out _ HU3.out).mono ?_
      rintro e w4 ⟨hu4, cv, rfl, hcv⟩
      obtain ⟨cq, cc, rfl, _, _⟩ := rows_open hcv
      rw [HGC.out]
      have HU4 := Lib.hid (HU3.out.trans hu4)
      have hb4 := hu4.cell HB3.out
      have HB4 := Lib.hid hb4
      clear hu4 hcv HB3 HCF
      go_wp2_with fail
      refine (HNM.out _).mono ?_
      rintro e w5 ⟨hu5, v5, rfl, ho5⟩
      have HU5 := Lib.hid (HU4.out.trans hu5)
      have HB5 := Lib.hid (hu5.cell HB4.out)
      have HS5 := Lib.hid (HST.out w5 v5 HU5.out (ho5.strs.sub fun b _ _ => trivial))
      clear hu5 ho5 hb4 HST HB4
      go_wp2_with fail
      refine HS5.out.mono ?_
      rintro e w6 ⟨hu6, v6, rfl, ht6⟩
      have HU6 := Lib.hid (HU5.out.trans hu6)
      have HB6 := Lib.hid (hu6.cell HB5.out)
      clear hu6 HB5 HS5
      by_cases hcf : cfL l = []
      · have hsh : shErr (namesA n) l = 0 := by rw [HSE.out, if_pos hcf]
        obtain ⟨hv, _, hperm, hres⟩ := shTree_law hsh
        obtain ⟨hce, hcl⟩ := con_tree hsh
        have hz3 : ∀ k, (gs (shTree (namesA n) l).ns k).size ≤ 70000 := gs_small hperm
        have HPG := Lib.hid (fun i h1 h2 h3 => part_group hsh (fun q hq => by rw [namesA_len] at hq; rw [gs_namesA hq]; exact nmLt_num q (by omega)) (i := i) h1 h2 h3)
        obtain ⟨hp0, hp64, hnl, hpk, _⟩ := treeErr_zero hv
        have hc0 : (cfL l).length = 0 := by rw [hcf]; rfl
        have d1 : (((cfL l).length : Int) == 0) = true := by simp [hc0]
        rw [hres]
        have HCO : Hid (∀ W u z, Up w W → TreeAt Any W u (shTree (namesA n) l) → StrsAt Any W z (namesA n) → Calls Try.prog 41 #[u, z, .slice p l.length cap] W fun e w' => Up W w' ∧ ∃ q c, e = .returned (.tuple #[.slice q 0 c, .int .i64 0])) := fun W u z hu ht hz => by
          refine (consist_t Any W u z _ (shTree (namesA n) l) (namesA n) l ht hz (HX.out.keep (hu.kept _)) (by omega) (by omega) hz3 (by rw [namesA_len]; omega) hl2 hs2).mono ?_
          rintro e w' ⟨h1, v, rfl, h2⟩
          rw [hcl] at h2
          obtain ⟨q, c, rfl⟩ := nil_shape h2
          exact ⟨h1, q, c, by rw [hce]⟩
        have HCK : Hid (∀ W u, TreeAt Any W u (shTree (namesA n) l) → Calls Try.prog 42 #[u] W fun e w' => e = .returned (.int .i64 0) ∧ Up W w') := fun W u ht => by
          have := check_t Any W u _ ht (by omega) (by omega) hz3
          rw [hv] at this; exact this
        have HLV : Hid (∀ W u i, TreeAt Any W u (shTree (namesA n) l) → i ≤ (shTree (namesA n) l).ps.length → Calls Try.prog 43 #[u, .int .i64 (i : Nat)] W (LwPost W (shTree (namesA n) l) i)) := fun W u i ht hi => lvs_t Any W u _ i ht hpk hnl hi (by omega) hz3
        clear hres hsh hperm hcf hv hce hcl hz3 hc0 HSE hpk
        generalize shTree (namesA n) l = T at *
        obtain ⟨P, N, rfl, hP, hN⟩ := ht6
        obtain ⟨pp, pc, rfl, _, _⟩ := SlAt.open hP
        obtain ⟨np, nc, rfl, _, _⟩ := SlAt.open hN
        have hP : IntsAt Any w6 (.slice pp T.ps.length pc) T.ps := hP
        have hN : StrsAt Any w6 (.slice np T.ns.length nc) T.ns := hN
        have hal := Up.alloc w6 (.cells #[.slice pp T.ps.length pc, .slice np T.ns.length nc] 55)
        have HU7 := Lib.hid (HU6.out.trans hal)
        have b0 := box2_0 w6 (.slice pp T.ps.length pc) (.slice np T.ns.length nc) 55
        have b1 := box2_1 w6 (.slice pp T.ps.length pc) (.slice np T.ns.length nc) 55
        have HT7 : Hid (TreeAt Any (w6.alloc (.cells #[.slice pp T.ps.length pc, .slice np T.ns.length nc] 55)) (.agg #[.slice pp T.ps.length pc, .slice np T.ns.length nc]) T) := TreeAt.keep ⟨_, _, rfl, hP, hN⟩ (hal.kept _)
        have hb7 := hal.cell HB6.out
        have HB7 := Lib.hid hb7
        have HB0 := Lib.hid b0
        have HB1 := Lib.hid b1
        have H64 := Lib.hid hp64
        clear hal hP hN HU6 HB6 hnl hp64
        go_wp2_with fail
        generalize w6.alloc (.cells #[.slice pp T.ps.length pc, .slice np T.ns.length nc] 55) = w7 at *
        have hup : Hid (Up w7 (w7.drewN 1)) := Up.drewN w7 1
        go_region_held3 (fun w' => Hid (Up w7 w') ∧ w'.cell? ⟨w6.heap.size, 0, none⟩ = some (.slice pp T.ps.length pc) ∧ w'.cell? ⟨w6.heap.size, 1, none⟩ = some (.slice np T.ns.length nc) ∧ w'.cell? ⟨w1.heap.size, 0, none⟩ = some (.int .i64 n)) (exact ⟨hup, hup.out.cell HB0.out, hup.out.cell HB1.out, hup.out.cell HB7.out⟩) (first
          | (go_at_call 35; refine (HNM.out _).mono ?_; rintro e w9 ⟨hb9, v9, rfl, ho9⟩; have HS9 : Hid (StrsAt Any w9 v9 (namesA n)) := ho9.strs.sub (fun b _ _ => trivial); have hup : Hid (Up w7 w9) := hup.out.trans hb9; clear hb9 ho9)
          | (go_at_call 41; refine (HCO.out _ _ _ (HU7.out.trans hup.out) (HT7.out.keep (hup.out.kept _)) HS9.out).mono ?_; rintro e w10 ⟨hb10, q10, c10, rfl⟩; have hup : Hid (Up w7 w10) := hup.out.trans hb10; clear hb10))
        have HUW := Lib.hid (HU7.out.trans hup.out)
        have b0 := hup.out.cell HB0.out
        have b1 := hup.out.cell HB1.out
        have HB0' := Lib.hid b0
        have HB1' := Lib.hid b1
        have HT10 := Lib.hid (HT7.out.keep (hup.out.kept _))
        clear hup HB0 HB1 HT7 HU7 hb7 HB7 HS9
        go_wp2_with fail
        refine (HCK.out _ _ HT10.out).mono ?_
        rintro e w11 ⟨rfl, hu11⟩
        have b0 := hu11.cell HB0'.out
        have b1 := hu11.cell HB1'.out
        have HB0 := Lib.hid b0
        have HB1 := Lib.hid b1
        have HT11 := Lib.hid (HT10.out.keep (hu11.kept _))
        have HU11 := Lib.hid (HUW.out.trans hu11)
        clear hu11 HB0' HB1' HT10 HUW HCO HCK
        go_wp2_with fail
        clear b0 b1
        go_loopw [12, 13] (fun i _ wr => ∃ k : Nat, 1 ≤ k ∧ k ≤ T.ps.length ∧ i = .int .i64 k ∧ Hid (Up w11 wr)) (fun i _ _ => T.ps.length - (intOf i).toNat)
        case atStart => exact ⟨1, Nat.le_refl _, by omega, rfl, Up.refl _⟩
        case round =>
          obtain ⟨k, hk1, hk, rfl, hUr⟩ := hrel
          obtain ⟨wo, rfl⟩ : ∃ wo : World, wo = wr := ⟨_, rfl⟩
          have b0 := hUr.out.cell HB0.out
          have b1 := hUr.out.cell HB1.out
          by_cases hlt : k < T.ps.length
          · have i3 : (k : Int) < 64 := by have := H64.out; omega
            have HLVK := Lib.hid (HLV.out wo _ k (HT11.out.keep (hUr.out.kept _)) (by omega))
            have HPK := Lib.hid (HPG.out k (by omega) hlt)
            have HLL : Hid ((lvL T k).length ≤ 64) := by
              unfold Hid lvL; rw [sortL_len]
              have := lvK_len T k (T.ps.length - k); have := H64.out; omega
            have HUR := Lib.hid hUr.out
            clear hUr
            go_wp2_with fail
            refine HLVK.out.mono ?_
            rintro e w12 ⟨hu12, v12, rfl, ho12⟩
            have hi12 : IntsAt Any w12 v12 (lvL T k) := ho12.ints.sub fun b _ _ => trivial
            clear ho12
            generalize lvL T k = own at *
            obtain ⟨oq, oc, rfl, _, _⟩ := SlAt.open hi12
            have hi12 : IntsAt Any w12 (.slice oq own.length oc) own := hi12
            have hal := Up.alloc w12 (.cells #[.slice oq own.length oc] 23)
            have hob := box1_0 w12 (.slice oq own.length oc) 23
            have HUO := Lib.hid ((HUR.out.trans hu12).trans hal)
            have HIO := Lib.hid (IntsAt.keep hi12 (hal.kept _))
            have HOB := Lib.hid hob
            clear hu12 hal hi12
            by_cases h1 : 1 < own.length
            · have d3 : decide ((1 : Int) < (own.length : Int)) = true := by simp; omega
              have hany : ((List.range l.length).any fun i => decide ((gg l i).src = own)) = true := by
                obtain ⟨i, hi, e⟩ := HPK.out h1
                exact List.any_eq_true.2 ⟨i, List.mem_range.2 hi, decide_eq_true e⟩
              have HHAS := Lib.hid (eg_has_t 44 #[.pointer (some ⟨w12.heap.size, 0, none⟩)] (enters_of Try.func44 (by kernel_rfl) rfl) Any (w12.alloc (.cells #[.slice oq own.length oc] 23)) _ l (fun i => decide ((gg l i).src = own)) (HX.out.keep ((HU11.out.trans HUO.out).kept _)) hl2
                (fun i w' sv hk hU hi => nest2_t Any Any w' (gg l i) sv _ _ own (hU.cell HOB.out) (IntsAt.keep HIO.out (hU.kept _)) hi (hs2 i) (by have := HLL.out; omega)))
              rw [hany] at HHAS
              clear hany
              go_wp2_with fail
              refine HHAS.out.mono ?_
              rintro e w13 ⟨rfl, hu13⟩
              have HU13 := Lib.hid (HUO.out.trans hu13)
              clear hu13
              go_wp2_with fail
              go_roundw
              case rel => exact ⟨k + 1, by omega, by omega, by go_num, HU13.out⟩
              case measure => simp [intOf]; omega
            · have d3 : decide ((1 : Int) < (own.length : Int)) = false := by simp; omega
              go_wp2_with fail
              go_roundw
              case rel => exact ⟨k + 1, by omega, by omega, by go_num, HUO.out⟩
              case measure => simp [intOf]; omega
          · obtain rfl : k = T.ps.length := by omega
            have HUR := Lib.hid (HU11.out.trans hUr.out)
            clear hUr
            go_wp2_with fail
            refine (HAW.out _).mono ?_
            rintro e w14 ⟨rfl, hu14⟩
            go_wp2_with fail
            go_ret
            exact ⟨rfl, HUR.out.trans hu14⟩
      · have hsh : shErr (namesA n) l = 17 := by rw [HSE.out, if_neg hcf]
        have hre : shRes (namesA n) l = 17 := by unfold shRes; rw [if_pos (by rw [hsh]; decide), hsh]
        have htr : shTree (namesA n) l = ⟨[], []⟩ := by unfold shTree; rw [if_pos (by rw [hsh]; decide)]
        have hc0 : (cfL l).length ≠ 0 := fun e => hcf (List.length_eq_zero_iff.1 e)
        have d1 : (((cfL l).length : Int) == 0) = false := by simp; omega
        rw [htr] at ht6
        rw [hre]
        obtain ⟨P, N, rfl, hP, hN⟩ := ht6
        obtain ⟨pp, pc, rfl, _, _⟩ := SlAt.open hP
        obtain ⟨np, nc, rfl, _, _⟩ := SlAt.open hN
        clear hP hN
        have hal := Up.alloc w6 (.cells #[.slice pp 0 pc, .slice np 0 nc] 55)
        have HU7 := Lib.hid (HU6.out.trans hal)
        clear hal hsh hre htr hc0 hcf HSE
        go_wp2_with (first | (go_at_call 12; refine (HAW.out _).mono ?_; rintro e w' ⟨rfl, hu⟩) | fail)
        go_ret
        exact ⟨rfl, HU7.out.trans hu⟩
    · rw [hfa] at HL1
      clear hfa
      go_enter Try.func9, Try.ntmps9
      go_wp2_with fail
      refine HF.out.mono ?_
      rintro e w1 ⟨rfl, hu1⟩
      have HU1 := Lib.hid hu1
      have hb := box1_0 w1 (.int .i64 n) 3
      have HU2 := Lib.hid (hu1.trans (Up.alloc w1 (.cells #[.int .i64 n] 3)))
      have HB := Lib.hid hb
      clear hu1
      go_wp2_with fail
      refine (HL1.out _ _ HU2.out HB.out).mono ?_
      rintro e w3 ⟨rfl, hu3⟩
      have HU3 := Lib.hid (HU2.out.trans hu3)
      clear hu3
      go_wp2_with (first | (go_at_call 12; refine (HAW.out _).mono ?_; rintro e w' ⟨rfl, hu⟩) | fail)
      go_ret
      exact ⟨rfl, HU3.out.trans hu⟩
end Go.Proofs.Ytkfndaebmbnmaaa
