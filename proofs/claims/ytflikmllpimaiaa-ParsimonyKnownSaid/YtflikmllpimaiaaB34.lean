/- The walk of ParsimonyKnown. -/
import Derived.Test.YtflikmllpimaiaaB30
import Derived.Test.YtflikmllpimaiaaB31
import Derived.Test.YtflikmllpimaiaaB32
import Derived.Test.YtflikmllpimaiaaS12
namespace Go.Proofs.Ytflikmllpimaiaa
open Go.RowKit Go.Deep
theorem Try.infoSI' : (Try.prog.info? 22).map (fun i => (i.zero, i.size, i.bytes)) = some (some (.slice none 0 0), 1, 24) := by kernel_rfl
set_option maxRecDepth 100000 in
set_option maxHeartbeats 2000000 in
theorem known_law (w : World) (v vs vc : Value) (t : Tre) (st : List Int) (cs : List (List Int)) (x : Int) (hT : TreeAt Any w v t) (hS : IntsAt Any w vs st) (hC : RowsAt Any w vc cs) (hz : Big t st cs) (hx0 : 0 ≤ x) (hx1 : x ≤ 255) :
    Calls Try.prog 3 #[v, vs, vc, .int .u8 x] w (BoPost w true) := by
  obtain ⟨P, N, rfl, hP, hN⟩ := hT
  obtain ⟨qS, capS, rfl, hcapS, _⟩ := SlAt.open hS
  have hS : IntsAt Any w (.slice qS st.length capS) st := hS
  obtain ⟨qC, capC, rfl, hcapC, _⟩ := rows_open hC
  have hu := Up.alloc w (.cells #[P, N] 25)
  have hT1 : TreeAt Any (w.alloc (.cells #[P, N] 25)) (.agg #[P, N]) t := TreeAt.keep ⟨P, N, rfl, hP, hN⟩ (hu.kept _)
  have HT := Lib.hid hT1
  have HS := Lib.hid (IntsAt.keep hS (hu.kept _))
  have HC := Lib.hid (hC.keep (hu.kept _))
  have HU := Lib.hid hu
  have HB0 := Lib.hid (box2_0 w P N 25)
  have HB1 := Lib.hid (box2_1 w P N 25)
  have HFI := Lib.hid (fine_t Any _ _ _ _ t st cs HT.out HS.out HC.out hz)
  have hz4 := hz.2.2.2.1
  have hz5 := hz.2.2.2.2.1
  clear hu hT1 hP hN hS hC hz
  go_enter Try.func3, Try.ntmps3
  go_wp2_with fail
  generalize w.alloc (.cells #[P, N] 25) = w1 at *
  refine HFI.out.mono ?_
  rintro e w2 ⟨rfl, hu2⟩
  have HU2 := Lib.hid (HU.out.trans hu2)
  have hc0 := hu2.cell HB0.out
  have hc1 := hu2.cell HB1.out
  have HT2 := Lib.hid (HT.out.keep (hu2.kept _))
  have HS2 := Lib.hid (IntsAt.keep HS.out (hu2.kept _))
  have HC2 := Lib.hid (HC.out.keep (hu2.kept _))
  clear HU HB0 HB1 HT HS HC hu2 HFI
  cases hf : fineB t st cs
  · clear hf
    go_wp2_with fail
    refine (awake_t w2).mono ?_
    rintro e w3 ⟨rfl, hu3⟩
    have HU3 := Lib.hid (HU2.out.trans hu3)
    clear hu3
    go_wp2_with fail
    go_ret
    exact ⟨rfl, HU3.out⟩
  · obtain ⟨hg, hv⟩ := fine_sized hf
    obtain ⟨hsz, _, _, hst12, hcs18, _⟩ := great_sized hg
    have HV := Lib.hid hv
    have HSZ := Lib.hid hsz
    clear hf hg hv hsz
    by_cases hs0 : st.length = 0
    · have hs1 : ((st.length : Int) == 0) = true := by simp [hs0]
      have HS0 := Lib.hid hs0
      clear hs0
      go_wp2_with fail
      refine (awake_t w2).mono ?_
      rintro e w3 ⟨rfl, hu3⟩
      have HU3 := Lib.hid (HU2.out.trans hu3)
      clear hu3
      go_wp2_with fail
      go_ret
      exact ⟨rfl, HU3.out⟩
    · have hs1 : ((st.length : Int) == 0) = false := by simpa using hs0
      have hs2 : 0 < st.length := by omega
      clear hs0
      go_wp2_with fail
      refine (score_t Any w2 _ _ _ t st cs HT2.out HS2.out HC2.out HSZ.out).mono ?_
      rintro e w3 ⟨hu3, rfl⟩
      have HU3 := Lib.hid (HU2.out.trans hu3)
      have hd0 := hu3.cell hc0
      have hd1 := hu3.cell hc1
      have HT3 := Lib.hid (HT2.out.keep (hu3.kept _))
      have HS3 := Lib.hid (IntsAt.keep HS2.out (hu3.kept _))
      have HC3 := Lib.hid (HC2.out.keep (hu3.kept _))
      clear hu3 HU2 hc0 hc1 HT2 HS2 HC2
      go_wp2_with fail
      refine (clone_int_t Any w3 _ st HS3.out (by omega)).mono ?_
      rintro e w4 ⟨hu4, lv, rfl, hown⟩
      have hm1 : 0 ≤ x % (st.length : Int) := Int.emod_nonneg x (by omega)
      have hm2 : x % (st.length : Int) < (st.length : Int) := Int.emod_lt_of_pos x (by omega)
      obtain ⟨lg, lc, rfl, hlg, hlg2, hlc, hlf, hset⟩ := hown.set (j := (x % (st.length : Int)).toNat) (by simp; omega)
      have hB3 : w.heap.size < w3.heap.size := World.block_lt_of_cell? w3 _ hd0
      have hu5 : Up w3 (w4.setCell ⟨lg, (x % (st.length : Int)).toNat, none⟩ (.int .i64 (-1))) := Below.setCell (p := ⟨lg, (x % (st.length : Int)).toNat, none⟩) hu4 hlg _
      have ho5 := (hset (.int .i64 (-1)))
      rw [gi_set', List.length_map] at ho5
      have hi5 := ho5.ints
      have he0 := hu5.cell hd0
      have he1 := hu5.cell hd1
      have HU5 := Lib.hid (HU3.out.trans hu5)
      have HT5 := Lib.hid (HT3.out.keep (hu5.kept _))
      have HS5 := Lib.hid (IntsAt.keep HS3.out (hu5.kept _))
      have HC5 := Lib.hid (HC3.out.keep (hu5.kept _))
      have HL5 := Lib.hid hi5
      rw [List.length_map]
      clear ho5 hset hown hi5 hu5 hu4 HU3 HT3 HS3 HC3 hd0 hd1
      go_wp2_with fail
      clear hlc hlf
      generalize hj : (x % (st.length : Int)).toNat = j at *
      generalize w4.setCell ⟨lg, j, none⟩ (.int .i64 (-1)) = w5 at *
      have hSZ2 : Sized t (st.set j (-1)) cs := by
        obtain ⟨a1, a2, a3, a4, a5, a6⟩ := HSZ.out
        exact ⟨a1, a2, a3, by rw [List.length_set]; exact a4, a5, a6⟩
      have hs3 := score_t Any w5 _ _ _ t (st.set j (-1)) cs HT5.out (HL5.out.sub fun _ _ _ => trivial) HC5.out hSZ2
      refine hs3.mono ?_
      clear hs3
      rintro e w6 ⟨hu6, rfl⟩
      have HU6 := Lib.hid (HU5.out.trans hu6)
      have hf0 := hu6.cell he0
      have hf1 := hu6.cell he1
      have HT6 := Lib.hid (HT5.out.keep (hu6.kept _))
      have HS6 := Lib.hid (IntsAt.keep HS5.out (hu6.kept _))
      have HC6 := Lib.hid (HC5.out.keep (hu6.kept _))
      have hle := score_set HV.out j
      have hn0 := score_nonneg HV.out
      have hn0' := score_far HV.out
      have hn1 := score_nonneg (HV.out.set j)
      have hp1 := HV.out.par
      have hp2 := (HV.out.set j).par
      clear hu6 HU5 HT5 HS5 HC5 he0 he1 HL5 hSZ2 hj hm1 hm2 hlg hlg2
      rw [hp1, hp2]
      have HDE := Lib.hid (dbl_err HV.out)
      have HSD : Hid (Valid t st (dblC cs) → scoreN t st (dblC cs) = 2 * scoreN t st cs) := fun h => score_dbl HV.out h
      clear hp1 hp2
      generalize scoreN t st cs = n1 at *
      generalize scoreN t (st.set j (-1)) cs = n2 at *
      go_wp2_with fail
      have hcb : ∀ a k, 0 ≤ gi (gl cs a) k ∧ gi (gl cs a) k ≤ 1000 := (matErr_zero HV.out.mat).2.2.2.1
      have HCB := Lib.hid hcb
      have HRL := Lib.hid (matErr_zero HV.out.mat).2.2.1
      have HF0 := Lib.hid hf0
      have HF1 := Lib.hid hf1
      clear hcb hf0 hf1
      go_loopw [14, 69] (fun d i wr => ∃ k : Nat, k ≤ cs.length ∧ i = .int .i64 k ∧ Hid (RowsOwn w6.heap.size 22 wr d ((dblC cs).take k)) ∧ Hid (Up w6 wr)) (fun _ i _ => cs.length - (intOf i).toNat)
      case atStart => exact ⟨0, Nat.zero_le _, rfl, RowsOwn.nil _ _ _, Up.refl _⟩
      case round =>
        obtain ⟨k, hk, rfl, hD, hUr⟩ := hrel
        obtain ⟨wo, rfl⟩ : ∃ wo : World, wo = wr := ⟨_, rfl⟩
        obtain ⟨d, rfl⟩ : ∃ d : Value, d = u14 := ⟨_, rfl⟩
        by_cases hlt : k < cs.length
        · have HC7 := Lib.hid (HC6.out.keep (hUr.out.kept _))
          obtain ⟨cb, co, rq, rc, rfl, hcell, hri⟩ := rows_get HC7.out hlt
          have HRI := Lib.hid hri
          have hrl : (gl cs k).length ≤ 16 := by rw [HRL.out k hlt]; exact (matErr_zero HV.out.mat).2.1
          clear hri
          go_wp2_with fail
          go_loopw [17, 75] (fun l i wr2 => ∃ m : Nat, m ≤ (gl cs k).length ∧ i = .int .i64 m ∧ Hid (Owns wo.heap.size 3 wr2 l ((((gl cs k).map (2 * ·)).take m).map (Value.int .i64))) ∧ Hid (Up wo wr2)) (fun _ i _ => (gl cs k).length - (intOf i).toNat)
          case atStart => exact ⟨0, Nat.zero_le _, rfl, Owns.nil _ _ _, Up.refl _⟩
          case round =>
            obtain ⟨m, hm, rfl, hL, hU2⟩ := hrel
            obtain ⟨wr2, rfl⟩ : ∃ wo : World, wo = wr := ⟨_, rfl⟩
            obtain ⟨l, rfl⟩ : ∃ d : Value, d = u17 := ⟨_, rfl⟩
            by_cases hmt : m < (gl cs k).length
            · obtain ⟨rb, ro, rfl, hcr⟩ := ints_get (IntsAt.keep HRI.out (hU2.out.kept _)) hmt
              have hb := HCB.out k m
              have hsz := hU2.out.size
              have HTK : Hid ((((gl cs k).map (2 * ·)).take (m + 1)).map (Value.int .i64) = (((gl cs k).map (2 * ·)).take m).map (Value.int .i64) ++ [.int .i64 (2 * gi (gl cs k) m)]) := by
                unfold Hid; rw [take_gi (by simpa using hmt), List.map_append, gi_dbl]; rfl
              have HLN : Hid (((((gl cs k).map (2 * ·)).take m).map (Value.int .i64)).length = m) := by unfold Hid; simp; omega
              generalize gi (gl cs k) m = c at *
              obtain ⟨hb1, hb2⟩ := hb
              go_wp2_with (at_builtin; refine wpList_appN wr2 rfl _ _ 22 rfl wo.heap.size 3 _ 8 Try.underlying22 Try.infoI rfl (by decide) hL.out rfl _ rfl rfl m HLN.out (by omega) hsz ?_; intro g cap w8 hown1 hg1 hbe1)
              have HO1 : Hid (Owns wo.heap.size 3 w8 (.slice (some ⟨g, 0, none⟩) (m + 1) cap) ((((gl cs k).map (2 * ·)).take (m + 1)).map (Value.int .i64))) := by unfold Hid; rw [HTK.out]; exact hown1
              have HU8 : Hid (Up wo w8) := Below.trans hU2.out hbe1
              clear hown1 hg1 hbe1
              go_roundw
              case rel => exact ⟨m + 1, by omega, by go_num, HO1, HU8⟩
              case measure => simp [intOf]; omega
            · obtain rfl : m = (gl cs k).length := by omega
              have hfull : (((gl cs k).map (2 * ·)).take (gl cs k).length) = gl (dblC cs) k := by rw [gl_dblC, List.take_of_length_le (by simp)]
              rw [hfull] at hL
              obtain ⟨lp, lcap, rfl, _⟩ := hL.out.form (n := (gl (dblC cs) k).length) (by simp)
              have hne : IntsAt (fun b => some b ≠ d.ownBlock) wr2 (.slice lp (gl (dblC cs) k).length lcap) (gl (dblC cs) k) := by
                obtain ⟨vals, _, ho, _⟩ := hD.out
                exact hL.out.ints.sub fun b hb _ => ho.ne hL.out (Nat.le_refl _) hb
              have HNE := Lib.hid hne
              have HD2 := Lib.hid (hD.out.kept hU2.out)
              have HU8 := Lib.hid (hUr.out.trans hU2.out)
              have hbz := HU8.out.size
              have HLL : Hid (((dblC cs).take k).length = k) := by unfold Hid; simp [dbl_len]; omega
              have HTK : Hid ((dblC cs).take (k + 1) = (dblC cs).take k ++ [gl (dblC cs) k]) := take_gl (by rw [dbl_len]; exact hlt)
              clear hne hfull hmt hm
              go_wp2_with (at_builtin; refine wpList_appRow wr2 rfl _ _ 26 rfl w6.heap.size 22 _ 24 Try.underlying26 Try.infoSI' rfl (by decide) HD2.out rfl _ (gl (dblC cs) k) rfl HNE.out rfl k HLL.out (by omega) hbz ?_; intro g cap w8 hown1 hg1 hbe1)
              have HO1 : Hid (RowsOwn w6.heap.size 22 w8 (.slice (some ⟨g, 0, none⟩) (k + 1) cap) ((dblC cs).take (k + 1))) := by unfold Hid; rw [HTK.out]; exact hown1
              have HU9 : Hid (Up w6 w8) := Below.trans HU8.out hbe1
              clear hown1 hg1 hbe1
              go_roundw
              case rel => exact ⟨k + 1, by omega, by go_num, HO1, HU9⟩
              case measure => simp [intOf]; omega
        · obtain rfl : k = cs.length := by omega
          rw [List.take_of_length_le (by rw [dbl_len]; exact Nat.le_refl _)] at hD
          have hr := hD.out.rows
          obtain ⟨dp, dcap, rfl, _, _⟩ := rows_open hr
          have hf0 := hUr.out.cell HF0.out
          have hf1 := hUr.out.cell HF1.out
          have HU9 := Lib.hid (HU6.out.trans hUr.out)
          have HSZ9 : Hid (Sized t st (dblC cs)) := by
            obtain ⟨a1, a2, a3, a4, a5, a6⟩ := HSZ.out
            exact ⟨a1, a2, a3, a4, by rw [dbl_len]; exact a5, fun k => by rw [gl_dblC, List.length_map]; exact a6 k⟩
          have HSC := Lib.hid (score_t Any wo _ _ _ t st (dblC cs) (HT6.out.keep (hUr.out.kept _)) (IntsAt.keep HS6.out (hUr.out.kept _)) hr HSZ9.out)
          clear hr hD hUr hlt hk
          go_wp2_with fail
          refine HSC.out.mono ?_
          rintro e w10 ⟨hu10, rfl⟩
          have HU10 := Lib.hid (HU9.out.trans hu10)
          clear hu10 HSC HU9
          by_cases hp : parErr t st (dblC cs) = 0
          · have hsd := HSD.out (parErr_valid hp)
            rw [hp, hsd]
            clear hp hsd HSD HDE
            go_wp2_with fail
            refine (awake_t w10).mono ?_
            rintro e w11 ⟨rfl, hu11⟩
            have HU11 := Lib.hid (HU10.out.trans hu11)
            clear hu11
            go_wp2_with fail
            go_ret
            exact ⟨rfl, HU11.out⟩
          · have hp2 : parErr t st (dblC cs) = 2 := by rcases HDE.out with h | h; exact absurd h hp; exact h
            rw [hp2]
            clear hp hp2 HSD HDE
            go_wp2_with fail
            refine (awake_t w10).mono ?_
            rintro e w11 ⟨rfl, hu11⟩
            have HU11 := Lib.hid (HU10.out.trans hu11)
            clear hu11
            go_wp2_with fail
            go_ret
            exact ⟨rfl, HU11.out⟩
end Go.Proofs.Ytflikmllpimaiaa
