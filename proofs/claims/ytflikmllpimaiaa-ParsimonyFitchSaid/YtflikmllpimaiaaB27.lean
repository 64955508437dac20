/- The contracts of the reference's checkStates, Check. -/
import Derived.Test.YtflikmllpimaiaaB26
namespace Go.Proofs.Ytflikmllpimaiaa
open Go.RowKit Go.Deep
set_option maxRecDepth 100000 in
set_option maxHeartbeats 1000000 in
theorem statesR_t (S : Nat → Prop) (w : World) (v vs : Value) (t : Tre) (st : List Int) (hi : Int) (hT : TreeAt S w v t) (hS : IntsAt S w vs st) (he : treeErr t = 0)
    (hp : t.ps.length ≤ 1000000) (hn : t.ns.length ≤ 1000000) (hz : ∀ k, (gs t.ns k).size ≤ 70000) (hst : st.length ≤ 1000000) :
    Calls Try.prog 66 #[v, vs, .int .i64 hi] w fun e w' => StI e w' w (knownErr st (leavesL t.ns).length (-1) hi) := by
  have hfin : knownErr st (leavesL t.ns).length (-1) hi = if st.length ≠ (leavesL t.ns).length then 9 else if stBad st (-1) hi then 2 else 0 := rfl
  have HF := Lib.hid hfin
  obtain ⟨P, N, rfl, hP, hN⟩ := hT
  obtain ⟨qS, capS, rfl, hcapS, _⟩ := SlAt.open hS
  have hS : IntsAt S w (.slice qS st.length capS) st := hS
  have hu := Up.alloc w (.cells #[P, N] 25)
  have hT1 : TreeAt S (w.alloc (.cells #[P, N] 25)) (.agg #[P, N]) t := TreeAt.keep ⟨_, N, rfl, hP, hN⟩ (hu.kept S)
  have hk := leavesR_t S _ _ t hT1 hp hn hz
  have HK := Lib.hid hk
  have HU := Lib.hid hu
  have HS := Lib.hid (IntsAt.keep hS (hu.kept S))
  have HE := Lib.hid he
  clear hk hu hT1 hS hP hN hfin hz he
  go_enter Try.func66, Try.ntmps66
  go_wp2_with fail
  generalize w.alloc (.cells #[P, N] 25) = w1 at *
  refine HK.out.mono ?_
  rintro e w2 ⟨hb, ⟨h1, _⟩ | ⟨_, lv, rfl, hlv⟩⟩
  · exact absurd HE.out h1
  obtain ⟨lp, lc, rfl, _, _⟩ := SlAt.open hlv
  have HU2 := Lib.hid (HU.out.trans (show Up w1 w2 from hb))
  have HS2 := Lib.hid (IntsAt.keep HS.out (Up.kept (show Up w1 w2 from hb) S))
  clear hb HK HU HS hlv
  by_cases hl : st.length = (leavesL t.ns).length
  · have hl1 : ((st.length : Int) != (leavesL t.ns).length) = false := by simp [hl]
    have HL := Lib.hid hl
    clear hl
    go_wp2_with fail
    go_loop [9] (fun i => ∃ k : Nat, k ≤ st.length ∧ i = .int .i64 k ∧ Hid (∀ j, j < k → (decide (gi st j < -1) || decide (hi ≤ gi st j)) = false)) (fun i => st.length - (intOf i).toNat)
    case atStart => exact ⟨0, Nat.zero_le _, rfl, fun j hj => absurd hj (Nat.not_lt_zero _)⟩
    case round =>
      obtain ⟨k, hk, rfl, hd⟩ := hrel
      by_cases hlt : k < st.length
      · obtain ⟨b, off, rfl, hc⟩ := ints_get HS2.out hlt
        generalize hx : gi st k = x at *
        have HX := Lib.hid hx
        clear hx
        by_cases h1 : x < -1
        · have hb : Hid (stBad st (-1) hi = true) := any_at hlt (by rw [HX.out]; simp [h1])
          go_wp2_with fail
          go_ret
          exact ⟨ret_int (by rw [HF.out, if_neg (fun h => h HL.out), if_pos hb.out]), HU2.out⟩
        · by_cases h2 : hi ≤ x
          · have hb : Hid (stBad st (-1) hi = true) := any_at hlt (by rw [HX.out]; simp [h2])
            go_wp2_with fail
            go_ret
            exact ⟨ret_int (by rw [HF.out, if_neg (fun h => h HL.out), if_pos hb.out]), HU2.out⟩
          · have hg : Hid ((decide (x < -1) || decide (hi ≤ x)) = false) := by unfold Hid; simp; omega
            go_wp2_with fail
            go_round
            case rel => exact ⟨k + 1, by omega, by go_num, fun j hj => if e : j = k then by subst e; rw [HX.out]; exact hg.out else hd.out j (by omega)⟩
            case measure => simp [intOf]; omega
      · have hb : Hid (stBad st (-1) hi = false) := any_none fun j hj => hd.out j (by omega)
        go_wp2_with fail
        go_ret
        exact ⟨ret_int (by rw [HF.out, if_neg (fun h => h HL.out), hb.out]; simp), HU2.out⟩
  · have hl1 : ((st.length : Int) != (leavesL t.ns).length) = true := by simp; omega
    have HL := Lib.hid hl
    clear hl
    go_wp2_with fail
    go_ret
    exact ⟨ret_int (by rw [HF.out, if_pos HL.out]), HU2.out⟩
set_option maxRecDepth 100000 in
set_option maxHeartbeats 800000 in
theorem checkRP_t (S : Nat → Prop) (w : World) (v vs vc : Value) (t : Tre) (st : List Int) (cs : List (List Int)) (hT : TreeAt S w v t) (hS : IntsAt S w vs st) (hC : RowsAt S w vc cs) (hz : Sized t st cs) :
    Calls Try.prog 38 #[v, vs, vc] w fun e w' => StI e w' w (parErr t st cs) := by
  obtain ⟨hz1, hz2, hz3, hz4, hz5, hz6⟩ := hz
  have hfin : parErr t st cs = if treeErr t ≠ 0 then 1 else if matErr cs ≠ 0 then matErr cs else knownErr st (leavesL t.ns).length (-1) cs.length := rfl
  have HF := Lib.hid hfin
  obtain ⟨P, N, rfl, hP, hN⟩ := hT
  obtain ⟨qC, capC, rfl, hcapC, _⟩ := rows_open hC
  have hu := Up.alloc w (.cells #[P, N] 25)
  have hT1 : TreeAt S (w.alloc (.cells #[P, N] 25)) (.agg #[P, N]) t := TreeAt.keep ⟨_, N, rfl, hP, hN⟩ (hu.kept S)
  have hk := costsR_t S _ _ _ t cs hT1 (hC.keep (hu.kept S)) hz1 hz2 hz3 hz5 hz6
  have HK := Lib.hid hk
  have HU := Lib.hid hu
  have HT := Lib.hid hT1
  have HS := Lib.hid (IntsAt.keep hS (hu.kept S))
  have HB0 := Lib.hid (box2_0 w P N 25)
  have HB1 := Lib.hid (box2_1 w P N 25)
  have HZ3 := Lib.hid hz3
  clear hk hu hT1 hS hC hP hN hfin hz3 hz6
  go_enter Try.func38, Try.ntmps38
  go_wp2_with fail
  generalize w.alloc (.cells #[P, N] 25) = w1 at *
  refine HK.out.mono ?_
  rintro e w2 ⟨rfl, hb⟩
  have hu2 : Up w1 w2 := hb
  have hc0 := hu2.cell HB0.out
  have hc1 := hu2.cell HB1.out
  have HU2 := Lib.hid (HU.out.trans hu2)
  have HT2 := Lib.hid (HT.out.keep (hu2.kept S))
  have HS2 := Lib.hid (IntsAt.keep HS.out (hu2.kept S))
  have hce : costsErr t cs = if treeErr t ≠ 0 then 1 else matErr cs := rfl
  have HCE := Lib.hid hce
  clear hb hu2 HK HU HB0 HB1 HT HS hce
  by_cases hc : costsErr t cs = 0
  · have hc2 : (costsErr t cs != 0) = false := by simpa using hc
    have ht : treeErr t = 0 := by
      rw [HCE.out] at hc
      by_cases h : treeErr t = 0
      · exact h
      · rw [if_pos h] at hc; cases hc
    have hm : matErr cs = 0 := by rw [HCE.out, if_neg (fun h => h ht)] at hc; exact hc
    have HH : Hid (parErr t st cs = knownErr st (leavesL t.ns).length (-1) cs.length) := by unfold Hid; rw [HF.out, if_neg (fun h => h ht), if_neg (fun h => h hm)]
    have HST := Lib.hid (statesR_t S w2 _ _ t st cs.length HT2.out HS2.out ht hz1 hz2 HZ3.out hz4)
    clear hc ht hm HCE HF
    go_wp2_with fail
    refine HST.out.mono ?_
    rintro e w3 ⟨rfl, hb⟩
    have HU3 := Lib.hid (HU2.out.trans (show Up w2 w3 from hb))
    clear hb
    go_wp2_with fail
    go_ret
    exact ⟨ret_int (by rw [HH.out]), HU3.out⟩
  · have hc2 : (costsErr t cs != 0) = true := by simpa using hc
    have HH : Hid (parErr t st cs = costsErr t cs) := by
      unfold Hid; rw [HF.out, HCE.out]
      rw [HCE.out] at hc
      by_cases h : treeErr t = 0
      · rw [if_neg (fun e => e h)] at hc ⊢; rw [if_pos hc, if_neg (fun e => e h)]
      · rw [if_pos h, if_pos h]
    clear hc HCE HF
    go_wp2_with fail
    go_ret
    exact ⟨ret_int (by rw [HH.out]), HU2.out⟩
end Go.Proofs.Ytflikmllpimaiaa
