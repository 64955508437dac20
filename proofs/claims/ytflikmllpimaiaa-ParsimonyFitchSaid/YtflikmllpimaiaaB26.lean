/- The contracts of the reference's checkCosts, checkStates, Check. -/
import Derived.Test.YtflikmllpimaiaaB12
import Derived.Test.YtflikmllpimaiaaB25
namespace Go.Proofs.Ytflikmllpimaiaa
open Go.RowKit Go.Deep
def costsErr (t : Tre) (cs : List (List Int)) : Int := if treeErr t ≠ 0 then 1 else matErr cs
set_option maxRecDepth 100000 in
set_option maxHeartbeats 1000000 in
theorem costsR_t (S : Nat → Prop) (w : World) (v vc : Value) (t : Tre) (cs : List (List Int)) (hT : TreeAt S w v t) (hC : RowsAt S w vc cs)
    (hp : t.ps.length ≤ 1000000) (hn : t.ns.length ≤ 1000000) (hz : ∀ k, (gs t.ns k).size ≤ 70000) (hcn : cs.length ≤ 1000000) (hr : ∀ k, (gl cs k).length ≤ 1000000) :
    Calls Try.prog 61 #[v, vc] w fun e w' => StI e w' w (costsErr t cs) := by
  have hfin : costsErr t cs = if treeErr t ≠ 0 then 1 else matErr cs := rfl
  have HF := Lib.hid hfin
  have hfm : matErr cs = if cs.length = 0 then 5 else if 16 < cs.length then 4 else if lenBad cs then 9 else if matBadK cs cs.length then 2 else 0 := rfl
  have HFM := Lib.hid hfm
  obtain ⟨P, N, rfl, hP, hN⟩ := hT
  obtain ⟨qC, capC, rfl, hcapC, _⟩ := rows_open hC
  have hu := Up.alloc w (.cells #[P, N] 25)
  have hT1 : TreeAt S (w.alloc (.cells #[P, N] 25)) (.agg #[P, N]) t := TreeAt.keep ⟨_, N, rfl, hP, hN⟩ (hu.kept S)
  have hk := checkR_t S _ _ t hT1 hp hn hz
  have HK := Lib.hid hk
  have HU := Lib.hid hu
  have HC := Lib.hid (hC.keep (hu.kept S))
  have HR := Lib.hid hr
  clear hk hu hT1 hC hP hN hfin hfm hz hr
  go_enter Try.func61, Try.ntmps61
  go_wp2_with fail
  generalize w.alloc (.cells #[P, N] 25) = w1 at *
  refine HK.out.mono ?_
  rintro e w2 ⟨rfl, hb⟩
  have HU2 := Lib.hid (HU.out.trans (show Up w1 w2 from hb))
  have HC2 := Lib.hid (HC.out.keep (Up.kept (show Up w1 w2 from hb) S))
  clear hb HK HU HC
  by_cases he : treeErr t = 0
  · have he1 : (treeErr t != 0) = false := by simpa using he
    have HE : Hid (costsErr t cs = matErr cs) := by unfold Hid; rw [HF.out, if_neg (fun h => h he)]
    clear he HF
    by_cases h0 : cs.length = 0
    · have h01 : ((cs.length : Int) == 0) = true := by simp [h0]
      have H0 := Lib.hid h0
      clear h0
      go_wp2_with fail
      go_ret
      exact ⟨ret_int (by rw [HE.out, HFM.out, if_pos H0.out]), HU2.out⟩
    have h01 : ((cs.length : Int) == 0) = false := by simpa using h0
    have hpos : 0 < cs.length := by omega
    have H0 := Lib.hid h0
    clear h0
    by_cases h1 : 16 < cs.length
    · go_wp2_with fail
      go_ret
      exact ⟨ret_int (by rw [HE.out, HFM.out, if_neg H0.out, if_pos h1]), HU2.out⟩
    go_wp2_with fail
    go_loop [5] (fun i => ∃ k : Nat, k ≤ cs.length ∧ i = .int .i64 k ∧ Hid (∀ j, j < k → (gl cs j).length = cs.length)) (fun i => cs.length - (intOf i).toNat)
    case atStart => exact ⟨0, Nat.zero_le _, rfl, fun j hj => absurd hj (Nat.not_lt_zero _)⟩
    case round =>
      obtain ⟨k, hk, rfl, hd⟩ := hrel
      by_cases hlt : k < cs.length
      · obtain ⟨b, off, q, c, rfl, hc, _⟩ := rows_get HC2.out hlt
        have hrk := HR.out k
        by_cases hl : (gl cs k).length = cs.length
        · have hl1 : (((gl cs k).length : Int) != cs.length) = false := by simp [hl]
          have HL := Lib.hid hl
          clear hl
          go_wp2_with fail
          go_round
          case rel => exact ⟨k + 1, by omega, by go_num, fun j hj => if e : j = k then by subst e; exact HL.out else hd.out j (by omega)⟩
          case measure => simp [intOf]; omega
        · have hl1 : (((gl cs k).length : Int) != cs.length) = true := by simp; omega
          have HL := Lib.hid hl
          clear hl
          go_wp2_with fail
          go_ret
          refine ⟨ret_int ?_, HU2.out⟩
          have hlb : lenBad cs = true := any_at hlt (by simpa using HL.out)
          rw [HE.out, HFM.out, if_neg H0.out, if_neg h1, if_pos hlb]
      · obtain rfl : k = cs.length := by omega
        clear hlt hk
        have hlb : lenBad cs = false := any_none fun j hj => by simpa using hd.out j hj
        have HLB := Lib.hid hlb
        clear hlb
        go_wp2_with fail
        go_loop [6, 7] (fun i _ => ∃ k : Nat, k ≤ cs.length ∧ i = .int .i64 k ∧ Hid (∀ j, j < k → rowBad j (gl cs j) (gl cs j).length = false)) (fun i _ => cs.length - (intOf i).toNat)
        case atStart => exact ⟨0, Nat.zero_le _, rfl, fun j hj => absurd hj (Nat.not_lt_zero _)⟩
        case round =>
          obtain ⟨k, hk, rfl, hd3⟩ := hrel
          by_cases hlt : k < cs.length
          · obtain ⟨b, off, q, c, rfl, hc, hri⟩ := rows_get HC2.out hlt
            have hlen : (gl cs k).length = cs.length := hd.out k hlt
            rw [hlen] at hc hri
            have HRI := Lib.hid hri
            have HLEN := Lib.hid hlen
            have HRB : Hid (matBadK cs cs.length = true → matErr cs = 2) := fun h => by rw [HFM.out, if_neg H0.out, if_neg h1, HLB.out, if_neg (by simp), if_pos h]
            have HMB : Hid (∀ j, j < cs.length → badc k j (gi (gl cs k) j) = true → matErr cs = 2) := fun j hj hb => HRB.out (any_at hlt (any_at (by rw [HLEN.out]; exact hj) hb))
            have HRZ : Hid ((∀ j, j < cs.length → badc k j (gi (gl cs k) j) = false) → rowBad k (gl cs k) (gl cs k).length = false) := fun h => any_none fun j hj => h j (by rw [HLEN.out] at hj; exact hj)
            clear hri hlen HRB
            go_wp2_with fail
            go_loop [7] (fun i => ∃ m : Nat, m ≤ cs.length ∧ i = .int .i64 m ∧ Hid (∀ j, j < m → badc k j (gi (gl cs k) j) = false)) (fun i => cs.length - (intOf i).toNat)
            case atStart => exact ⟨0, Nat.zero_le _, rfl, fun j hj => absurd hj (Nat.not_lt_zero _)⟩
            case round =>
              obtain ⟨m, hm, rfl, hd2⟩ := hrel
              by_cases hmt : m < cs.length
              · obtain ⟨rb, roff, rfl, hcr⟩ := ints_get HRI.out (k := m) (by rw [HLEN.out]; exact hmt)
                generalize hx : gi (gl cs k) m = x at *
                have HX := Lib.hid hx
                clear hx
                by_cases hb1 : x < 0 ∨ 1000 < x
                · have HBD := Lib.hid (HMB.out m hmt (by rw [HX.out]; unfold badc; rcases hb1 with h | h <;> simp [h]))
                  rcases hb1 with hb1 | hb1
                  · go_wp2_with fail
                    go_ret
                    exact ⟨ret_int (by rw [HE.out, HBD.out]), HU2.out⟩
                  · go_wp2_with fail
                    go_ret
                    exact ⟨ret_int (by rw [HE.out, HBD.out]), HU2.out⟩
                · have hb2 : 0 ≤ x ∧ x ≤ 1000 := by omega
                  obtain ⟨hb3, hb4⟩ := hb2
                  clear hb1
                  by_cases hkm : k = m ∧ x ≠ 0
                  · obtain ⟨rfl, hx0⟩ := hkm
                    have HBD := Lib.hid (HMB.out k hmt (by rw [HX.out]; unfold badc; simp [hx0]))
                    have hx1 : (x != 0) = true := by simpa using hx0
                    clear hx0
                    go_wp2_with fail
                    go_ret
                    exact ⟨ret_int (by rw [HE.out, HBD.out]), HU2.out⟩
                  · have hgood : badc k m x = false := by
                      unfold badc
                      have e1 : decide (x < 0) = false := by simp; omega
                      have e2 : decide (1000 < x) = false := by simp; omega
                      have e3 : (decide (k = m) && decide (x ≠ 0)) = false := by
                        rw [Bool.eq_false_iff]; intro e; apply hkm; simpa using e
                      rw [e1, e2, e3]; rfl
                    have HG := Lib.hid hgood
                    clear hgood
                    by_cases hkm2 : k = m
                    · have hx0 : x = 0 := by
                        by_cases e : x = 0
                        · exact e
                        · exact absurd ⟨hkm2, e⟩ hkm
                      subst hx0
                      clear hkm
                      subst hkm2
                      go_wp2_with fail
                      go_round
                      case rel => exact ⟨k + 1, by omega, by go_num, fun j hj => if e : j = k then by subst e; rw [HX.out]; exact HG.out else hd2.out j (by omega)⟩
                      case measure => simp [intOf]; omega
                    · have hne : ((k : Int) == (m : Int)) = false := by rw [beq_eq_false_iff_ne]; omega
                      clear hkm hkm2
                      go_wp2_with fail
                      go_round
                      case rel => exact ⟨m + 1, by omega, by go_num, fun j hj => if e : j = m then by subst e; rw [HX.out]; exact HG.out else hd2.out j (by omega)⟩
                      case measure => simp [intOf]; omega
              · have hall := HRZ.out fun j hj => hd2.out j (by omega)
                have HALL := Lib.hid hall
                clear hall
                go_wp2_with fail
                go_round
                case rel => exact ⟨k + 1, by omega, by go_num, fun j hj => if e : j = k then by subst e; exact HALL.out else hd3.out j (by omega)⟩
                case measure => simp [intOf]; omega
          · have hmb0 : matBadK cs cs.length = false := any_none fun j hj => hd3.out j (by omega)
            have HMB0 := Lib.hid hmb0
            clear hmb0
            go_wp2_with fail
            go_ret
            exact ⟨ret_int (by rw [HE.out, HFM.out, if_neg H0.out, if_neg h1, HLB.out, if_neg (by simp), HMB0.out]; simp), HU2.out⟩
  · have he1 : (treeErr t != 0) = true := by simpa using he
    have HE := Lib.hid he
    clear he
    go_wp2_with fail
    go_ret
    exact ⟨ret_int (by rw [HF.out, if_pos HE.out]), HU2.out⟩
end Go.Proofs.Ytflikmllpimaiaa
