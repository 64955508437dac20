/- The contract of the reference's Unit. -/
import Derived.Test.YtflikmllpimaiaaB45
import Derived.Test.YtflikmllpimaiaaB31
import Derived.Test.YtflikmllpimaiaaU0
namespace Go.Proofs.Ytflikmllpimaiaa
open Go.RowKit Go.Deep
def UnPost (w : World) (n : Int) (e : Ending) (w' : World) : Prop :=
  Up w w' ∧ ∃ v, e = .returned (.tuple #[v, .int .i64 (unitErr n)]) ∧ RowsAt Any w' v (unitN n)
theorem Try.infoSI2 : (Try.prog.info? 22).map (fun i => (i.zero, i.size, i.bytes)) = some (some (.slice none 0 0), 1, 24) := by kernel_rfl
theorem RowsOwn.made (w : World) (T : TypeId) : RowsOwn w.heap.size T (w.alloc (.cells #[] T)) (.slice (some ⟨w.heap.size, 0, none⟩) 0 0) [] := ⟨[], rfl, Owns.made _ _, fun _ hi => absurd hi (Nat.not_lt_zero _)⟩
set_option maxRecDepth 100000 in
set_option maxHeartbeats 1000000 in
theorem unitR_t (w : World) (n : Int) (hn1 : -9223372036854775808 ≤ n) (hn2 : n ≤ 9223372036854775807) : Calls Try.prog 36 #[.int .i64 n] w (UnPost w n) := by
  by_cases hb : n < 1 ∨ 16 < n
  · have HER : Hid (unitErr n = 2 ∧ unitN n = []) := ⟨by unfold unitErr; rw [if_pos hb], by unfold unitN; rw [if_pos hb]⟩
    by_cases h1 : n < 1
    · have d1 : decide (n < 1) = true := by simpa using h1
      clear hb
      go_enter Try.func36, Try.ntmps36
      go_wp2_with fail
      go_ret2
      exact ⟨Up.alloc _ _, _, by rw [HER.out.1]; rfl, by rw [HER.out.2]; exact rows_made _ _ _ _⟩
    · have d1 : decide (n < 1) = false := by simpa using h1
      have d2 : decide (16 < n) = true := by simp; omega
      clear hb
      go_enter Try.func36, Try.ntmps36
      go_wp2_with fail
      go_ret2
      exact ⟨Up.alloc _ _, _, by rw [HER.out.1]; rfl, by rw [HER.out.2]; exact rows_made _ _ _ _⟩
  · have HER : Hid (unitErr n = 0 ∧ unitN n = unitL n.toNat) := ⟨by unfold unitErr; rw [if_neg hb], by unfold unitN; rw [if_neg hb]⟩
    obtain ⟨N, rfl⟩ : ∃ N : Nat, n = N := Int.eq_ofNat_of_zero_le (by omega)
    have hN1 : 1 ≤ N := by omega
    have hN2 : N ≤ 16 := by omega
    have d1 : decide ((N : Int) < 1) = false := by simp; omega
    have d2 : decide (16 < (N : Int)) = false := by simp; omega
    rw [Int.toNat_natCast] at HER
    have HD0 := Lib.hid (RowsOwn.made w 22)
    have HU0 := Lib.hid (Up.alloc w (.cells #[] 22))
    clear hb hn1 hn2
    go_enter Try.func36, Try.ntmps36
    go_wp2_with fail
    go_loopw [4, 5, 6, 7] (fun d i _ _ wr => ∃ k : Nat, k ≤ N ∧ i = .int .i64 k ∧ Hid (RowsOwn w.heap.size 22 wr d ((unitL N).take k)) ∧ Hid (Up w wr)) (fun _ i _ _ _ => N - (intOf i).toNat)
    case atStart => exact ⟨0, Nat.zero_le _, rfl, HD0, HU0⟩
    case round =>
      obtain ⟨k, hk, rfl, hD, hUr⟩ := hrel
      obtain ⟨wo, rfl⟩ : ∃ wo : World, wo = wr := ⟨_, rfl⟩
      obtain ⟨d, rfl⟩ : ∃ d : Value, d = u4 := ⟨_, rfl⟩
      by_cases hlt : k < N
      · have hsz0 := hUr.out.size
        have HL0 := Lib.hid (Owns.made wo 3)
        have HV0 := Lib.hid (Up.alloc wo (.cells #[] 3))
        go_wp2_with fail
        go_loopw [6, 7] (fun l i wr2 => ∃ m : Nat, m ≤ N ∧ i = .int .i64 m ∧ Hid (Owns wo.heap.size 3 wr2 l (((unitRow N k).take m).map (Value.int .i64))) ∧ Hid (Up wo wr2)) (fun _ i _ => N - (intOf i).toNat)
        case atStart => exact ⟨0, Nat.zero_le _, rfl, HL0, HV0⟩
        case round =>
          obtain ⟨m, hm, rfl, hL, hU2⟩ := hrel
          obtain ⟨wr2, rfl⟩ : ∃ wo : World, wo = wr := ⟨_, rfl⟩
          obtain ⟨l, rfl⟩ : ∃ d : Value, d = u6 := ⟨_, rfl⟩
          by_cases hmt : m < N
          · have hsz := hU2.out.size
            have HTK : Hid (((unitRow N k).take (m + 1)).map (Value.int .i64) = ((unitRow N k).take m).map (Value.int .i64) ++ [.int .i64 (unitAt k m)]) := by
              unfold Hid; rw [take_gi (by rw [unitRow_len]; exact hmt), List.map_append, gi_unitRow hmt]; rfl
            have HLN : Hid ((((unitRow N k).take m).map (Value.int .i64)).length = m) := by unfold Hid; simp [unitRow_len]; omega
            by_cases hkm : k = m
            · have HUA : Hid (unitAt k m = 0) := by unfold Hid unitAt; rw [if_pos hkm]
              have d3 : ((k : Int) == (m : Int)) = true := by simp [hkm]
              have d4 : (k == m) = true := by simp [hkm]
              clear hkm
              go_wp2_with (at_builtin; refine wpList_appN wr2 rfl _ _ 22 rfl wo.heap.size 3 _ 8 Try.underlying22 Try.infoI rfl (by decide) hL.out rfl _ rfl rfl m HLN.out (by omega) hsz ?_; intro g cap w8 hown1 hg1 hbe1)
              have HO1 : Hid (Owns wo.heap.size 3 w8 (.slice (some ⟨g, 0, none⟩) (m + 1) cap) (((unitRow N k).take (m + 1)).map (Value.int .i64))) := by unfold Hid; rw [HTK.out, HUA.out]; exact hown1
              have HU8 : Hid (Up wo w8) := Below.trans hU2.out hbe1
              clear hown1 hg1 hbe1
              go_roundw
              case rel => exact ⟨m + 1, by omega, by go_num, HO1, HU8⟩
              case measure => simp [intOf]; omega
            · have HUA : Hid (unitAt k m = 1) := by unfold Hid unitAt; rw [if_neg hkm]
              have d3 : ((k : Int) == (m : Int)) = false := by simp; omega
              have d4 : (k == m) = false := by simp [hkm]
              clear hkm
              go_wp2_with (at_builtin; refine wpList_appN wr2 rfl _ _ 22 rfl wo.heap.size 3 _ 8 Try.underlying22 Try.infoI rfl (by decide) hL.out rfl _ rfl rfl m HLN.out (by omega) hsz ?_; intro g cap w8 hown1 hg1 hbe1)
              have HO1 : Hid (Owns wo.heap.size 3 w8 (.slice (some ⟨g, 0, none⟩) (m + 1) cap) (((unitRow N k).take (m + 1)).map (Value.int .i64))) := by unfold Hid; rw [HTK.out, HUA.out]; exact hown1
              have HU8 : Hid (Up wo w8) := Below.trans hU2.out hbe1
              clear hown1 hg1 hbe1
              go_roundw
              case rel => exact ⟨m + 1, by omega, by go_num, HO1, HU8⟩
              case measure => simp [intOf]; omega
          · obtain rfl : m = N := by omega
            rw [List.take_of_length_le (by rw [unitRow_len]; exact Nat.le_refl _)] at hL
            obtain ⟨lp, lcap, rfl, _⟩ := hL.out.form (n := m) (by simp [unitRow_len])
            have hne : IntsAt (fun b => some b ≠ d.ownBlock) wr2 (.slice lp m lcap) (unitRow m k) := by
              obtain ⟨vals, _, ho, _⟩ := hD.out
              exact hL.out.ints.sub fun b hb _ => ho.ne hL.out (Nat.le_refl _) hb
            have HNE := Lib.hid hne
            have HD2 := Lib.hid (hD.out.kept hU2.out)
            have HU8 := Lib.hid (hUr.out.trans hU2.out)
            have hbz := HU8.out.size
            have HLL : Hid (((unitL m).take k).length = k) := by unfold Hid; simp [unitL_len]; omega
            have HTK : Hid ((unitL m).take (k + 1) = (unitL m).take k ++ [unitRow m k]) := by unfold Hid; rw [take_gl (by rw [unitL_len]; exact hlt), gl_unitL hlt]
            clear hne hmt hm
            go_wp2_with (at_builtin; refine wpList_appRow wr2 rfl _ _ 26 rfl w.heap.size 22 _ 24 Try.underlying26 Try.infoSI2 rfl (by decide) HD2.out rfl _ (unitRow m k) rfl HNE.out rfl k HLL.out (by omega) hbz ?_; intro g cap w8 hown1 hg1 hbe1)
            have HO1 : Hid (RowsOwn w.heap.size 22 w8 (.slice (some ⟨g, 0, none⟩) (k + 1) cap) ((unitL m).take (k + 1))) := by unfold Hid; rw [HTK.out]; exact hown1
            have HU9 : Hid (Up w w8) := Below.trans HU8.out hbe1
            clear hown1 hg1 hbe1
            go_roundw
            case rel => exact ⟨k + 1, by omega, by go_num, HO1, HU9⟩
            case measure => simp [intOf]; omega
      · obtain rfl : k = N := by omega
        rw [List.take_of_length_le (by rw [unitL_len]; exact Nat.le_refl _)] at hD
        clear hlt hk
        go_wp2_with fail
        go_ret2
        exact ⟨hUr.out, d, by rw [HER.out.1]; rfl, by rw [HER.out.2]; exact hD.out.rows⟩
end Go.Proofs.Ytflikmllpimaiaa
