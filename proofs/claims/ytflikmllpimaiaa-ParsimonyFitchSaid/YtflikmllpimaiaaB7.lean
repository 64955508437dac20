/- Names, as layer 1's and layer 31's references have them. -/
import Derived.Test.YtflikmllpimaiaaB2
import Derived.Test.YtflikmllpimaiaaB5
namespace Go.Proofs.Ytflikmllpimaiaa
open Go.RowKit Go.Deep
theorem Try.infoBo : (Try.prog.info? 4).map (fun i => (i.zero, i.size, i.bytes)) = some (some (.bool false), 1, 1) := by kernel_rfl
theorem kind_classes (c : Nat) : (97 ≤ c ∧ c ≤ 122) ∨ (65 ≤ c ∧ c ≤ 90) ∨ (48 ≤ c ∧ c ≤ 57) ∨ c = 94 ∨ c = 126 ∨ c = 37 ∨ c = 39 ∨ c = 32 ∨ c = 46 ∨ c = 44 ∨ c = 59 ∨ c = 58 ∨ c = 33 ∨ c = 63 ∨ c = 40 ∨ c = 41 ∨ c = 45 ∨
    ((c < 97 ∨ 122 < c) ∧ (c < 65 ∨ 90 < c) ∧ (c < 48 ∨ 57 < c) ∧ c ≠ 94 ∧ c ≠ 126 ∧ c ≠ 37 ∧ c ≠ 39 ∧ c ≠ 32 ∧ c ≠ 46 ∧ c ≠ 44 ∧ c ≠ 59 ∧ c ≠ 58 ∧ c ≠ 33 ∧ c ≠ 63 ∧ c ≠ 40 ∧ c ≠ 41 ∧ c ≠ 45) := by omega
def KindPost (c : Nat) (w : World) (e : Ending) (w' : World) : Prop := e = .returned (.int .i64 (kindL c)) ∧ w = w'
theorem kp {c : Nat} {n : Int} {w : World} (h : n = kindL c) : KindPost c w (.returned (.int .i64 n)) w := ⟨by rw [h], rfl⟩
set_option maxRecDepth 100000 in
set_option maxHeartbeats 400000 in
theorem kindR_const (c : Nat) (h : c ∈ [94, 126, 37, 39, 32, 46, 44, 59, 58, 33, 63, 40, 41, 45]) (w : World) : Calls Try.prog 133 #[.int .u8 c] w (KindPost c w) := by
  simp only [List.mem_cons, List.not_mem_nil, or_false] at h
  rcases h with rfl | rfl | rfl | rfl | rfl | rfl | rfl | rfl | rfl | rfl | rfl | rfl | rfl | rfl
  all_goals
    go_enter Try.func133, Try.ntmps133
    go_wp2
    go_ret
    exact kp rfl
set_option maxRecDepth 100000 in
set_option maxHeartbeats 400000 in
theorem kindR_o1 (c : Nat) (HK : Hid (kindL c = 0)) (hc : c < 256) (h : c < 48 ∨ (57 < c ∧ c < 65) ∨ (90 < c ∧ c < 97) ∨ 122 < c) (e94 : ((c : Int) == 94) = false) (e126 : ((c : Int) == 126) = false) (e37 : ((c : Int) == 37) = false) (e39 : ((c : Int) == 39) = false) (e32 : ((c : Int) == 32) = false) (e46 : ((c : Int) == 46) = false) (e44 : ((c : Int) == 44) = false) (e59 : ((c : Int) == 59) = false) (e58 : ((c : Int) == 58) = false) (e33 : ((c : Int) == 33) = false) (e63 : ((c : Int) == 63) = false) (e40 : ((c : Int) == 40) = false) (e41 : ((c : Int) == 41) = false) (e45 : ((c : Int) == 45) = false) (w : World) : Calls Try.prog 133 #[.int .u8 c] w (KindPost c w) := by
  rcases h with h1 | ⟨h1, h2⟩ | ⟨h1, h2⟩ | h1
  all_goals
    go_enter Try.func133, Try.ntmps133
    go_wp2
    go_ret
    exact kp HK.out.symm
theorem kindR_other (c : Nat) (hc : c < 256) (h1 : c < 97 ∨ 122 < c) (h2 : c < 65 ∨ 90 < c) (h3 : c < 48 ∨ 57 < c) (n94 : c ≠ 94) (n126 : c ≠ 126) (n37 : c ≠ 37) (n39 : c ≠ 39) (n32 : c ≠ 32) (n46 : c ≠ 46) (n44 : c ≠ 44) (n59 : c ≠ 59) (n58 : c ≠ 58) (n33 : c ≠ 33) (n63 : c ≠ 63) (n40 : c ≠ 40) (n41 : c ≠ 41) (n45 : c ≠ 45) (w : World) : Calls Try.prog 133 #[.int .u8 c] w (KindPost c w) := by
  have hk : kindL c = 0 := by
    unfold kindL isLet isPun
    rw [if_neg (by simp; omega), if_neg (by omega), if_neg (by omega), if_neg n39, if_neg n32, if_neg (by simp; omega)]
  have e94 : ((c : Int) == 94) = false := by rw [beq_eq_false_iff_ne]; omega
  have e126 : ((c : Int) == 126) = false := by rw [beq_eq_false_iff_ne]; omega
  have e37 : ((c : Int) == 37) = false := by rw [beq_eq_false_iff_ne]; omega
  have e39 : ((c : Int) == 39) = false := by rw [beq_eq_false_iff_ne]; omega
  have e32 : ((c : Int) == 32) = false := by rw [beq_eq_false_iff_ne]; omega
  have e46 : ((c : Int) == 46) = false := by rw [beq_eq_false_iff_ne]; omega
  have e44 : ((c : Int) == 44) = false := by rw [beq_eq_false_iff_ne]; omega
  have e59 : ((c : Int) == 59) = false := by rw [beq_eq_false_iff_ne]; omega
  have e58 : ((c : Int) == 58) = false := by rw [beq_eq_false_iff_ne]; omega
  have e33 : ((c : Int) == 33) = false := by rw [beq_eq_false_iff_ne]; omega
  have e63 : ((c : Int) == 63) = false := by rw [beq_eq_false_iff_ne]; omega
  have e40 : ((c : Int) == 40) = false := by rw [beq_eq_false_iff_ne]; omega
  have e41 : ((c : Int) == 41) = false := by rw [beq_eq_false_iff_ne]; omega
  have e45 : ((c : Int) == 45) = false := by rw [beq_eq_false_iff_ne]; omega
  exact kindR_o1 c hk hc (by omega) e94 e126 e37 e39 e32 e46 e44 e59 e58 e33 e63 e40 e41 e45 w
set_option maxRecDepth 100000 in
set_option maxHeartbeats 400000 in
theorem kindR_range (c : Nat) (hc : c < 256) (h : (97 ≤ c ∧ c ≤ 122) ∨ (65 ≤ c ∧ c ≤ 90) ∨ (48 ≤ c ∧ c ≤ 57)) (w : World) : Calls Try.prog 133 #[.int .u8 c] w (KindPost c w) := by
  rcases h with ⟨h1, h2⟩ | ⟨h1, h2⟩ | ⟨h1, h2⟩
  · have hk : kindL c = 1 := by unfold kindL isLet; rw [if_pos (by simp; omega)]
    have HK := Lib.hid hk
    clear hk
    go_enter Try.func133, Try.ntmps133
    go_wp2
    go_ret
    exact kp HK.out.symm
  · have hk : kindL c = 1 := by unfold kindL isLet; rw [if_pos (by simp; omega)]
    have HK := Lib.hid hk
    clear hk
    go_enter Try.func133, Try.ntmps133
    go_wp2
    go_ret
    exact kp HK.out.symm
  · have hk : kindL c = 3 := by unfold kindL isLet; rw [if_neg (by simp; omega), if_neg (by omega), if_pos (by omega)]
    have HK := Lib.hid hk
    clear hk
    have e94 : ((c : Int) == 94) = false := by rw [beq_eq_false_iff_ne]; omega
    have e126 : ((c : Int) == 126) = false := by rw [beq_eq_false_iff_ne]; omega
    have e37 : ((c : Int) == 37) = false := by rw [beq_eq_false_iff_ne]; omega
    go_enter Try.func133, Try.ntmps133
    go_wp2
    go_ret
    exact kp HK.out.symm
theorem kindR_t (c : Nat) (hc : c < 256) (w : World) : Calls Try.prog 133 #[.int .u8 c] w fun e w' => e = .returned (.int .i64 (kindL c)) ∧ w = w' := by
  have h := kind_classes c
  rcases h with h | h | h | h | h | h | h | h | h | h | h | h | h | h | h | h | h | ⟨h1, h2, h3, n94, n126, n37, n39, n32, n46, n44, n59, n58, n33, n63, n40, n41, n45⟩
  · exact kindR_range c hc (.inl h) w
  · exact kindR_range c hc (.inr (.inl h)) w
  · exact kindR_range c hc (.inr (.inr h)) w
  · exact kindR_const c (by rw [h]; decide) w
  · exact kindR_const c (by rw [h]; decide) w
  · exact kindR_const c (by rw [h]; decide) w
  · exact kindR_const c (by rw [h]; decide) w
  · exact kindR_const c (by rw [h]; decide) w
  · exact kindR_const c (by rw [h]; decide) w
  · exact kindR_const c (by rw [h]; decide) w
  · exact kindR_const c (by rw [h]; decide) w
  · exact kindR_const c (by rw [h]; decide) w
  · exact kindR_const c (by rw [h]; decide) w
  · exact kindR_const c (by rw [h]; decide) w
  · exact kindR_const c (by rw [h]; decide) w
  · exact kindR_const c (by rw [h]; decide) w
  · exact kindR_const c (by rw [h]; decide) w
  · exact kindR_other c hc h1 h2 h3 n94 n126 n37 n39 n32 n46 n44 n59 n58 n33 n63 n40 n41 n45 w
theorem cntA_le16 (l : List UInt8) : cntA l ≤ l.length := cntA_le l
set_option maxHeartbeats 400000 in
theorem lettersR_t (s : ByteArray) (hs : s.size ≤ 70000) (w : World) : Calls Try.prog 117 #[.string s] w fun e w' => e = .returned (.int .i64 (cntA s.data.toList)) ∧ w = w' := by
  go_enter Try.func117, Try.ntmps117
  go_wp2
  go_loop [3, 4, 5] (fun n i _ => ∃ k : Nat, k ≤ s.size ∧ i = .int .i64 k ∧ n = .int .i64 (cntA (s.data.toList.take k))) (fun _ i _ => s.size - (intOf i).toNat)
  case atStart => exact ⟨0, Nat.zero_le _, rfl, rfl⟩
  case round =>
    obtain ⟨k, hk, rfl, rfl⟩ := hrel
    have hb : cntA (s.data.toList.take k) ≤ 70000 := Nat.le_trans (cntA_le _) (by simp; omega)
    by_cases hlt : k < s.size
    · have hst := letters_step s k hlt
      have hk' := kind_aln s[k]
      have hc : s[k].toNat < 256 := s[k].toNat_lt
      generalize hm : cntA (s.data.toList.take k) = m at *
      have HS := Lib.hid hst
      have HK := Lib.hid hk'
      clear hst hm hk'
      go_wp2_with (go_at_call 133; refine (kindR_t _ hc _).mono ?_; rintro e w' ⟨rfl, rfl⟩; generalize kindL _ = q at *)
      all_goals
        go_round
        case rel => exact ⟨k + 1, by omega, by go_num, by rw [HS.out]; first | (rw [if_pos (HK.out.1 (by first | omega | (simp only [beq_iff_eq] at *; omega)))]; go_num) | (rw [if_neg (fun h => by have := HK.out.2 h; simp only [beq_eq_false_iff_ne, ne_eq] at *; omega)]; go_num)⟩
        case measure => simp [intOf]; omega
    · go_wp2
      go_ret
      exact ⟨ret_int (by rw [List.take_of_length_le (by simp; omega)]), rfl⟩
end Go.Proofs.Ytflikmllpimaiaa
