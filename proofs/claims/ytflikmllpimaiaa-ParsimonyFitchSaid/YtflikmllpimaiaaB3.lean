/- Contracts: slices.Index and Contains of strings, phylotree.Check. -/
import Derived.Test.YtflikmllpimaiaaB2
namespace Go.Proofs.Ytflikmllpimaiaa
open Go.RowKit Go.Deep
theorem str_yes {x y : ByteArray} (h : (x.toList == y.toList) = true) : x = y := by
  rw [beq_iff_eq, toList_data, toList_data] at h; exact ba_ext h
theorem str_no {x y : ByteArray} (h : (x.toList == y.toList) = false) : ¬ x = y := by
  rintro rfl; simp at h
set_option maxHeartbeats 400000 in
theorem index_str_t (S : Nat → Prop) (w : World) (v : Value) (n : Nat) (f : Nat → ByteArray) (x : ByteArray) (h : SlAt S w v n (fun k => .string (f k))) (hn : n ≤ 1000000) :
    Calls Try.prog 96 #[v, .string x] w fun e w' => e = .returned (.int .i64 (firstIx (fun j => decide (x = f j)) n)) ∧ w = w' := by
  obtain ⟨p, cap, rfl, hcap, H⟩ := h.open
  clear h
  go_enter Try.func96, Try.ntmps96
  go_wp2
  go_loop [5, 8] (fun _ i => ∃ k : Nat, k ≤ n ∧ i = .int .i64 k ∧ Hid (∀ j, j < k → decide (x = f j) = false)) (fun _ i => n - (intOf i).toNat)
  case atStart => exact ⟨0, Nat.zero_le _, rfl, fun j hj => absurd hj (Nat.not_lt_zero _)⟩
  case round =>
    obtain ⟨k, hk, rfl, hd⟩ := hrel
    by_cases hlt : k < n
    · obtain ⟨b, off, rfl, hc⟩ := H k hlt
      clear H
      go_wp2
      · have hx := str_yes ‹(x.toList == (f k).toList) = true›
        go_ret
        exact ⟨ret_int (firstIx_at (p := fun j => decide (x = f j)) hlt hd.out (by simpa using hx)).symm, rfl⟩
      · have hx := str_no ‹(x.toList == (f k).toList) = false›
        go_round
        case rel => exact ⟨k + 1, by omega, by go_num, fun j hj => if e : j = k then by subst e; simpa using hx else hd.out j (by omega)⟩
        case measure => simp [intOf]; omega
    · clear H
      go_wp2
      go_ret
      exact ⟨ret_int (firstIx_none fun j hj => hd.out j (by omega)).symm, rfl⟩
set_option maxHeartbeats 400000 in
theorem contains_str_t (S : Nat → Prop) (w : World) (v : Value) (n : Nat) (f : Nat → ByteArray) (x : ByteArray) (h : SlAt S w v n (fun k => .string (f k))) (hn : n ≤ 1000000) :
    Calls Try.prog 80 #[v, .string x] w fun e w' => e = .returned (.bool ((List.range n).any fun j => decide (x = f j))) ∧ w = w' := by
  have hx := firstIx_any (fun j => decide (x = f j)) n
  have HX := Lib.hid hx
  clear hx
  go_enter Try.func80, Try.ntmps80
  go_wp2_with (go_at_call 96; refine (index_str_t S w v n f x h hn).mono ?_; rintro e w' ⟨rfl, rfl⟩)
  go_ret
  exact ⟨ret_bool (by rw [← HX.out]), rfl⟩
end Go.Proofs.Ytflikmllpimaiaa
