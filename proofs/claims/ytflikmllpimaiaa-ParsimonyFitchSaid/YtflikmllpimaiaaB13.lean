/- Contracts: slices.IndexFunc, ContainsFunc over a function value that only reads. -/
import Derived.Test.YtflikmllpimaiaaB3
import Derived.Shelf.Abstract
namespace Go.Proofs.Ytflikmllpimaiaa
open Go.RowKit Go.Deep
def FnIs (g : Nat) (lb args : Array Value) (res : Value) (w : World) : Prop := Calls Try.prog g (args ++ lb) w fun e w' => e = .returned res ∧ w = w'
set_option maxHeartbeats 400000 in
theorem rows_ix_t (g : Nat) (lb : Array Value) (eg : ∀ args w, (callFunc g args).run Try.prog w = .ok (.enter g args) w) (S : Nat → Prop) (w : World) (v : Value) (n : Nat) (f : Nat → Value) (p : Nat → Bool)
    (h : SlAt S w v n f) (hn : n ≤ 1000000) (hp : ∀ k, k < n → FnIs g lb #[f k] (.bool (p k)) w) :
    Calls Try.prog 58 #[v, .func (.func g) #[] lb] w fun e w' => e = .returned (.int .i64 (firstIx p n)) ∧ w = w' := by
  obtain ⟨q, cap, rfl, hcap, H⟩ := h.open
  have HP := Lib.hid hp
  clear h hp
  go_enter Try.func58, Try.ntmps58
  go_wp2_with fail
  go_loop [5, 8] (fun _ i => ∃ k : Nat, k ≤ n ∧ i = .int .i64 k ∧ Hid (∀ j, j < k → p j = false)) (fun _ i => n - (intOf i).toNat)
  case atStart => exact ⟨0, Nat.zero_le _, rfl, fun j hj => absurd hj (Nat.not_lt_zero _)⟩
  case round =>
    obtain ⟨k, hk, rfl, hd⟩ := hrel
    by_cases hlt : k < n
    · obtain ⟨b, off, rfl, hc⟩ := H k hlt
      clear H
      have hpk := HP.out k hlt
      unfold FnIs at hpk
      have HPK := Lib.hid hpk
      clear hpk HP
      generalize hv : p k = pk at *
      have HV := Lib.hid hv
      clear hv
      cases pk
      · go_wp2_with fail
        refine HPK.out.mono ?_
        rintro e w' ⟨rfl, rfl⟩
        go_wp2_with fail
        go_round
        case rel => exact ⟨k + 1, by omega, by go_num, fun j hj => if e : j = k then by subst e; exact HV.out else hd.out j (by omega)⟩
        case measure => simp [intOf]; omega
      · go_wp2_with fail
        refine HPK.out.mono ?_
        rintro e w' ⟨rfl, rfl⟩
        go_wp2_with fail
        go_ret
        exact ⟨ret_int (firstIx_at hlt hd.out HV.out).symm, rfl⟩
    · clear H
      go_wp2_with fail
      go_ret
      exact ⟨ret_int (firstIx_none fun j hj => hd.out j (by omega)).symm, rfl⟩
set_option maxHeartbeats 400000 in
theorem rows_has_t (g : Nat) (lb : Array Value) (eg : ∀ args w, (callFunc g args).run Try.prog w = .ok (.enter g args) w) (S : Nat → Prop) (w : World) (v : Value) (n : Nat) (f : Nat → Value) (p : Nat → Bool)
    (h : SlAt S w v n f) (hn : n ≤ 1000000) (hp : ∀ k, k < n → FnIs g lb #[f k] (.bool (p k)) w) :
    Calls Try.prog 20 #[v, .func (.func g) #[] lb] w fun e w' => e = .returned (.bool ((List.range n).any p)) ∧ w = w' := by
  have hx := firstIx_any p n
  have HX := Lib.hid hx
  have HI := Lib.hid (rows_ix_t g lb eg S w v n f p h hn hp)
  clear hx hp h eg
  go_enter Try.func20, Try.ntmps20
  go_wp2_with fail
  refine HI.out.mono ?_
  rintro e w' ⟨rfl, rfl⟩
  go_wp2_with fail
  go_ret
  exact ⟨ret_bool (by rw [← HX.out]), rfl⟩
set_option maxHeartbeats 400000 in
theorem ints_ix_t (g : Nat) (lb : Array Value) (eg : ∀ args w, (callFunc g args).run Try.prog w = .ok (.enter g args) w) (S : Nat → Prop) (w : World) (v : Value) (n : Nat) (f : Nat → Value) (p : Nat → Bool)
    (h : SlAt S w v n f) (hn : n ≤ 1000000) (hp : ∀ k, k < n → FnIs g lb #[f k] (.bool (p k)) w) :
    Calls Try.prog 47 #[v, .func (.func g) #[] lb] w fun e w' => e = .returned (.int .i64 (firstIx p n)) ∧ w = w' := by
  obtain ⟨q, cap, rfl, hcap, H⟩ := h.open
  have HP := Lib.hid hp
  clear h hp
  go_enter Try.func47, Try.ntmps47
  go_wp2_with fail
  go_loop [5, 8] (fun _ i => ∃ k : Nat, k ≤ n ∧ i = .int .i64 k ∧ Hid (∀ j, j < k → p j = false)) (fun _ i => n - (intOf i).toNat)
  case atStart => exact ⟨0, Nat.zero_le _, rfl, fun j hj => absurd hj (Nat.not_lt_zero _)⟩
  case round =>
    obtain ⟨k, hk, rfl, hd⟩ := hrel
    by_cases hlt : k < n
    · obtain ⟨b, off, rfl, hc⟩ := H k hlt
      clear H
      have hpk := HP.out k hlt
      unfold FnIs at hpk
      have HPK := Lib.hid hpk
      clear hpk HP
      generalize hv : p k = pk at *
      have HV := Lib.hid hv
      clear hv
      cases pk
      · go_wp2_with fail
        refine HPK.out.mono ?_
        rintro e w' ⟨rfl, rfl⟩
        go_wp2_with fail
        go_round
        case rel => exact ⟨k + 1, by omega, by go_num, fun j hj => if e : j = k then by subst e; exact HV.out else hd.out j (by omega)⟩
        case measure => simp [intOf]; omega
      · go_wp2_with fail
        refine HPK.out.mono ?_
        rintro e w' ⟨rfl, rfl⟩
        go_wp2_with fail
        go_ret
        exact ⟨ret_int (firstIx_at hlt hd.out HV.out).symm, rfl⟩
    · clear H
      go_wp2_with fail
      go_ret
      exact ⟨ret_int (firstIx_none fun j hj => hd.out j (by omega)).symm, rfl⟩
set_option maxHeartbeats 400000 in
theorem ints_has_t (g : Nat) (lb : Array Value) (eg : ∀ args w, (callFunc g args).run Try.prog w = .ok (.enter g args) w) (S : Nat → Prop) (w : World) (v : Value) (n : Nat) (f : Nat → Value) (p : Nat → Bool)
    (h : SlAt S w v n f) (hn : n ≤ 1000000) (hp : ∀ k, k < n → FnIs g lb #[f k] (.bool (p k)) w) :
    Calls Try.prog 46 #[v, .func (.func g) #[] lb] w fun e w' => e = .returned (.bool ((List.range n).any p)) ∧ w = w' := by
  have hx := firstIx_any p n
  have HX := Lib.hid hx
  have HI := Lib.hid (ints_ix_t g lb eg S w v n f p h hn hp)
  clear hx hp h eg
  go_enter Try.func46, Try.ntmps46
  go_wp2_with fail
  refine HI.out.mono ?_
  rintro e w' ⟨rfl, rfl⟩
  go_wp2_with fail
  go_ret
  exact ⟨ret_bool (by rw [← HX.out]), rfl⟩
end Go.Proofs.Ytflikmllpimaiaa
