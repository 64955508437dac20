/- Contracts: Index, Contains, IndexFunc, ContainsFunc over sets; sharederror.named; Max; far. The contracts of the reference's Table and Score. -/
import Derived.Test.YtpjijbophjdgaaaGreatQ20
import Derived.Test.YtpjijbophjdgaaaGreatQ6
import Derived.Test.YtpjijbophjdgaaaGreatQ21
import Derived.Deep.RegionWith
import Derived.Deep.RegionHeld
namespace Go.Proofs.YtpjijbophjdgaaaGreat
open Go.RowKit Go.Shelf Go.Deep
def gn (l : List Nat) (k : Nat) : Nat := l.getD k 0
def SetsAt (S : Nat → Prop) (w : World) (v : Value) (xs : List Nat) : Prop := SlAt S w v xs.length (fun k => .int .u64 (gn xs k))
theorem SetsAt.keep {S : Nat → Prop} {w w' : World} {v : Value} {xs : List Nat} (h : SetsAt S w v xs) (k : Kept S w w') : SetsAt S w' v xs := SlAt.keep h k
theorem SetsAt.sub {S T : Nat → Prop} {w : World} {v : Value} {xs : List Nat} (h : SetsAt S w v xs) (k : ∀ b, S b → b < w.heap.size → T b) : SetsAt T w v xs := SlAt.sub h k
theorem sets_get {S : Nat → Prop} {w : World} {p : Option Addr} {n cap : Nat} {xs : List Nat} (h : SetsAt S w (.slice p n cap) xs) {k : Nat} (hk : k < xs.length) : ∃ b off, p = some ⟨b, off, none⟩ ∧ w.cell? ⟨b, off + k, none⟩ = some (.int .u64 (gn xs k)) := by
  obtain ⟨q, c, e, _, H⟩ := SlAt.open h
  injection e with e1
  subst e1
  exact H k hk
section
attribute [local go_sem] Oper.semAt_some
set_option maxHeartbeats 400000 in
theorem index_set_t (S : Nat → Prop) (w : World) (v : Value) (xs : List Nat) (x : Nat) (h : SetsAt S w v xs) (hn : xs.length ≤ 1000000) :
    Calls Tryz.prog 149 #[v, .int .u64 x] w fun e w' => e = .returned (.int .i64 (firstIx (fun j => decide (x = gn xs j)) xs.length)) ∧ w = w' := by
  obtain ⟨p, cap, rfl, hcap, H⟩ := SlAt.open h
  clear h
  go_enter Tryz.func149, Tryz.ntmps149
  go_wp2_with fail
  go_loop [5, 8] (fun _ i => ∃ k : Nat, k ≤ xs.length ∧ i = .int .i64 k ∧ Hid (∀ j, j < k → decide (x = gn xs j) = false)) (fun _ i => xs.length - (intOf i).toNat)
  case atStart => exact ⟨0, Nat.zero_le _, rfl, fun j hj => absurd hj (Nat.not_lt_zero _)⟩
  case round =>
    obtain ⟨k, hk, rfl, hd⟩ := hrel
    by_cases hlt : k < xs.length
    · obtain ⟨b, off, rfl, hc⟩ := H k hlt
      clear H
      generalize hy : gn xs k = y at *
      have HY := Lib.hid hy
      clear hy
      by_cases hxy : x = y
      · have hx1 : (x == y) = true := by simp [hxy]
        have HXY := Lib.hid hxy
        clear hxy
        go_wp2_with fail
        go_ret
        exact ⟨ret_int (firstIx_at (p := fun j => decide (x = gn xs j)) hlt hd.out (by rw [HY.out]; simpa using HXY.out)).symm, rfl⟩
      · have hx1 : (x == y) = false := by simpa using hxy
        have HXY := Lib.hid hxy
        clear hxy
        go_wp2_with fail
        go_round
        case rel => exact ⟨k + 1, by omega, by go_num, fun j hj => if e : j = k then by subst e; rw [HY.out]; simpa using HXY.out else hd.out j (by omega)⟩
        case measure => simp [intOf]; omega
    · clear H
      go_wp2_with fail
      go_ret
      exact ⟨ret_int (firstIx_none fun j hj => hd.out j (by omega)).symm, rfl⟩
end
set_option maxHeartbeats 400000 in
theorem contains_set_t (S : Nat → Prop) (w : World) (v : Value) (xs : List Nat) (x : Nat) (h : SetsAt S w v xs) (hn : xs.length ≤ 1000000) :
    Calls Tryz.prog 76 #[v, .int .u64 x] w fun e w' => e = .returned (.bool ((List.range xs.length).any fun j => decide (x = gn xs j))) ∧ w = w' := by
  have hx := firstIx_any (fun j => decide (x = gn xs j)) xs.length
  have HX := Lib.hid hx
  have HI := Lib.hid (index_set_t S w v xs x h hn)
  clear hx h
  go_enter Tryz.func76, Tryz.ntmps76
  go_wp2_with fail
  refine HI.out.mono ?_
  rintro e w' ⟨rfl, rfl⟩
  go_wp2_with fail
  go_ret
  exact ⟨ret_bool (by rw [← HX.out]), rfl⟩
set_option maxHeartbeats 400000 in
theorem sets_ix_t (g : Nat) (lb : Array Value) (eg : ∀ args w, (callFunc g args).run Tryz.prog w = .ok (.enter g args) w) (S : Nat → Prop) (w : World) (v : Value) (n : Nat) (f : Nat → Value) (p : Nat → Bool)
    (h : SlAt S w v n f) (hn : n ≤ 1000000) (hp : ∀ k, k < n → FnIs g lb #[f k] (.bool (p k)) w) :
    Calls Tryz.prog 150 #[v, .func (.func g) #[] lb] w fun e w' => e = .returned (.int .i64 (firstIx p n)) ∧ w = w' := by
  obtain ⟨q, cap, rfl, hcap, H⟩ := h.open
  have HP := Lib.hid hp
  clear h hp
  go_enter Tryz.func150, Tryz.ntmps150
  go_wp2_with fail
  go_loop [5, 8] (fun _ i => ∃ k : Nat, k ≤ n ∧ i = .int .i64 k ∧ Hid (∀ j, j < k → p j = false)) (fun _ i => n - (intOf i).toNat)
  case atStart => exact ⟨0, Nat.zero_le _, rfl, fun j hj => absurd hj (Nat.not_lt_zero _)⟩
  case round =>
    obtain ⟨k, hk, rfl, hd⟩ := hrel
    by_cases hlt : k < n
    · obtain ⟨b, off, rfl, hc⟩ := H k hlt
      clear H
      have hpk := HP.out k hlt
      unfold FnIs at hpk
      have HPK := Lib.hid hpk
      clear hpk HP
      generalize hv : p k = pk at *
      have HV := Lib.hid hv
      clear hv
      cases pk
      · go_wp2_with fail
        refine HPK.out.mono ?_
        rintro e w' ⟨rfl, rfl⟩
        go_wp2_with fail
        go_round
        case rel => exact ⟨k + 1, by omega, by go_num, fun j hj => if e : j = k then by subst e; exact HV.out else hd.out j (by omega)⟩
        case measure => simp [intOf]; omega
      · go_wp2_with fail
        refine HPK.out.mono ?_
        rintro e w' ⟨rfl, rfl⟩
        go_wp2_with fail
        go_ret
        exact ⟨ret_int (firstIx_at hlt hd.out HV.out).symm, rfl⟩
    · clear H
      go_wp2_with fail
      go_ret
      exact ⟨ret_int (firstIx_none fun j hj => hd.out j (by omega)).symm, rfl⟩
set_option maxHeartbeats 400000 in
theorem sets_has_t (g : Nat) (lb : Array Value) (eg : ∀ args w, (callFunc g args).run Tryz.prog w = .ok (.enter g args) w) (S : Nat → Prop) (w : World) (v : Value) (n : Nat) (f : Nat → Value) (p : Nat → Bool)
    (h : SlAt S w v n f) (hn : n ≤ 1000000) (hp : ∀ k, k < n → FnIs g lb #[f k] (.bool (p k)) w) :
    Calls Tryz.prog 79 #[v, .func (.func g) #[] lb] w fun e w' => e = .returned (.bool ((List.range n).any p)) ∧ w = w' := by
  have hx := firstIx_any p n
  have HX := Lib.hid hx
  have HI := Lib.hid (sets_ix_t g lb eg S w v n f p h hn hp)
  clear hx hp h eg
  go_enter Tryz.func79, Tryz.ntmps79
  go_wp2_with fail
  refine HI.out.mono ?_
  rintro e w' ⟨rfl, rfl⟩
  go_wp2_with fail
  go_ret
  exact ⟨ret_bool (by rw [← HX.out]), rfl⟩
set_option maxHeartbeats 400000 in
theorem snamed_t (s : ByteArray) (hs : s.size ≤ 70000) (w : World) : Calls Tryz.prog 73 #[.string s] w fun e w' => e = .returned (.bool (namedB s.data.toList)) ∧ w = w' := by
  have hl := size_data s
  have HL := Lib.hid hl
  clear hl
  go_enter Tryz.func73, Tryz.ntmps73
  go_wp2_with fail
  refine (suffix_t s hs _).mono ?_
  rintro e w' ⟨⟨h1, r, hr, hd, rfl⟩ | ⟨h1, rfl⟩, rfl⟩
  · have hf : namedB s.data.toList = (decide (s.size ≤ 16) && isNameB r.data.toList) := by
      unfold namedB; rw [if_pos h1, hd, HL.out, Bool.and_comm]
    have HF := Lib.hid hf
    clear hf hd h1
    go_wp2_with (go_at_call 145; refine (isName_t r (by omega) _).mono ?_; rintro e w' ⟨rfl, rfl⟩)
    all_goals
      go_ret
      refine ⟨ret_bool ?_, rfl⟩
      rw [HF.out, Bool.eq_iff_iff]
      simp at *
      try omega
  · have hf : namedB s.data.toList = isNameB s.data.toList := by unfold namedB; rw [if_neg h1]
    have HF := Lib.hid hf
    clear hf h1
    go_wp2_with (go_at_call 145; refine (isName_t s hs _).mono ?_; rintro e w' ⟨rfl, rfl⟩)
    go_ret
    exact ⟨ret_bool (by rw [HF.out]), rfl⟩
def mxK (l : List Int) : Nat → Int
  | 0 => gi l 0
  | k + 1 => max (mxK l k) (gi l k)
def mxL (l : List Int) : Int := mxK l l.length
set_option maxHeartbeats 400000 in
theorem max_int_t (S : Nat → Prop) (w : World) (v : Value) (xs : List Int) (h : IntsAt S w v xs) (h0 : 0 < xs.length) (hn : xs.length ≤ 1000000) :
    Calls Tryz.prog 148 #[v] w fun e w' => e = .returned (.int .i64 (mxL xs)) ∧ w = w' := by
  obtain ⟨p, cap, rfl, hcap, H⟩ := SlAt.open h
  clear h
  obtain ⟨b0, o0, rfl, hc0⟩ := H 0 h0
  rw [Nat.add_zero] at hc0
  have hx1 : mxK xs 1 = gi xs 0 := by show max (gi xs 0) (gi xs 0) = _; exact Int.max_self _
  have HX1 := Lib.hid hx1
  have d0 : decide ((xs.length : Int) < 1) = false := by simp; omega
  clear hx1
  have HML : Hid (mxL xs = mxK xs xs.length) := rfl
  go_enter Tryz.func148, Tryz.ntmps148
  go_wp2_with fail
  go_loop [3, 4] (fun m i => ∃ k : Nat, 1 ≤ k ∧ k ≤ xs.length ∧ i = .int .i64 k ∧ m = .int .i64 (mxK xs k)) (fun _ i => xs.length - (intOf i).toNat)
  case atStart => exact ⟨1, Nat.le_refl _, h0, by go_num, by rw [HX1.out]⟩
  case round =>
    obtain ⟨k, hk1, hk, rfl, rfl⟩ := hrel
    by_cases hlt : k < xs.length
    · obtain ⟨b, off, e1, hc⟩ := H k hlt
      injection e1 with e1
      injection e1 with e1 e2
      subst e1; subst e2
      have HS : Hid (mxK xs (k + 1) = max (mxK xs k) (gi xs k)) := rfl
      clear H
      go_wp2_with fail
      go_round
      case rel => exact ⟨k + 1, by omega, by omega, by go_num, by rw [HS.out]⟩
      case measure => simp [intOf]; omega
    · obtain rfl : k = xs.length := by omega
      clear H
      go_wp2_with fail
      go_ret
      exact ⟨ret_int HML.out.symm, rfl⟩
end Go.Proofs.YtpjijbophjdgaaaGreat
namespace Go.Proofs.YtpjijbophjdgaaaGreat
open Go.RowKit Go.Deep
end Go.Proofs.YtpjijbophjdgaaaGreat
