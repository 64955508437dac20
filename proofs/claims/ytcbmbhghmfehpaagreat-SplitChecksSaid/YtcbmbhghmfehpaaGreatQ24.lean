/- The contracts of layer 32's reference: Check, Compatible, All. slices.IndexFunc and ContainsFunc at ints with a function that draws. split.Of: the map of names, the closure that asks it. split.OfStates. -/
import Derived.Test.YtcbmbhghmfehpaaGreatQ21
import Derived.Test.YtcbmbhghmfehpaaGreatQ23
import Derived.Test.YtcbmbhghmfehpaaGreatQ1
import Derived.Test.YtcbmbhghmfehpaaGreatQ2
import Derived.Test.YtcbmbhghmfehpaaGreatQ13
import Derived.Test.YtcbmbhghmfehpaaGreatQ20
import Derived.Test.YtcbmbhghmfehpaaGreatQ4
import Derived.Test.YtcbmbhghmfehpaaGreatQ3
namespace Go.Proofs.YtcbmbhghmfehpaaGreat
open Go.RowKit Go.Deep
set_option maxRecDepth 100000 in
set_option maxHeartbeats 2000000 in
theorem chk32_t (S : Nat → Prop) (w : World) (v : Value) (n : Int) (s : List Int) (h : IntsAt S w v s) (hn : s.length ≤ 1000000) :
    Calls Tryz.prog 64 #[.int .i64 n, v] w fun e w' => e = .returned (.int .i64 (splErr n s)) ∧ QD w w' := by
  have HF := Lib.hid (splErr_ref n s)
  have HC := Lib.hid (chk04_t S w v s h hn)
  obtain ⟨p, cap, rfl, -, -⟩ := SlAt.open h
  have H : Hid (IntsAt S w (.slice p s.length cap) s) := h
  have HO : Hid (∀ i, outB n s i = (decide (gi s i = 0) || decide (n ≤ gi s i))) := fun _ => rfl
  clear h
  by_cases h1 : n < 1
  · have HR : Hid (splErr n s = 2) := by unfold Hid; rw [HF.out, if_pos (.inl h1)]
    have e1 : decide (n < 1) = true := decide_eq_true h1
    clear h1
    go_enter Tryz.func64, Tryz.ntmps64
    go_wp2_with fail
    go_ret
    exact ⟨ret_int (by rw [HR.out]), QD.refl _⟩
  have e1 : decide (n < 1) = false := decide_eq_false h1
  by_cases h2 : 32 < n
  · have HR : Hid (splErr n s = 2) := by unfold Hid; rw [HF.out, if_pos (.inr h2)]
    have e2 : decide (32 < n) = true := decide_eq_true h2
    clear h1 h2
    go_enter Tryz.func64, Tryz.ntmps64
    go_wp2_with fail
    go_ret
    exact ⟨ret_int (by rw [HR.out]), QD.refl _⟩
  have e2 : decide (32 < n) = false := decide_eq_false h2
  have n1 : 1 ≤ n := by omega
  have n2 : n ≤ 32 := by omega
  have HF2 : Hid (splErr n s = if setErr s ≠ 0 then setErr s else if (List.range s.length).any (outB n s) then 2 else if (s.length : Int) < 2 ∨ n - 2 < s.length then 8 else 0) := by unfold Hid; rw [HF.out, if_neg (by omega)]
  clear HF h1 h2
  by_cases h3 : setErr s = 0
  case neg =>
    have e3 : (setErr s != 0) = true := by simpa using h3
    have HR : Hid (splErr n s = setErr s) := by unfold Hid; rw [HF2.out, if_pos h3]
    clear h3 HF2
    generalize setErr s = z at *
    go_enter Tryz.func64, Tryz.ntmps64
    go_wp2_with fail
    refine HC.out.mono ?_
    rintro e w1 ⟨rfl, hq1⟩
    have HQ1 := Lib.hid hq1
    clear hq1
    go_wp2_with fail
    go_ret
    exact ⟨ret_int (by rw [HR.out]), HQ1.out⟩
  have HF3 : Hid (splErr n s = if (List.range s.length).any (outB n s) then 2 else if (s.length : Int) < 2 ∨ n - 2 < s.length then 8 else 0) := by unfold Hid; rw [HF2.out, if_neg (fun e => e h3)]
  rw [h3] at HC
  have hl64 : s.length ≤ 64 := setok_len (setErr_zero.1 h3)
  clear h3 HF2
  go_enter Tryz.func64, Tryz.ntmps64
  go_wp2_with fail
  refine HC.out.mono ?_
  rintro e w1 ⟨rfl, hq1⟩
  have HQ1 := Lib.hid hq1
  clear hq1 HC
  go_wp2_with fail
  go_loop [6] (fun i => ∃ k : Nat, k ≤ s.length ∧ i = .int .i64 k ∧ Hid (∀ j, j < k → outB n s j = false)) (fun i => s.length - (intOf i).toNat)
  case atStart => exact ⟨0, Nat.zero_le _, rfl, fun j hj => absurd hj (Nat.not_lt_zero _)⟩
  case round =>
    obtain ⟨k, hk, rfl, hd⟩ := hrel
    by_cases hlt : k < s.length
    · obtain ⟨b, off, rfl, hc⟩ := ints_get (IntsAt.keep H.out (HQ1.out.kept S)) hlt
      have i1 : (0 : Int) ≤ (k : Int) := by omega
      have i2 : (k : Int) < (s.length : Int) := by omega
      have HOK := Lib.hid (HO.out k)
      have HLT := Lib.hid hlt
      have HAT : Hid (outB n s k = true → splErr n s = 2) := fun e => by rw [HF3.out, if_pos (any_at (p := outB n s) hlt e)]
      have HGO : Hid (outB n s k = false → ∀ j, j < k + 1 → outB n s j = false) := fun e j hj => if ej : j = k then by subst ej; exact e else hd.out j (by omega)
      generalize gi s k = x at *
      by_cases q1 : x = 0
      · have HR := Lib.hid (HAT.out (by rw [HOK.out, decide_eq_true q1]; rfl))
        have f1 : (x == 0) = true := by simpa using q1
        clear q1
        go_wp2_with fail
        go_ret
        exact ⟨ret_int (by rw [HR.out]), HQ1.out⟩
      have f1 : (x == 0) = false := by simpa using q1
      by_cases q2 : n ≤ x
      · have HR := Lib.hid (HAT.out (by rw [HOK.out, decide_eq_true q2]; simp))
        have f2 : decide (n ≤ x) = true := decide_eq_true q2
        clear q1 q2
        go_wp2_with fail
        go_ret
        exact ⟨ret_int (by rw [HR.out]), HQ1.out⟩
      · have HR := Lib.hid (HGO.out (by rw [HOK.out, decide_eq_false q1, decide_eq_false q2]; rfl))
        have f2 : decide (n ≤ x) = false := decide_eq_false q2
        clear q1 q2
        go_wp2_with fail
        go_round
        case rel => exact ⟨k + 1, HLT.out, by go_num, HR.out⟩
        case measure => have := HLT.out; simp [intOf]; omega
    · obtain rfl : k = s.length := by omega
      have HF4 : Hid (splErr n s = if (s.length : Int) < 2 ∨ n - 2 < s.length then 8 else 0) := by unfold Hid; rw [HF3.out, any_none (p := outB n s) hd.out, if_neg (by decide)]
      clear hlt hk hd HF3 HO H
      by_cases q1 : (s.length : Int) < 2
      · have HR : Hid (splErr n s = 8) := by unfold Hid; rw [HF4.out, if_pos (.inl q1)]
        have f1 : decide ((s.length : Int) < 2) = true := decide_eq_true q1
        clear q1
        go_wp2_with fail
        go_ret
        exact ⟨ret_int (by rw [HR.out]), HQ1.out⟩
      have f1 : decide ((s.length : Int) < 2) = false := decide_eq_false q1
      by_cases q2 : n - 2 < (s.length : Int)
      · have HR : Hid (splErr n s = 8) := by unfold Hid; rw [HF4.out, if_pos (.inr q2)]
        have f2 : decide (n - 2 < (s.length : Int)) = true := decide_eq_true q2
        clear q1 q2
        go_wp2_with fail
        go_ret
        exact ⟨ret_int (by rw [HR.out]), HQ1.out⟩
      · have HR : Hid (splErr n s = 0) := by unfold Hid; rw [HF4.out, if_neg (by omega)]
        have f2 : decide (n - 2 < (s.length : Int)) = false := decide_eq_false q2
        clear q1 q2
        go_wp2_with fail
        go_ret
        exact ⟨ret_int (by rw [HR.out]), HQ1.out⟩
set_option maxRecDepth 100000 in
theorem within32_t (S T : Nat → Prop) (w : World) (v u : Value) (a b : List Int) (h : IntsAt S w v a) (h2 : IntsAt T w u b) (hn : a.length ≤ 1000000) (hm : b.length ≤ 1000000) (ha : SetOk a) (hb : SetOk b) :
    Calls Tryz.prog 179 #[v, u] w fun e w' => e = .returned (.bool (subB a b)) ∧ QD w w' := by
  have H1 := Lib.hid (within04_t S T w v u a b h h2 hn hm ha hb)
  obtain ⟨p, cap, rfl, -, -⟩ := SlAt.open h
  obtain ⟨q, caq, rfl, -, -⟩ := SlAt.open h2
  clear h h2
  go_enter Tryz.func179, Tryz.ntmps179
  go_wp2_with fail
  refine H1.out.mono ?_
  rintro e w1 ⟨rfl, hq1⟩
  have HQ1 := Lib.hid hq1
  clear hq1
  go_wp2_with fail
  go_ret
  exact ⟨rfl, HQ1.out⟩
set_option maxRecDepth 100000 in
set_option maxHeartbeats 1000000 in
theorem fit32_t (S T : Nat → Prop) (w : World) (v u : Value) (a b : List Int) (h : IntsAt S w v a) (h2 : IntsAt T w u b) (ha : SetOk a) (hb : SetOk b) :
    Calls Tryz.prog 127 #[v, u] w fun e w' => e = .returned (.bool (compB a b)) ∧ Up w w' := by
  have hla := setok_len ha
  have hlb := setok_len hb
  have H1 := Lib.hid (inter04_t S T w v u a b h h2 (by omega) (by omega) ha hb)
  have H2 : Hid (∀ W, Up w W → Calls Tryz.prog 179 #[v, u] W fun e w' => e = .returned (.bool (subB a b)) ∧ QD W w') := fun W hW => within32_t S T W v u a b (IntsAt.keep h (hW.kept _)) (IntsAt.keep h2 (hW.kept _)) (by omega) (by omega) ha hb
  have H3 : Hid (∀ W, Up w W → Calls Tryz.prog 179 #[u, v] W fun e w' => e = .returned (.bool (subB b a)) ∧ QD W w') := fun W hW => within32_t T S W u v b a (IntsAt.keep h2 (hW.kept _)) (IntsAt.keep h (hW.kept _)) (by omega) (by omega) hb ha
  have HF := Lib.hid (fit_comp ha hb)
  obtain ⟨p, cap, rfl, -, -⟩ := SlAt.open h
  obtain ⟨q, caq, rfl, -, -⟩ := SlAt.open h2
  clear h h2 ha hb
  have HLE : Hid ((a.filter fun x => b.contains x).length ≤ a.length) := List.length_filter_le _ _
  generalize compB a b = r at *
  generalize (a.filter fun x => b.contains x) = F at *
  go_enter Tryz.func127, Tryz.ntmps127
  go_wp2_with fail
  refine H1.out.mono ?_
  rintro e w1 ⟨hu1, x, rfl, hx⟩
  obtain ⟨xp, xc, rfl, -, -⟩ := SlAt.open hx
  have HU1 := Lib.hid hu1
  clear hu1 hx H1
  by_cases h0 : F.length = 0
  · have HR : Hid (r = true) := by unfold Hid; rw [← HF.out, decide_eq_true h0]; rfl
    have e0 : ((F.length : Int) == 0) = true := by simp [h0]
    clear h0
    generalize F.length = m at *
    go_wp2_with fail
    go_ret
    exact ⟨ret_bool HR.out.symm, HU1.out⟩
  have e0 : ((F.length : Int) == 0) = false := by simpa using h0
  have HF2 : Hid ((subB a b || subB b a) = r) := by unfold Hid; rw [← HF.out, decide_eq_false h0]; rfl
  clear h0 HF
  generalize F.length = m at *
  generalize subB a b = s1 at *
  generalize subB b a = s2 at *
  cases s1
  · go_wp2_with fail
    refine (H2.out w1 HU1.out).mono ?_
    rintro e w2 ⟨rfl, hq2⟩
    have HU2 := Lib.hid (HU1.out.trans hq2.up)
    clear hq2
    go_wp2_with fail
    refine (H3.out w2 HU2.out).mono ?_
    rintro e w3 ⟨rfl, hq3⟩
    have HU3 := Lib.hid (HU2.out.trans hq3.up)
    clear hq3
    go_wp2_with fail
    go_ret
    exact ⟨ret_bool HF2.out, HU3.out⟩
  · go_wp2_with fail
    refine (H2.out w1 HU1.out).mono ?_
    rintro e w2 ⟨rfl, hq2⟩
    have HU2 := Lib.hid (HU1.out.trans hq2.up)
    clear hq2
    go_wp2_with fail
    go_ret
    exact ⟨ret_bool HF2.out, HU2.out⟩
set_option maxRecDepth 100000 in
set_option maxHeartbeats 1000000 in
theorem compat32_t (S T : Nat → Prop) (w : World) (v u : Value) (n : Int) (a b : List Int) (h : IntsAt S w v a) (h2 : IntsAt T w u b) (hl : a.length ≤ 1000000) (hl2 : b.length ≤ 1000000) :
    Calls Tryz.prog 62 #[.int .i64 n, v, u] w fun e w' => e = .returned (.tuple #[.bool (cpB n a b), .int .i64 (cpErr n a b)]) ∧ Up w w' := by
  have HD : Hid (cpErr n a b = if splErr n a ≠ 0 then splErr n a else splErr n b) := rfl
  have HDB : Hid (cpB n a b = (decide (cpErr n a b = 0) && compB a b)) := rfl
  have H1 := Lib.hid (chk32_t S w v n a h hl)
  have H2 : Hid (∀ W, Up w W → Calls Tryz.prog 64 #[.int .i64 n, u] W fun e w' => e = .returned (.int .i64 (splErr n b)) ∧ QD W w') := fun W hW => chk32_t T W u n b (IntsAt.keep h2 (hW.kept _)) hl2
  have H3 : Hid (splErr n a = 0 → splErr n b = 0 → ∀ W, Up w W → Calls Tryz.prog 127 #[v, u] W fun e w' => e = .returned (.bool (compB a b)) ∧ Up W w') := fun e1 e2 W hW => fit32_t S T W v u a b (IntsAt.keep h (hW.kept _)) (IntsAt.keep h2 (hW.kept _)) (splErr_zero.1 e1).set (splErr_zero.1 e2).set
  obtain ⟨p, cap, rfl, -, -⟩ := SlAt.open h
  obtain ⟨q, caq, rfl, -, -⟩ := SlAt.open h2
  clear h h2
  generalize hz1 : splErr n a = z1 at *
  generalize hz2 : splErr n b = z2 at *
  clear hz1 hz2
  by_cases e1 : z1 = 0
  case neg =>
    have d1 : (z1 != 0) = true := by simpa using e1
    have HR : Hid (cpErr n a b = z1 ∧ cpB n a b = false) := by
      have h1 : cpErr n a b = z1 := by rw [HD.out, if_pos e1]
      exact ⟨h1, by rw [HDB.out, h1, decide_eq_false e1]; rfl⟩
    clear e1 HD HDB
    go_enter Tryz.func62, Tryz.ntmps62
    go_wp2_with fail
    refine H1.out.mono ?_
    rintro e w1 ⟨rfl, hq1⟩
    have HQ1 := Lib.hid hq1
    clear hq1
    go_wp2_with fail
    exact ⟨rfl, .tuple #[.bool false, .int .i64 z1], by simp [results, Tryz.results62, go_sem], by rw [HR.out.1, HR.out.2], HQ1.out.up⟩
  subst e1
  have HD2 : Hid (cpErr n a b = z2) := by unfold Hid; rw [HD.out, if_neg (by decide)]
  by_cases e2 : z2 = 0
  case neg =>
    have d2 : (z2 != 0) = true := by simpa using e2
    have HR : Hid (cpB n a b = false) := by unfold Hid; rw [HDB.out, HD2.out, decide_eq_false e2]; rfl
    clear e2 HD HDB
    go_enter Tryz.func62, Tryz.ntmps62
    go_wp2_with fail
    refine H1.out.mono ?_
    rintro e w1 ⟨rfl, hq1⟩
    have HU1 := Lib.hid hq1.up
    clear hq1
    go_wp2_with fail
    refine (H2.out w1 HU1.out).mono ?_
    rintro e w2 ⟨rfl, hq2⟩
    have HU2 := Lib.hid (HU1.out.trans hq2.up)
    clear hq2
    go_wp2_with fail
    exact ⟨rfl, .tuple #[.bool false, .int .i64 z2], by simp [results, Tryz.results62, go_sem], by rw [HD2.out, HR.out], HU2.out⟩
  subst e2
  have HR : Hid (cpB n a b = compB a b) := by unfold Hid; rw [HDB.out, HD2.out]; rfl
  have H4 := Lib.hid (H3.out rfl rfl)
  clear HD HDB H3
  generalize compB a b = c at *
  go_enter Tryz.func62, Tryz.ntmps62
  go_wp2_with fail
  refine H1.out.mono ?_
  rintro e w1 ⟨rfl, hq1⟩
  have HU1 := Lib.hid hq1.up
  clear hq1
  go_wp2_with fail
  refine (H2.out w1 HU1.out).mono ?_
  rintro e w2 ⟨rfl, hq2⟩
  have HU2 := Lib.hid (HU1.out.trans hq2.up)
  clear hq2
  go_wp2_with fail
  refine (H4.out w2 HU2.out).mono ?_
  rintro e w3 ⟨rfl, hu3⟩
  have HU3 := Lib.hid (HU2.out.trans hu3)
  clear hu3
  go_wp2_with fail
  exact ⟨rfl, .tuple #[.bool c, .int .i64 0], by simp [results, Tryz.results62, go_sem], by rw [HD2.out, HR.out], HU3.out⟩
end Go.Proofs.YtcbmbhghmfehpaaGreat
namespace Go.Proofs.YtcbmbhghmfehpaaGreat
open Go.RowKit Go.Deep
def FnD (g : Nat) (lb args : Array Value) (res : Value) (w : World) : Prop := ∀ m, Calls Tryz.prog g (args ++ lb) (w.drewN m) fun e w' => e = .returned res ∧ ∃ q, w' = w.drewN q
set_option maxHeartbeats 400000 in
theorem ints_ix_d (g : Nat) (lb : Array Value) (eg : ∀ args w, (callFunc g args).run Tryz.prog w = .ok (.enter g args) w) (S : Nat → Prop) (w : World) (v : Value) (n : Nat) (f : Nat → Value) (p : Nat → Bool)
    (h : SlAt S w v n f) (hn : n ≤ 1000000) (hp : ∀ k, k < n → FnD g lb #[f k] (.bool (p k)) w) :
    Calls Tryz.prog 139 #[v, .func (.func g) #[] lb] w fun e w' => e = .returned (.int .i64 (firstIx p n)) ∧ ∃ q, w' = w.drewN q := by
  obtain ⟨q, cap, rfl, hcap, H⟩ := h.open
  have HP := Lib.hid hp
  clear h hp
  go_enter Tryz.func139, Tryz.ntmps139
  go_wp2_with fail
  go_loopw [5, 8] (fun _ i wr => ∃ k : Nat, k ≤ n ∧ i = .int .i64 k ∧ Hid (∀ j, j < k → p j = false) ∧ Hid (∃ m, wr = w.drewN m)) (fun _ i _ => n - (intOf i).toNat)
  case atStart => exact ⟨0, Nat.zero_le _, rfl, fun j hj => absurd hj (Nat.not_lt_zero _), 0, rfl⟩
  case round =>
    obtain ⟨k, hk, rfl, hd, hm⟩ := hrel
    obtain ⟨m, rfl⟩ := hm.out
    clear hm
    by_cases hlt : k < n
    · obtain ⟨b, off, rfl, hc⟩ := H k hlt
      have hc := (Up.drewN w m).cell hc
      clear H
      have hpk := HP.out k hlt
      unfold FnD at hpk
      have HPK := Lib.hid (hpk m)
      clear hpk HP
      generalize hv : p k = pk at *
      have HV := Lib.hid hv
      clear hv
      cases pk
      · go_wp2_with fail
        refine HPK.out.mono ?_
        rintro e w' ⟨rfl, m2, rfl⟩
        go_wp2_with fail
        go_roundw
        case rel => exact ⟨k + 1, by omega, by go_num, fun j hj => if e : j = k then by subst e; exact HV.out else hd.out j (by omega), m2, rfl⟩
        case measure => simp [intOf]; omega
      · go_wp2_with fail
        refine HPK.out.mono ?_
        rintro e w' ⟨rfl, m2, rfl⟩
        go_wp2_with fail
        go_ret
        exact ⟨ret_int (firstIx_at hlt hd.out HV.out).symm, m2, rfl⟩
    · clear H
      go_wp2_with fail
      go_ret
      exact ⟨ret_int (firstIx_none fun j hj => hd.out j (by omega)).symm, m, rfl⟩
set_option maxHeartbeats 400000 in
theorem ints_has_d (g : Nat) (lb : Array Value) (eg : ∀ args w, (callFunc g args).run Tryz.prog w = .ok (.enter g args) w) (S : Nat → Prop) (w : World) (v : Value) (n : Nat) (f : Nat → Value) (p : Nat → Bool)
    (h : SlAt S w v n f) (hn : n ≤ 1000000) (hp : ∀ k, k < n → FnD g lb #[f k] (.bool (p k)) w) :
    Calls Tryz.prog 70 #[v, .func (.func g) #[] lb] w fun e w' => e = .returned (.bool ((List.range n).any p)) ∧ ∃ q, w' = w.drewN q := by
  have hx := firstIx_any p n
  have HX := Lib.hid hx
  have HI := Lib.hid (ints_ix_d g lb eg S w v n f p h hn hp)
  obtain ⟨q, cap, rfl, -, -⟩ := SlAt.open h
  clear hx hp h eg
  go_enter Tryz.func70, Tryz.ntmps70
  go_wp2_with fail
  refine HI.out.mono ?_
  rintro e w' ⟨rfl, m, rfl⟩
  go_wp2_with fail
  go_ret
  exact ⟨ret_bool (by rw [← HX.out]), m, rfl⟩
end Go.Proofs.YtcbmbhghmfehpaaGreat
namespace Go.Proofs.YtcbmbhghmfehpaaGreat
open Go.RowKit Go.Deep
def smK (names : List ByteArray) : Nat → List (ByteArray × Value)
  | 0 => []
  | k + 1 => putS (smK names k) (gs names k) (.bool true)
def inNm (names : List ByteArray) (k : Nat) (s : ByteArray) : Bool := (List.range k).any fun j => decide (gs names j = s)
theorem smK_uniq (names : List ByteArray) : ∀ k, UniqS (smK names k)
  | 0 => List.nodup_nil
  | k + 1 => putS_uniq (smK_uniq names k) _ _
theorem smK_look (names : List ByteArray) (s : ByteArray) : ∀ k, ((smK names k).lookup s).getD (.bool false) = .bool (inNm names k s)
  | 0 => rfl
  | k + 1 => by
    rw [smK, lookup_putS]
    have e : inNm names (k + 1) s = (inNm names k s || decide (gs names k = s)) := by unfold inNm; rw [List.range_succ, List.any_append]; simp
    rw [e]
    by_cases h : s = gs names k
    · rw [if_pos h, decide_eq_true h.symm]; simp
    · rw [if_neg h, smK_look names s k, decide_eq_false (fun q => h q.symm)]; simp
theorem inNm_fd (names : List ByteArray) (s : ByteArray) : inNm names names.length s = !decide (fdN names s < 0) := by
  have h1 : decide (0 ≤ fdN names s) = (List.range names.length).any fun j => decide (s = gs names j) := firstIx_any _ _
  have h2 : inNm names names.length s = (List.range names.length).any fun j => decide (s = gs names j) := by
    unfold inNm
    congr 1
    funext j
    by_cases e : gs names j = s
    · rw [decide_eq_true e, decide_eq_true e.symm]
    · rw [decide_eq_false e, decide_eq_false fun q => e q.symm]
  rw [h2, ← h1]
  by_cases h : fdN names s < 0
  · rw [decide_eq_true h, decide_eq_false (by omega)]; rfl
  · rw [decide_eq_false h, decide_eq_true (by omega)]; rfl
theorem zero_bool (w : World) : (zeroValue 4).run Tryz.prog w = .ok (.bool false) w := by simp [Tryz.zeroValue4]
set_option maxRecDepth 100000 in
set_option maxHeartbeats 1000000 in
theorem of1_t (w : World) (S : Nat → Prop) (b8 bt mb : Nat) (np : Option Addr) (nc : Nat) (ns names : List ByteArray) (k : Nat) (h8 : w.cell? ⟨b8, 0, none⟩ = some (.map (some mb))) (hm : SMap w mb (smK names names.length)) (ht : w.cell? ⟨bt, 1, none⟩ = some (.slice np ns.length nc)) (hN : StrsAt S w (.slice np ns.length nc) ns) (hk : k < ns.length) :
    FnD 89 #[.pointer (some ⟨b8, 0, none⟩), .pointer (some ⟨bt, 0, none⟩)] #[.int .i64 (k : Int)] (.bool (decide (fdN names (gs ns k) < 0))) w := by
  intro m
  show Calls Tryz.prog 89 #[.int .i64 (k : Int), .pointer (some ⟨b8, 0, none⟩), .pointer (some ⟨bt, 0, none⟩)] (w.drewN m) _
  have hd := Up.drewN w m
  obtain ⟨nb, no, rfl, c4⟩ := strs_get hN hk
  have c1 := hd.cell h8
  have c2 := hd.cell ht
  have c4 := hd.cell c4
  have k1 : (0 : Int) ≤ (k : Int) := Int.natCast_nonneg _
  have k2 : (k : Int) < (ns.length : Int) := Int.ofNat_lt.2 hk
  have hlk : ∀ n, (Instr.lookup 110 (.map (some mb)) (.string (gs ns k)) false).run Tryz.prog ((w.drewN m).drewN n) = .ok (.bool (!decide (fdN names (gs ns k) < 0))) ((w.drewN m).drewN n) := fun n => by
    have hm2 : SMap ((w.drewN m).drewN n) mb (smK names names.length) := hm.same rfl
    have h := run_slook (P := Tryz.prog) Tryz.underlying110 Tryz.underlying9 (zero_bool _) hm2 (gs ns k)
    rw [smK_look, inNm_fd] at h
    exact h
  obtain ⟨W, hW⟩ : ∃ W, W = w.drewN m := ⟨_, rfl⟩
  have HW := Lib.hid hW
  rw [← hW] at c1 c2 c4 hlk ⊢
  clear hd h8 hm ht hN hk hW
  generalize gs ns k = s at *
  generalize decide (fdN names s < 0) = b at *
  go_enter Tryz.func89, Tryz.ntmps89
  go_wp2_with fail
  go_big_quiet (fail)
  go_wp2_with fail
  go_ret
  exact ⟨by cases b <;> rfl, m + nq, by rw [HW.out, World.drewN_drewN]⟩
end Go.Proofs.YtcbmbhghmfehpaaGreat
namespace Go.Proofs.YtcbmbhghmfehpaaGreat
open Go.RowKit Go.Deep
theorem bad1_t (w : World) (s : Int) : FnD 96 #[] #[.int .i64 s] (.bool (badS s)) w := by
  intro m
  show Calls Tryz.prog 96 #[.int .i64 s] (w.drewN m) _
  obtain ⟨W, hW⟩ : ∃ W, W = w.drewN m := ⟨_, rfl⟩
  have HW := Lib.hid hW
  have HB : Hid (badS s = (decide (s < -1) || decide (16 ≤ s))) := rfl
  rw [← hW]
  clear hW
  generalize badS s = r at *
  by_cases h1 : s < -1
  · have d1 : decide (s < -1) = true := decide_eq_true h1
    have HE : Hid (r = true) := by unfold Hid; rw [HB.out, d1]; rfl
    clear h1
    go_enter Tryz.func96, Tryz.ntmps96
    go_wp2_with fail
    go_ret
    exact ⟨ret_bool HE.out.symm, m, HW.out⟩
  · have d1 : decide (s < -1) = false := decide_eq_false h1
    have HE : Hid (r = decide (16 ≤ s)) := by unfold Hid; rw [HB.out, d1]; rfl
    clear h1
    go_enter Tryz.func96, Tryz.ntmps96
    go_wp2_with fail
    go_ret
    exact ⟨ret_bool HE.out.symm, m, HW.out⟩
theorem zero_intM (W : World) : (zeroValue 3).run Tryz.prog W = .ok (.int .i64 0) W := by simp [Tryz.zeroValue3]
theorem len_imap {W : World} {b : Nat} {l : List (Int × Value)} (h : IMap W b l) (ty : TypeId) : (Builtin.len_ #[120] ty #[.map (some b)]).run Tryz.prog W = .ok (goInt l.length) W := by
  obtain ⟨es, clock, hb, hl⟩ := h
  have h1 := run_len_map (P := Tryz.prog) W 120 ty b es clock (by simp [Program.mapKeyOf, Program.mapElemOf, Tryz.underlying120]) hb
  have h2 : es.size = l.length := by have := congrArg List.length hl; simpa using this
  rw [h1, h2]
def OsPost (w : World) (st : List Int) (e : Ending) (w' : World) : Prop :=
  Up w w' ∧ ∃ v, e = .returned (.tuple #[v, .bool (osV st), .int .i64 (osErr st)]) ∧ IntsAt Any w' v (osR st)
theorem os_nil {w w' : World} {st : List Int} (h : ¬(osErr st = 0 ∧ osB st = true)) (hu : Up w w') : OsPost w st (.returned (.tuple #[.slice none 0 0, .bool false, .int .i64 (osErr st)])) w' := by
  refine ⟨hu, .slice none 0 0, ?_, by unfold osR; rw [if_neg h]; exact ⟨none, 0, rfl, Nat.le_refl _, .inl rfl⟩⟩
  have : osV st = false := by
    unfold osV
    by_cases h0 : osErr st = 0
    · rw [decide_eq_true h0, Bool.true_and, Bool.eq_false_iff]; exact fun e => h ⟨h0, e⟩
    · rw [decide_eq_false h0]; rfl
  rw [this]
theorem osO_len' (st : List Int) (k : Nat) : (osO st k).length ≤ k := memK_len _ _
theorem osO_succ (st : List Int) (k : Nat) : osO st (k + 1) = osO st k ++ if gi st k != gi st 0 then [(k : Int)] else [] := by
  unfold osO; rw [memK_succ, Int.toNat_natCast]
set_option maxRecDepth 100000 in
set_option maxHeartbeats 4000000 in
theorem ofStates_t (S : Nat → Prop) (w : World) (v : Value) (st : List Int) (h : IntsAt S w v st) (hn : st.length ≤ 1000000) :
    Calls Tryz.prog 37 #[v] w (OsPost w st) := by
  obtain ⟨p, cap, rfl, hcap, _⟩ := SlAt.open h
  have h : IntsAt S w (.slice p st.length cap) st := h
  have HE : Hid (osErr st = if 32 < st.length then 4 else if (List.range st.length).any (fun j => badS (gi st j)) then 2 else 0) := rfl
  have HX := Lib.hid h
  have HCF := Lib.hid (ints_has_d 96 #[] (enters_of Tryz.func96 (by kernel_rfl) rfl) S w _ st.length (fun k => .int .i64 (gi st k)) (fun j => badS (gi st j)) h hn fun k _ => bad1_t w (gi st k))
  clear h
  have hosB : osB st = !(decide (0 < cntS st (-1) st.length) || decide ((ctK st st.length).length ≠ 2) || decide ((osO st st.length).length < 2) || decide ((st.length : Int) - 2 < ((osO st st.length).length : Int))) := rfl
  have HOB := Lib.hid hosB
  clear hosB
  by_cases h32 : 32 < st.length
  · have d1 : decide ((32 : Int) < (st.length : Int)) = true := decide_eq_true (by omega)
    have HZ : Hid (osErr st = 4) := by unfold Hid; rw [HE.out, if_pos h32]
    clear h32
    go_enter Tryz.func37, Tryz.ntmps37
    go_wp2_with fail
    exact ⟨rfl, .tuple #[.slice none 0 0, .bool false, .int .i64 4], by simp [results, Tryz.results37, go_sem], by have h := os_nil (w := w) (w' := w) (st := st) (by rw [HZ.out]; exact fun e => absurd e.1 (by decide)) (Up.refl _); rwa [HZ.out] at h⟩
  have d1 : decide ((32 : Int) < (st.length : Int)) = false := decide_eq_false (by omega)
  have n32 : st.length ≤ 32 := by omega
  have HE2 : Hid (osErr st = if (List.range st.length).any (fun j => badS (gi st j)) then 2 else 0) := by unfold Hid; rw [HE.out, if_neg h32]
  clear HE h32
  cases hb : (List.range st.length).any (fun j => badS (gi st j))
  · have HZ : Hid (osErr st = 0) := by unfold Hid; rw [HE2.out, hb]; rfl
    rw [hb] at HCF
    clear hb HE2
    have hmm := fun W => run_makeMap (P := Tryz.prog) 120 W
    go_enter Tryz.func37, Tryz.ntmps37
    go_wp2_with fail
    refine HCF.out.mono ?_
    rintro e w2 ⟨rfl, n2, rfl⟩
    have HU2 := Lib.hid (Up.drewN w n2)
    generalize w.drewN n2 = w2 at *
    go_wp2_with fail
    clear hmm
    have HLE := Lib.hid (cntS_le st)
    have HCL := Lib.hid (ctK_len st)
    have HOL := Lib.hid (fun k => memK_len (fun i => gi st i.toNat != gi st 0) k)
    go_loopw [6, 7, 8, 19] (fun o _ _ i wr => ∃ k : Nat, k ≤ st.length ∧ i = .int .i64 k ∧ Hid (Owns (w2.heap.size + 1) 3 wr o ((osO st k).map (Value.int .i64))) ∧ Hid (IMap wr w2.heap.size (ctK st k)) ∧ Hid (Up w2 wr)) (fun _ _ _ i _ => st.length - (intOf i).toNat)
    case atStart => exact ⟨0, Nat.zero_le _, rfl, Owns.nil _ _ _, IMap.made w2, Up.alloc _ _⟩
    case round =>
      obtain ⟨k, hk, rfl, hO, hM, hUr⟩ := hrel
      obtain ⟨wo, rfl⟩ : ∃ wo : World, wo = wr := ⟨_, rfl⟩
      by_cases hlt : k < st.length
      · obtain ⟨b, off, rfl, hcell⟩ := ints_get (IntsAt.keep HX.out ((HU2.out.trans hUr.out).kept _)) hlt
        have i1 : (0 : Int) ≤ (k : Int) := by omega
        have i2 : (k : Int) < (st.length : Int) := by omega
        have i3 : (k : Int) < 64 := by omega
        have i4 : (0 : Int) < (st.length : Int) := by omega
        have HMS : Hid (ctK st (k + 1) = putJ (ctK st k) (gi st k) (.int .i64 ((cntS st (gi st k) k : Nat) + 1 : Int))) := rfl
        have hlk := run_ilook (P := Tryz.prog) Tryz.underlying120 Tryz.underlying3 (zero_intM wo) hM.out (gi st k)
        rw [ctK_look] at hlk
        have hcl : cntS st (gi st k) k ≤ k := HLE.out _ _
        have HSU := Lib.hid (osO_succ st k)
        have hll : (osO st k).length ≤ k := HOL.out k
        have HLL : Hid (((osO st k).map (Value.int .i64)).length = (osO st k).length) := List.length_map _
        obtain ⟨w5, hrun, hm5, hs5, ho5, ht5, hou5, hb5⟩ := run_iset (P := Tryz.prog) Tryz.underlying120 Tryz.underlying3 hM.out (ctK_uniq st k) (gi st k) (.int .i64 ((cntS st (gi st k) k : Nat) + 1 : Int))
        have HM5 : Hid (IMap w5 w2.heap.size (ctK st (k + 1))) := by unfold Hid; rw [HMS.out]; exact hm5
        have HU5 : Hid (Up w2 w5) := ⟨ho5.trans hUr.out.os, ht5.trans hUr.out.tape, hou5.trans hUr.out.output, by rw [hs5]; exact hUr.out.size, fun b hb => (hb5 b (by omega)).trans (hUr.out.block b hb)⟩
        have HO5 := Lib.hid (Owns.kept hO.out fun b hb _ => hb5 b (by omega))
        have hmlt := hm5.lt
        have hsz5 : w2.heap.size + 1 ≤ w5.heap.size := by omega
        obtain ⟨b', off', e0, hcell0⟩ := ints_get (IntsAt.keep HX.out ((HU2.out.trans HU5.out).kept _)) (show 0 < st.length by omega)
        injection e0 with e0
        injection e0 with e1 e2
        subst e1; subst e2
        rw [Nat.add_zero] at hcell0
        have HLT := Lib.hid hlt
        clear hm5 hs5 ho5 ht5 hou5 hb5 hM hUr hO hmlt HMS
        generalize cntS st (gi st k) k = c at *
        generalize gi st k = x at *
        generalize gi st 0 = y at *
        have HL6 : Hid ((osO st k).length ≤ 1000000) := by unfold Hid; omega
        generalize (osO st k).length = ol at *
        by_cases hxy : x = y
        · have hxy1 : (x != y) = false := by simp [hxy]
          have HS : Hid (osO st (k + 1) = osO st k) := by unfold Hid; rw [HSU.out, hxy1]; simp
          clear hxy
          go_wp2_with fail
          go_roundw
          case rel => exact ⟨k + 1, HLT.out, by go_num, by unfold Hid; rw [HS.out]; exact HO5.out, HM5, HU5⟩
          case measure => have := HLT.out; simp [intOf]; omega
        · have hxy1 : (x != y) = true := by simpa using hxy
          have HS : Hid (osO st (k + 1) = osO st k ++ [(k : Int)]) := by unfold Hid; rw [HSU.out, hxy1]; rfl
          clear hxy
          go_wp2_with (at_builtin; refine wpList_appM w5 rfl _ _ 26 rfl (w2.heap.size + 1) 3 (.int .i64 0) 8 Tryz.underlying26 Tryz.infoI rfl (by decide) HO5.out rfl (.int .i64 k) _ rfl rfl rfl _ HLL.out HL6.out hsz5 ?_; intro g8 cap8 w8 hown1 hgr1 hbe1)
          go_roundw
          case rel => exact ⟨k + 1, HLT.out, by go_num, by unfold Hid; rw [HS.out, List.map_append]; exact hown1, HM5.out.same (hbe1.block _ (Nat.lt_succ_self _)), Below.trans HU5.out (Below.mono hbe1 (Nat.le_succ _))⟩
          case measure => have := HLT.out; simp [intOf]; omega
      · obtain rfl : k = st.length := by omega
        have hlk := run_ilook (P := Tryz.prog) Tryz.underlying120 Tryz.underlying3 (zero_intM wo) hM.out (-1)
        rw [ctK_look] at hlk
        have hlen := fun ty => len_imap hM.out ty
        have hcl : cntS st (-1) st.length ≤ st.length := HLE.out _ _
        have hkl : (ctK st st.length).length ≤ st.length := HCL.out _
        have hll : (osO st st.length).length ≤ st.length := HOL.out _
        obtain ⟨op, oc, hov, _⟩ := Owns.form (n := (osO st st.length).length) hO.out (List.length_map _)
        have HUo := Lib.hid (HU2.out.trans hUr.out)
        have HOO := Lib.hid (IntsAt.sub (Owns.ints hO.out) (T := Any) fun _ _ _ => trivial)
        clear hlt hk hM hUr hO HLE HCL HOL HCF
        subst hov
        have HR : Hid (osB st = true → osR st = osO st st.length) := fun h => by unfold osR; rw [if_pos ⟨HZ.out, h⟩]
        have HV : Hid (osV st = osB st) := by unfold Hid osV; rw [HZ.out]; rfl
        generalize cntS st (-1) st.length = c at *
        generalize (ctK st st.length).length = m at *
        generalize (osO st st.length).length = ol at *
        have T1 : ∀ z : Int, (c : Int) = z → ((0 < c) ↔ (0 < z)) := fun z e => by omega
        generalize hci : (c : Int) = ci at *
        have T1 := T1 ci rfl
        by_cases t1 : 0 < c
        · have e1 : decide ((0 : Int) < ci) = true := decide_eq_true (T1.1 t1)
          have HN : Hid (osB st = false) := by unfold Hid; rw [HOB.out, decide_eq_true t1]; rfl
          clear t1 T1 hci hcl
          go_wp2_with fail
          exact ⟨rfl, .tuple #[.slice none 0 0, .bool false, .int .i64 0], by simp [results, Tryz.results37, go_sem], by have h := os_nil (st := st) (by rw [HN.out]; exact fun e => absurd e.2 (by decide)) HUo.out; rwa [HZ.out] at h⟩
        have e1 : decide ((0 : Int) < ci) = false := decide_eq_false (fun e => t1 (T1.2 e))
        by_cases t2 : m = 2
        · have e2 : ((m : Int) != 2) = false := by simp; omega
          by_cases t3 : ol < 2
          · have e3 : decide ((ol : Int) < 2) = true := decide_eq_true (by omega)
            have HN : Hid (osB st = false) := by unfold Hid; rw [HOB.out, decide_eq_true t3]; simp
            clear t1 t2 t3 T1 hci hcl
            go_wp2_with fail
            exact ⟨rfl, .tuple #[.slice none 0 0, .bool false, .int .i64 0], by simp [results, Tryz.results37, go_sem], by have h := os_nil (st := st) (by rw [HN.out]; exact fun e => absurd e.2 (by decide)) HUo.out; rwa [HZ.out] at h⟩
          have e3 : decide ((ol : Int) < 2) = false := decide_eq_false (by omega)
          by_cases t4 : (st.length : Int) - 2 < (ol : Int)
          · have e4 : decide ((st.length : Int) - 2 < (ol : Int)) = true := decide_eq_true t4
            have HN : Hid (osB st = false) := by unfold Hid; rw [HOB.out, e4]; simp
            clear t1 t2 t3 t4 T1 hci hcl
            go_wp2_with fail
            exact ⟨rfl, .tuple #[.slice none 0 0, .bool false, .int .i64 0], by simp [results, Tryz.results37, go_sem], by have h := os_nil (st := st) (by rw [HN.out]; exact fun e => absurd e.2 (by decide)) HUo.out; rwa [HZ.out] at h⟩
          · have e4 : decide ((st.length : Int) - 2 < (ol : Int)) = false := decide_eq_false t4
            have HN : Hid (osB st = true) := by unfold Hid; rw [HOB.out, e4, decide_eq_false t1, decide_eq_false t3, decide_eq_false (fun h => h t2)]; rfl
            clear t1 t2 t3 t4 T1 hci hcl
            go_wp2_with fail
            exact ⟨rfl, .tuple #[.slice op ol oc, .bool true, .int .i64 0], by simp [results, Tryz.results37, go_sem], HUo.out, _, by rw [HV.out, HN.out, HZ.out], by rw [HR.out HN.out]; exact HOO.out⟩
        · have e2 : ((m : Int) != 2) = true := by simp; omega
          have HN : Hid (osB st = false) := by unfold Hid; rw [HOB.out, decide_eq_true (show m ≠ 2 from t2)]; simp
          clear t1 t2 T1 hci hcl
          go_wp2_with fail
          exact ⟨rfl, .tuple #[.slice none 0 0, .bool false, .int .i64 0], by simp [results, Tryz.results37, go_sem], by have h := os_nil (st := st) (by rw [HN.out]; exact fun e => absurd e.2 (by decide)) HUo.out; rwa [HZ.out] at h⟩
  · have HZ : Hid (osErr st = 2) := by unfold Hid; rw [HE2.out, hb]; rfl
    rw [hb] at HCF
    clear hb HE2
    go_enter Tryz.func37, Tryz.ntmps37
    go_wp2_with fail
    refine HCF.out.mono ?_
    rintro e w2 ⟨rfl, n2, rfl⟩
    go_wp2_with fail
    exact ⟨rfl, .tuple #[.slice none 0 0, .bool false, .int .i64 2], by simp [results, Tryz.results37, go_sem], by have h := os_nil (st := st) (by rw [HZ.out]; exact fun e => absurd e.1 (by decide)) (Up.drewN w n2); rwa [HZ.out] at h⟩
end Go.Proofs.YtcbmbhghmfehpaaGreat
