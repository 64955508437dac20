/- Contracts of the references: Check of layer 30; right, check, Support, Original, Significant of layer 35. Contracts of the references of layer 35: Support, Original, Significant. -/
import Derived.Test.YtkfndaebmbnmaaaQ20
import Derived.Test.YtkfndaebmbnmaaaQ5
namespace Go.Proofs.Ytkfndaebmbnmaaa
open Go.RowKit Go.Deep
set_option maxRecDepth 100000 in
set_option maxHeartbeats 4000000 in
theorem check30R_t (S : Nat → Prop) (w : World) (v : Value) (xs : List (List Int)) (h : RowsAt S w v xs) (hn : xs.length ≤ 1000000) (hr : ∀ k, (gl xs k).length ≤ 1000000) :
    Calls Try.prog 56 #[v] w fun e w' => e = .returned (.int .i64 (agErr xs)) ∧ QD w w' := by
  obtain ⟨p, cap, rfl, hcap, _⟩ := rows_open h
  have H := Lib.hid h
  have HR := Lib.hid hr
  have HF : Hid (agErr xs = if xs.length = 0 then 5 else if 32 < xs.length ∨ 4096 < (gl xs 0).length then 4 else firstNZ (agRow xs) xs.length) := rfl
  clear h hr
  by_cases h0 : xs.length = 0
  · have HX : Hid (agErr xs = 5) := by unfold Hid; rw [HF.out, if_pos h0]
    have d0 : ((xs.length : Int) == 0) = true := by simp [h0]
    clear h0
    go_enter Try.func56, Try.ntmps56
    go_wp2_with fail
    go_ret
    exact ⟨ret_int HX.out.symm, QD.refl _⟩
  have d0 : ((xs.length : Int) == 0) = false := by simpa using h0
  have h0p : 0 < xs.length := by omega
  by_cases h1 : 32 < xs.length
  · have HX : Hid (agErr xs = 4) := by unfold Hid; rw [HF.out, if_neg h0, if_pos (.inl h1)]
    have d1 : decide ((32 : Int) < (xs.length : Int)) = true := by simp; omega
    clear h0 h1
    go_enter Try.func56, Try.ntmps56
    go_wp2_with fail
    go_ret
    exact ⟨ret_int HX.out.symm, QD.refl _⟩
  have d1 : decide ((32 : Int) < (xs.length : Int)) = false := by simp; omega
  obtain ⟨b, off, q0, c0, rfl, hc0, _⟩ := rows_get H.out h0p
  have hc00 : w.cell? ⟨b, off, none⟩ = some (.slice q0 (gl xs 0).length c0) := by simpa using hc0
  have hlen0 := HR.out 0
  clear hc0
  by_cases h2 : 4096 < (gl xs 0).length
  · have HX : Hid (agErr xs = 4) := by unfold Hid; rw [HF.out, if_neg h0, if_pos (.inr h2)]
    have d2 : decide ((4096 : Int) < ((gl xs 0).length : Int)) = true := by simp; omega
    clear h0 h1 h2
    go_enter Try.func56, Try.ntmps56
    go_wp2_with fail
    go_ret
    exact ⟨ret_int HX.out.symm, QD.refl _⟩
  have d2 : decide ((4096 : Int) < ((gl xs 0).length : Int)) = false := by simp; omega
  have HFF : Hid (agErr xs = firstNZ (agRow xs) xs.length) := by unfold Hid; rw [HF.out, if_neg h0, if_neg (by omega)]
  have HAR : Hid (∀ k, agRow xs k = if (gl xs k).length ≠ (gl xs 0).length then 9 else if stBad (gl xs k) (-1) 16 then 2 else 0) := fun _ => rfl
  have HC0 := Lib.hid hc00
  clear HF h0 h1 h2
  generalize hl0 : (gl xs 0).length = l0 at *
  clear hl0
  go_enter Try.func56, Try.ntmps56
  go_wp2_with fail
  go_loopw [3, 4] (fun i _ wr => ∃ k : Nat, k ≤ xs.length ∧ i = .int .i64 k ∧ Hid (QD w wr) ∧ Hid (∀ j, j < k → agRow xs j = 0)) (fun i _ _ => xs.length - (intOf i).toNat)
  case atStart => exact ⟨0, Nat.zero_le _, rfl, QD.refl _, fun j hj => absurd hj (Nat.not_lt_zero _)⟩
  case round =>
    obtain ⟨k, hk, rfl, hQ, hd⟩ := hrel
    obtain ⟨wo, rfl⟩ : ∃ wo : World, wo = wr := ⟨_, rfl⟩
    have hc00 := hQ.out.up.cell HC0.out
    by_cases hlt : k < xs.length
    · obtain ⟨b', off', qk, ck, e1, hck, hik⟩ := rows_get (H.out.keep (hQ.out.kept S)) hlt
      injection e1 with e1
      injection e1 with e1 e2
      subst e1; subst e2
      have i1 : (0 : Int) ≤ (k : Int) := by omega
      have i2 : (k : Int) < (xs.length : Int) := by omega
      have HK := Lib.hid (HAR.out k)
      have HIK := Lib.hid hik
      have HCK := Lib.hid hck
      have hrk := HR.out k
      clear hik
      by_cases hll : (gl xs k).length = l0
      · have hl1 : (((gl xs k).length : Int) != (l0 : Int)) = false := by simp [hll]
        rw [if_neg (fun e => e hll)] at HK
        clear hll
        go_wp2_with fail
        go_quiet (fail)
        go_wp2_with fail
        go_loopw [4] (fun i wr => ∃ m : Nat, m ≤ (gl xs k).length ∧ i = .int .i64 m ∧ Hid (QD w wr ∧ QD wo wr) ∧ Hid (∀ j, j < m → (decide (gi (gl xs k) j < -1) || decide (16 ≤ gi (gl xs k) j)) = false)) (fun i _ => (gl xs k).length - (intOf i).toNat)
        case atStart => exact ⟨0, Nat.zero_le _, rfl, ⟨hQ.out.drewN nq, ⟨nq, rfl⟩⟩, fun j hj => absurd hj (Nat.not_lt_zero _)⟩
        case round =>
          obtain ⟨m, hm, rfl, hQ2, hd2⟩ := hrel
          obtain ⟨wi, rfl⟩ : ∃ wi : World, wi = wr := ⟨_, rfl⟩
          have hck := hQ2.out.2.up.cell HCK.out
          by_cases hmt : m < (gl xs k).length
          · obtain ⟨mb, mo, rfl, hmc⟩ := ints_get (IntsAt.keep HIK.out (hQ2.out.2.kept S)) hmt
            have j1 : (0 : Int) ≤ (m : Int) := by omega
            have j2 : (m : Int) < ((gl xs k).length : Int) := by omega
            generalize hgy : gi (gl xs k) m = y at *
            have HGY := Lib.hid hgy
            clear hgy
            by_cases c1 : y < -1
            · have e1 : decide (y < -1) = true := by simpa using c1
              have HX : Hid (agErr xs = 2) := by
                unfold Hid
                have hst : stBad (gl xs k) (-1) 16 = true := any_at (p := fun j => decide (gi (gl xs k) j < -1) || decide (16 ≤ gi (gl xs k) j)) hmt (by rw [HGY.out, e1]; rfl)
                have hrow : agRow xs k = 2 := by rw [HK.out, if_pos hst]
                rw [HFF.out, firstNZ_at hlt hd.out (by rw [hrow]; decide), hrow]
              clear c1
              go_wp2_with fail
              go_ret
              exact ⟨ret_int HX.out.symm, hQ2.out.1⟩
            · have e1 : decide (y < -1) = false := by simpa using c1
              by_cases c2 : 16 ≤ y
              · have e2 : decide (16 ≤ y) = true := by simpa using c2
                have HX : Hid (agErr xs = 2) := by
                  unfold Hid
                  have hst : stBad (gl xs k) (-1) 16 = true := any_at (p := fun j => decide (gi (gl xs k) j < -1) || decide (16 ≤ gi (gl xs k) j)) hmt (by rw [HGY.out, e2, Bool.or_true])
                  have hrow : agRow xs k = 2 := by rw [HK.out, if_pos hst]
                  rw [HFF.out, firstNZ_at hlt hd.out (by rw [hrow]; decide), hrow]
                clear c1 c2
                go_wp2_with fail
                go_ret
                exact ⟨ret_int HX.out.symm, hQ2.out.1⟩
              · have e2 : decide (16 ≤ y) = false := by simpa using c2
                have HY : Hid ((decide (gi (gl xs k) m < -1) || decide (16 ≤ gi (gl xs k) m)) = false) := by unfold Hid; rw [HGY.out, e1, e2]; rfl
                clear c1 c2
                go_wp2_with fail
                go_roundw
                case rel => exact ⟨m + 1, by omega, by go_num, ⟨hQ2.out.1, hQ2.out.2⟩, fun j hj => if e : j = m then by subst e; exact HY.out else hd2.out j (by omega)⟩
                case measure => simp [intOf]; omega
          · obtain rfl : m = (gl xs k).length := by omega
            have HRW : Hid (agRow xs k = 0) := by
              unfold Hid
              have hst : stBad (gl xs k) (-1) 16 = false := any_none hd2.out
              rw [HK.out, if_neg (by rw [hst]; decide)]
            have HQ2 := Lib.hid hQ2.out.1
            clear hmt hm hd2 hQ2
            go_wp2_with fail
            go_roundw
            case rel => exact ⟨k + 1, by omega, by go_num, HQ2.out, fun j hj => if e : j = k then by subst e; exact HRW.out else hd.out j (by omega)⟩
            case measure => simp [intOf]; omega
      · have hl1 : (((gl xs k).length : Int) != (l0 : Int)) = true := by simp; omega
        have HX : Hid (agErr xs = 9) := by
          unfold Hid
          have hrow : agRow xs k = 9 := by rw [HK.out, if_pos hll]
          rw [HFF.out, firstNZ_at hlt hd.out (by rw [hrow]; decide), hrow]
        clear hll
        go_wp2_with fail
        go_quiet (fail)
        go_wp2_with fail
        go_ret
        exact ⟨ret_int HX.out.symm, hQ.out.drewN nq⟩
    · obtain rfl : k = xs.length := by omega
      have HX : Hid (agErr xs = 0) := by unfold Hid; rw [HFF.out, firstNZ_zero hd.out]
      clear hlt hk
      go_wp2_with fail
      go_ret
      exact ⟨ret_int HX.out.symm, hQ.out⟩
set_option maxRecDepth 100000 in
set_option maxHeartbeats 2000000 in
theorem rightR_t (S : Nat → Prop) (w : World) (v : Value) (l : List Int) (h : IntsAt S w v l) (hn : l.length ≤ 1000000) :
    Calls Try.prog 58 #[v] w fun e w' => e = .returned (.bool (srcOk l)) ∧ QD w w' := by
  have HI0 := h
  obtain ⟨p, cap, rfl, hcap, H⟩ := SlAt.open h
  have HI := Lib.hid HI0
  clear h HI0 H
  have HS : Hid (srcOk l = (!((List.range l.length).any (srcBad l)) && decide (0 < l.length))) := rfl
  have HB : Hid (∀ k, srcBad l k = (decide (gi l k < 0) || decide (32 ≤ gi l k) || (decide (0 < k) && decide (gi l k ≤ gi l (k - 1))))) := fun _ => rfl
  go_enter Try.func58, Try.ntmps58
  go_wp2_with fail
  go_loopw [3] (fun i wr => ∃ k : Nat, k ≤ l.length ∧ i = .int .i64 k ∧ Hid (QD w wr) ∧ Hid (∀ j, j < k → srcBad l j = false)) (fun i _ => l.length - (intOf i).toNat)
  case atStart => exact ⟨0, Nat.zero_le _, rfl, QD.refl _, fun j hj => absurd hj (Nat.not_lt_zero _)⟩
  case round =>
    obtain ⟨k, hk, rfl, hQ, hd⟩ := hrel
    obtain ⟨wo, rfl⟩ : ∃ wo : World, wo = wr := ⟨_, rfl⟩
    by_cases hlt : k < l.length
    · obtain ⟨b, off, rfl, hc⟩ := ints_get (IntsAt.keep HI.out (hQ.out.kept S)) hlt
      have HBK := Lib.hid (HB.out k)
      have i1 : (0 : Int) ≤ (k : Int) := by omega
      have i2 : (k : Int) < (l.length : Int) := by omega
      have HXK : Hid (srcBad l k = true → srcOk l = false) := fun hx => by
        rw [HS.out, any_at hlt hx]; rfl
      generalize hy : gi l k = y at *
      clear hy
      by_cases h0 : y < 0
      · have HR : Hid (srcOk l = false) := HXK.out (by rw [HBK.out]; simp [h0])
        have e0 : decide (y < 0) = true := by simpa using h0
        clear h0
        go_wp2_with fail
        go_big_quiet (fail)
        go_wp2_with fail
        go_ret
        exact ⟨ret_bool HR.out.symm, hQ.out.drewN nq⟩
      · have e0 : decide (y < 0) = false := by simpa using h0
        by_cases h1 : 32 ≤ y
        · have HR : Hid (srcOk l = false) := HXK.out (by rw [HBK.out]; simp [h1])
          have e1 : decide (32 ≤ y) = true := by simpa using h1
          clear h0 h1
          go_wp2_with fail
          go_big_quiet (fail)
          go_wp2_with fail
          go_ret
          exact ⟨ret_bool HR.out.symm, hQ.out.drewN nq⟩
        · have e1 : decide (32 ≤ y) = false := by simpa using h1
          clear h0 h1
          cases k with
          | zero =>
            have HR : Hid (srcBad l 0 = false) := by unfold Hid; rw [HBK.out]; simp [e0, e1]
            rw [Nat.add_zero] at hc
            go_wp2_with fail
            go_big_quiet (fail)
            go_wp2_with fail
            go_roundw
            case rel => exact ⟨1, by omega, by go_num, hQ.out.drewN nq, fun j hj => (by rw [show j = 0 from by omega]; exact HR.out)⟩
            case measure => simp [intOf]; omega
          | succ j =>
            have hcj := ints_get' (IntsAt.keep HI.out (hQ.out.kept S)) (k := j) (by omega)
            have HR : Hid (srcBad l (j + 1) = decide (y ≤ gi l j)) := by unfold Hid; rw [HBK.out, e0, e1]; simp
            have k2 : decide ((0 : Int) < ((j + 1 : Nat) : Int)) = true := by simp
            have k2n : decide (0 < j + 1) = true := by simp
            have k3 : ((j + 1 : Nat) : Int) - 1 = (j : Int) := by omega
            have k4 : (0 : Int) ≤ (j : Int) := by omega
            have k5 : (j : Int) < (l.length : Int) := by omega
            generalize gi l j = z at *
            by_cases h2 : y ≤ z
            · have e2 : decide (y ≤ z) = true := by simpa using h2
              have HR2 : Hid (srcOk l = false) := HXK.out (by rw [HR.out, e2])
              clear h2
              go_wp2_with fail
              go_big_quiet (fail)
              go_wp2_with fail
              go_ret
              exact ⟨ret_bool HR2.out.symm, hQ.out.drewN nq⟩
            · have e2 : decide (y ≤ z) = false := by simpa using h2
              have HR2 : Hid (srcBad l (j + 1) = false) := by unfold Hid; rw [HR.out, e2]
              clear h2
              go_wp2_with fail
              go_big_quiet (fail)
              go_wp2_with fail
              go_roundw
              case rel => exact ⟨j + 2, by omega, by go_num, hQ.out.drewN nq, fun i hi => if e : i = j + 1 then by subst e; exact HR2.out else hd.out i (by omega)⟩
              case measure => simp [intOf]; omega
    · obtain rfl : k = l.length := by omega
      have HR : Hid (srcOk l = decide (0 < l.length)) := by unfold Hid; rw [HS.out, any_none hd.out]; rfl
      go_wp2_with fail
      go_ret
      exact ⟨ret_bool (by rw [HR.out]), hQ.out⟩
set_option maxRecDepth 100000 in
set_option maxHeartbeats 2000000 in
theorem gcheckR_t (S : Nat → Prop) (w : World) (v : Value) (l : List Grp) (h : GrpsAt S w v l) (hn : l.length ≤ 1000000) (hr : ∀ k, (gg l k).src.length ≤ 1000000) :
    Calls Try.prog 57 #[v] w fun e w' => e = .returned (.int .i64 (gcErr l)) ∧ QD w w' := by
  obtain ⟨p, cap, rfl, hcap⟩ := grps_open h
  have HX := Lib.hid h
  have HR := Lib.hid hr
  have HG : Hid (gcErr l = if 256 < l.length then 4 else if (List.range l.length).any fun k => gBad (gg l k) then 1 else 0) := rfl
  clear h hr
  by_cases h1 : 256 < l.length
  · have HQ : Hid (gcErr l = 4) := by unfold Hid; rw [HG.out, if_pos h1]
    have d1 : decide ((256 : Int) < (l.length : Int)) = true := by simp; omega
    clear h1
    go_enter Try.func57, Try.ntmps57
    go_wp2_with fail
    go_ret
    exact ⟨ret_int HQ.out.symm, QD.refl _⟩
  have d1 : decide ((256 : Int) < (l.length : Int)) = false := by simp; omega
  have HQ1 : Hid (∀ k, k < l.length → gBad (gg l k) = true → gcErr l = 1) := fun k hk hb => by rw [HG.out, if_neg h1, if_pos (any_at (p := fun k => gBad (gg l k)) hk hb)]
  have HQ0 : Hid ((∀ k, k < l.length → gBad (gg l k) = false) → gcErr l = 0) := fun hb => by rw [HG.out, if_neg h1, if_neg (by rw [any_none hb]; decide)]
  clear h1 HG
  go_enter Try.func57, Try.ntmps57
  go_wp2_with fail
  go_loopw [3] (fun i wr => ∃ k : Nat, k ≤ l.length ∧ i = .int .i64 k ∧ Hid (QD w wr) ∧ Hid (∀ j, j < k → gBad (gg l j) = false)) (fun i _ => l.length - (intOf i).toNat)
  case atStart => exact ⟨0, Nat.zero_le _, rfl, QD.refl _, fun j hj => absurd hj (Nat.not_lt_zero _)⟩
  case round =>
    obtain ⟨k, hk, rfl, hU, hd⟩ := hrel
    obtain ⟨wo, rfl⟩ : ∃ wo : World, wo = wr := ⟨_, rfl⟩
    by_cases hlt : k < l.length
    · obtain ⟨b, off, rq, rc, rfl, hc0, hc1, hc2, hri⟩ := grps_get (HX.out.keep (hU.out.kept S)) hlt
      have i1 : (0 : Int) ≤ (k : Int) := by omega
      have i2 : (k : Int) < (l.length : Int) := by omega
      have HK1 := Lib.hid (HQ1.out k hlt)
      have HGB : Hid (gBad (gg l k) = (decide ((gg l k).un < 0) || decide ((gg l k).st < 0) || decide (16 ≤ (gg l k).st) || !srcOk (gg l k).src)) := rfl
      have HSC := Lib.hid (rightR_t S _ _ _ hri (HR.out k))
      clear hri
      generalize (gg l k).un = un at *
      generalize (gg l k).st = sx at *
      generalize (gg l k).src = src at *
      by_cases c0 : un < 0
      · have e0 : decide (un < 0) = true := by simpa using c0
        have HQ : Hid (gcErr l = 1) := HK1.out (by rw [HGB.out, e0]; rfl)
        go_wp2_with fail
        go_ret
        exact ⟨ret_int HQ.out.symm, hU.out⟩
      · have e0 : decide (un < 0) = false := by simpa using c0
        by_cases c1 : sx < 0
        · have e1 : decide (sx < 0) = true := by simpa using c1
          have HQ : Hid (gcErr l = 1) := HK1.out (by rw [HGB.out, e0, e1]; rfl)
          go_wp2_with fail
          go_ret
          exact ⟨ret_int HQ.out.symm, hU.out⟩
        · have e1 : decide (sx < 0) = false := by simpa using c1
          by_cases c2 : 16 ≤ sx
          · have e2 : decide (16 ≤ sx) = true := by simpa using c2
            have HQ : Hid (gcErr l = 1) := HK1.out (by rw [HGB.out, e0, e1, e2]; rfl)
            go_wp2_with fail
            go_ret
            exact ⟨ret_int HQ.out.symm, hU.out⟩
          · have e2 : decide (16 ≤ sx) = false := by simpa using c2
            rw [e0, e1, e2] at HGB
            generalize srcOk src = so at *
            cases so
            · have HQ : Hid (gcErr l = 1) := HK1.out (by rw [HGB.out]; rfl)
              go_wp2_with (refine HSC.out.mono ?_; rintro e w' ⟨rfl, n, rfl⟩)
              go_ret
              exact ⟨ret_int HQ.out.symm, hU.out.drewN n⟩
            · have HQ : Hid (gBad (gg l k) = false) := by unfold Hid; rw [HGB.out]; rfl
              go_wp2_with (refine HSC.out.mono ?_; rintro e w' ⟨rfl, n, rfl⟩)
              go_roundw
              case rel => exact ⟨k + 1, by omega, by go_num, hU.out.drewN n, fun j hj => if e : j = k then by subst e; exact HQ.out else hd.out j (by omega)⟩
              case measure => simp [intOf]; omega
    · obtain rfl : k = l.length := by omega
      have HQ : Hid (gcErr l = 0) := HQ0.out hd.out
      clear hlt hk
      go_wp2_with fail
      go_ret
      exact ⟨ret_int HQ.out.symm, hU.out⟩
end Go.Proofs.Ytkfndaebmbnmaaa
namespace Go.Proofs.Ytkfndaebmbnmaaa
open Go.RowKit Go.Deep
set_option maxRecDepth 100000 in
set_option maxHeartbeats 2000000 in
theorem supportR_t (S T : Nat → Prop) (w : World) (v vo : Value) (l : List Grp) (own : List Int) (h : GrpsAt S w v l) (ho : IntsAt T w vo own) (hn : l.length ≤ 1000000) (hr : ∀ k, (gg l k).src.length ≤ 1000000) (hon : own.length ≤ 1000000) :
    Calls Try.prog 30 #[v, vo] w fun e w' => Up w w' ∧ e = .returned (.tuple #[.int .i64 (supN l own), .int .i64 (supErr l own)]) := by
  have HGC := Lib.hid (gcheckR_t S w v l h hn hr)
  obtain ⟨p, cap, rfl, hcap⟩ := grps_open h
  obtain ⟨po, co, rfl, hco, _⟩ := SlAt.open ho
  have ho : IntsAt T w (.slice po own.length co) own := ho
  have HX := Lib.hid h
  have HO := Lib.hid ho
  have HR := Lib.hid hr
  have HE : Hid (supErr l own = if gcErr l ≠ 0 then gcErr l else if srcOk own = false then 1 else 0) := rfl
  have HN : Hid (supN l own = if supErr l own = 0 then (supK l own l.length : Int) else 0) := rfl
  have HSS : Hid (∀ W, QD w W → Calls Try.prog 58 #[.slice po own.length co] W fun e w' => e = .returned (.bool (srcOk own)) ∧ QD W w') := fun W hu => rightR_t T W _ own (IntsAt.keep HO.out (hu.kept T)) hon
  clear h ho hr
  by_cases g0 : gcErr l = 0
  · rw [g0] at HGC
    cases hs : srcOk own
    · have HE1 : Hid (supErr l own = 1) := by unfold Hid; rw [HE.out, if_neg (fun e => e g0), if_pos hs]
      have HN1 : Hid (supN l own = 0) := by unfold Hid; rw [HN.out, HE1.out]; rfl
      rw [hs] at HSS
      clear g0 hs
      go_enter Try.func30, Try.ntmps30
      go_wp2_with fail
      refine HGC.out.mono ?_
      rintro e w1 ⟨rfl, hq1⟩
      have HS1 := Lib.hid (HSS.out w1 hq1)
      have HQ1 := Lib.hid hq1
      clear hq1
      go_wp2_with fail
      refine HS1.out.mono ?_
      rintro e w' ⟨rfl, n, rfl⟩
      go_wp2_with fail
      go_ret2
      exact ⟨(HQ1.out.drewN n).up, by rw [HE1.out, HN1.out]; rfl⟩
    · have HE1 : Hid (supErr l own = 0) := by unfold Hid; rw [HE.out, if_neg (fun e => e g0), if_neg (by rw [hs]; decide)]
      have HN1 : Hid (supN l own = (supK l own l.length : Int)) := by unfold Hid; rw [HN.out, if_pos HE1.out]
      rw [hs] at HSS
      clear g0 hs
      go_enter Try.func30, Try.ntmps30
      go_wp2_with fail
      refine HGC.out.mono ?_
      rintro e w1 ⟨rfl, hq1⟩
      have HS1 := Lib.hid (HSS.out w1 hq1)
      have HQ1 := Lib.hid hq1
      clear hq1
      go_wp2_with fail
      refine HS1.out.mono ?_
      rintro e w' ⟨rfl, n, rfl⟩
      have HQ2 := Lib.hid (HQ1.out.drewN n)
      clear HS1 HQ1
      generalize w1.drewN n = w2 at *
      go_wp2_with fail
      go_loopw [7, 8] (fun n i wr => ∃ k : Nat, k ≤ l.length ∧ i = .int .i64 k ∧ n = .int .i64 (supK l own k) ∧ Hid (QD w wr)) (fun _ i _ => l.length - (intOf i).toNat)
      case atStart => exact ⟨0, Nat.zero_le _, rfl, rfl, HQ2.out⟩
      case round =>
        obtain ⟨k, hk, rfl, rfl, hU⟩ := hrel
        obtain ⟨wo, rfl⟩ : ∃ wo : World, wo = wr := ⟨_, rfl⟩
        by_cases hlt : k < l.length
        · obtain ⟨b, off, rq, rc, rfl, hc0, hc1, hc2, hri⟩ := grps_get (HX.out.keep (hU.out.kept S)) hlt
          have i1 : (0 : Int) ≤ (k : Int) := by omega
          have i2 : (k : Int) < (l.length : Int) := by omega
          have HEQ := Lib.hid (sameInts_t S T wo _ _ (gg l k).src own hri (IntsAt.keep HO.out (hU.out.kept T)) (HR.out k) hon)
          have HST : Hid (supK l own (k + 1) = supK l own k + if (gg l k).src = own then 1 else 0) := rfl
          have HUA := Lib.hid hU.out
          have hle := supK_le l own k
          clear hri
          generalize (gg l k).src = src at *
          by_cases e : src = own
          · rw [decide_eq_true e] at HEQ
            rw [if_pos e] at HST
            clear e
            go_wp2_with fail
            refine HEQ.out.mono ?_
            rintro e w8 ⟨rfl, n8, rfl⟩
            go_wp2_with fail
            go_roundw
            case rel => exact ⟨k + 1, by omega, by go_num, by rw [HST.out]; go_num, HUA.out.drewN _⟩
            case measure => simp [intOf]; omega
          · rw [decide_eq_false e] at HEQ
            rw [if_neg e] at HST
            clear e
            go_wp2_with fail
            refine HEQ.out.mono ?_
            rintro e w8 ⟨rfl, n8, rfl⟩
            go_wp2_with fail
            go_roundw
            case rel => exact ⟨k + 1, by omega, by go_num, by rw [HST.out, Nat.add_zero], HUA.out.drewN _⟩
            case measure => simp [intOf]; omega
        · obtain rfl : k = l.length := by omega
          clear hlt hk
          go_wp2_with fail
          go_ret2
          exact ⟨hU.out.up, by rw [HE1.out, HN1.out]; rfl⟩
  · have HE1 : Hid (supErr l own = gcErr l) := by unfold Hid; rw [HE.out, if_pos g0]
    have HN1 : Hid (supN l own = 0) := by unfold Hid; rw [HN.out, if_neg (by rw [HE1.out]; exact g0)]
    have g1 : (gcErr l != 0) = true := by simpa using g0
    clear g0
    go_enter Try.func30, Try.ntmps30
    go_wp2_with fail
    refine HGC.out.mono ?_
    rintro e w1 ⟨rfl, hu1⟩
    go_wp2_with fail
    go_ret2
    exact ⟨hu1.up, by rw [HE1.out, HN1.out]; rfl⟩
set_option maxRecDepth 100000 in
set_option maxHeartbeats 1000000 in
theorem originalR_t (S : Nat → Prop) (w : World) (v : Value) (xs : List (List Int)) (s : Int) (h : RowsAt S w v xs) (hn : xs.length ≤ 1000000) (hr : ∀ k, (gl xs k).length ≤ 1000000) :
    Calls Try.prog 31 #[v, .int .i64 s] w (OrPost w xs s) := by
  have HAC := Lib.hid (check30R_t S w v xs h hn hr)
  obtain ⟨p, cap, rfl, hcap, _⟩ := rows_open h
  have HE : Hid (orErr xs s = if agErr xs ≠ 0 then agErr xs else if s < 0 ∨ (xs.length : Int) ≤ s then 2 else 0) := rfl
  have HN : Hid (orN xs s = if orErr xs s = 0 then gl xs s.toNat else []) := rfl
  by_cases a0 : agErr xs = 0
  · rw [a0] at HAC
    by_cases h1 : s < 0
    · have d1 : decide (s < 0) = true := by simpa using h1
      have HE1 : Hid (orErr xs s = 2) := by unfold Hid; rw [HE.out, if_neg (fun e => e a0), if_pos (.inl h1)]
      have HN1 : Hid (orN xs s = []) := by unfold Hid; rw [HN.out, if_neg (by rw [HE1.out]; decide)]
      clear h1 a0 h
      go_enter Try.func31, Try.ntmps31
      go_wp2_with fail
      refine HAC.out.mono ?_
      rintro e w1 ⟨rfl, hq⟩
      go_wp2_with fail
      go_ret2
      exact ⟨hq.up, _, by rw [HE1.out]; rfl, by rw [HN1.out]; exact nil_ints_at _ _⟩
    · have d1 : decide (s < 0) = false := by simpa using h1
      by_cases h2 : (xs.length : Int) ≤ s
      · have d2 : decide ((xs.length : Int) ≤ s) = true := by simpa using h2
        have HE1 : Hid (orErr xs s = 2) := by unfold Hid; rw [HE.out, if_neg (fun e => e a0), if_pos (.inr h2)]
        have HN1 : Hid (orN xs s = []) := by unfold Hid; rw [HN.out, if_neg (by rw [HE1.out]; decide)]
        clear h1 h2 a0 h
        go_enter Try.func31, Try.ntmps31
        go_wp2_with fail
        refine HAC.out.mono ?_
        rintro e w1 ⟨rfl, hq⟩
        go_wp2_with fail
        go_ret2
        exact ⟨hq.up, _, by rw [HE1.out]; rfl, by rw [HN1.out]; exact nil_ints_at _ _⟩
      · have d2 : decide ((xs.length : Int) ≤ s) = false := by simpa using h2
        have HE1 : Hid (orErr xs s = 0) := by unfold Hid; rw [HE.out, if_neg (fun e => e a0), if_neg (by omega)]
        have HN1 : Hid (orN xs s = gl xs s.toNat) := by unfold Hid; rw [HN.out, if_pos HE1.out]
        obtain ⟨k, rfl⟩ := Int.eq_ofNat_of_zero_le (by omega : 0 ≤ s)
        rw [Int.toNat_natCast] at HN1
        have hk : k < xs.length := by omega
        have j1 : (0 : Int) ≤ (k : Int) := by omega
        have j2 : (k : Int) < (xs.length : Int) := by omega
        have HX := Lib.hid h
        obtain ⟨b, off, q, c, rfl, hc, hi⟩ := rows_get h hk
        have HI := Lib.hid hi
        have HC := Lib.hid hc
        clear h1 h2 a0 h hr hi
        go_enter Try.func31, Try.ntmps31
        go_wp2_with fail
        refine HAC.out.mono ?_
        rintro e w1 ⟨rfl, hq⟩
        have hc1 := hq.up.cell HC.out
        have HQ := Lib.hid hq
        clear hq
        go_wp2_with fail
        go_ret2
        exact ⟨HQ.out.up, _, by rw [HE1.out]; rfl, by rw [HN1.out]; exact (IntsAt.keep HI.out (HQ.out.kept S)).sub fun _ _ _ => trivial⟩
  · have HE1 : Hid (orErr xs s = agErr xs) := by unfold Hid; rw [HE.out, if_pos a0]
    have HN1 : Hid (orN xs s = []) := by unfold Hid; rw [HN.out, if_neg (by rw [HE1.out]; exact a0)]
    have g1 : (agErr xs != 0) = true := by simpa using a0
    clear a0 h
    go_enter Try.func31, Try.ntmps31
    go_wp2_with fail
    refine HAC.out.mono ?_
    rintro e w1 ⟨rfl, hq⟩
    go_wp2_with fail
    go_ret2
    exact ⟨hq.up, _, by rw [HE1.out]; rfl, by rw [HN1.out]; exact nil_ints_at _ _⟩
set_option maxRecDepth 100000 in
set_option maxHeartbeats 1000000 in
theorem significantR_t (S : Nat → Prop) (w : World) (v : Value) (l : List Grp) (h : GrpsAt S w v l) (hn : l.length ≤ 1000000) :
    Calls Try.prog 33 #[v] w (SgPost w (sigK l l.length)) := by
  obtain ⟨p, cap, rfl, hcap⟩ := grps_open h
  have HX : Hid (GrpsAt (fun b => b < w.heap.size) w (.slice p l.length cap) l) := h.sub fun b _ hb => hb
  clear h
  go_enter Try.func33, Try.ntmps33
  go_wp2_with fail
  go_loopw [3, 4] (fun d i wr => ∃ k : Nat, k ≤ l.length ∧ i = .int .i64 k ∧ Hid (GrpsOwn w.heap.size 32 wr d (sigK l k)) ∧ Hid (Up w wr)) (fun _ i _ => l.length - (intOf i).toNat)
  case atStart => exact ⟨0, Nat.zero_le _, rfl, GrpsOwn.nil _ _ _, Up.refl _⟩
  case round =>
    obtain ⟨k, hk, rfl, hD, hU⟩ := hrel
    obtain ⟨wo, rfl⟩ : ∃ wo : World, wo = wr := ⟨_, rfl⟩
    obtain ⟨d, rfl⟩ : ∃ d : Value, d = u3 := ⟨_, rfl⟩
    by_cases hlt : k < l.length
    · obtain ⟨b, off, rq, rc, rfl, hc0, hc1, hc2, hri⟩ := grps_get (HX.out.keep (hU.out.kept _)) hlt
      have i1 : (0 : Int) ≤ (k : Int) := by omega
      have i2 : (k : Int) < (l.length : Int) := by omega
      have HUA := Lib.hid hU.out
      have HDA := Lib.hid hD.out
      have HIN : Hid (IntsAt (fun b => some b ≠ d.ownBlock) wo (.slice rq (gg l k).src.length rc) (gg l k).src) :=
        IntsAt.sub hri fun b hb _ e => by have := (hD.out.lt e.symm).1; omega
      have HST : Hid (sigK l (k + 1) = if 1 < (gg l k).src.length then sigK l k ++ [gg l k] else sigK l k) := rfl
      have hle : (sigK l k).length ≤ 1000000 := by have := sigK_len l k; omega
      have hwz : w.heap.size ≤ wo.heap.size := HUA.out.size
      clear hri
      by_cases e1 : 1 < (gg l k).src.length
      · have d1 : decide ((1 : Int) < ((gg l k).src.length : Int)) = true := by simp; omega
        have d2 : decide (1 < (gg l k).src.length) = true := by simp; omega
        have HSN : Hid (sigK l (k + 1) = sigK l k ++ [gg l k]) := by unfold Hid; rw [HST.out, if_pos e1]
        clear e1
        go_wp2_with (at_builtin; refine wpList_appGrpM wo rfl _ _ 28 rfl w.heap.size 32 _ 40 Try.underlying28 Try.infoEG rfl (by decide) HDA.out rfl (gg l k) (.slice rq (gg l k).src.length rc) _ rfl rfl HIN.out rfl _ rfl hle hwz ?_; intro g8 cap8 w8 hown1 hgr1 hbe1)
        go_roundw
        case rel => exact ⟨k + 1, by omega, by go_num, by unfold Hid; rw [HSN.out]; exact hown1, Below.trans HUA.out hbe1⟩
        case measure => simp [intOf]; omega
      · have d1 : decide ((1 : Int) < ((gg l k).src.length : Int)) = false := by simp; omega
        have d2 : decide (1 < (gg l k).src.length) = false := by simp; omega
        have HSN : Hid (sigK l (k + 1) = sigK l k) := by unfold Hid; rw [HST.out, if_neg e1]
        clear e1
        go_wp2_with fail
        go_roundw
        case rel => exact ⟨k + 1, by omega, by go_num, by unfold Hid; rw [HSN.out]; exact HDA.out, HUA.out⟩
        case measure => simp [intOf]; omega
    · obtain rfl : k = l.length := by omega
      clear hlt hk
      go_wp2_with fail
      go_ret
      exact ⟨hU.out, _, rfl, hD.out.grps⟩
end Go.Proofs.Ytkfndaebmbnmaaa
