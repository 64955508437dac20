/- split.pair, All, Compatible. The laws SplitConflicts, SplitBack: plain. slices.IndexFunc and ContainsFunc at ints with a function that draws. slices.IndexFunc and ContainsFunc at lists with a function that draws. split.Of: the map of names, the closure that asks it. -/
import Derived.Test.YtpjijbophjdgaaaGreatQ41
import Derived.Test.YtpjijbophjdgaaaGreatQ16
import Derived.Test.YtpjijbophjdgaaaGreatQ38
import Derived.Test.YtpjijbophjdgaaaGreatQ39
import Derived.Test.YtpjijbophjdgaaaGreatQ2
import Derived.Test.YtpjijbophjdgaaaGreatQ3
import Derived.Test.YtpjijbophjdgaaaGreatQ17
import Derived.Test.YtpjijbophjdgaaaGreatQ18
namespace Go.Proofs.YtpjijbophjdgaaaGreat
open Go.RowKit Go.Shelf Go.Deep
theorem setok_len {s : List Int} (h : SetOk s) : s.length ≤ 64 := by
  have h1 := asc_sub_len h.asc (memK_asc (fun _ => true) 64) (fun x hx => mem_memK.2 (by have := h.bd x hx; exact ⟨by omega, by omega, rfl⟩))
  have h2 := memK_len (fun _ => true) 64
  omega
def cpErr (n : Int) (a b : List Int) : Int := if splErr n a ≠ 0 then splErr n a else splErr n b
def cpB (n : Int) (a b : List Int) : Bool := decide (cpErr n a b = 0) && compB a b
def prI (l : List (List Int)) : Int := if pairI l < 0 then 0 else pairI l
def prK (l : List (List Int)) : Int := if pairI l < 0 then 0 else pairK l
def prB (l : List (List Int)) : Bool := decide (pairI l < 0)
set_option maxRecDepth 100000 in
set_option maxHeartbeats 2000000 in
theorem pair_t (S : Nat → Prop) (w : World) (v : Value) (l : List (List Int)) (h : RowsAt S w v l) (ho : ∀ k, k < l.length → SetOk (gl l k)) (hn : l.length ≤ 1000) :
    Calls Tryz.prog 128 #[v] w fun e w' => e = .returned (.tuple #[.int .i64 (prI l), .int .i64 (prK l), .bool (prB l)]) ∧ Up w w' := by
  obtain ⟨p, cap, rfl, -, -⟩ := rows_open h
  have H : Hid (RowsAt S w (.slice p l.length cap) l) := h
  have HO := Lib.hid ho
  have HNO : Hid ((∀ a, a < l.length → decide (0 ≤ rowPair l a) = false) → prI l = 0 ∧ prK l = 0 ∧ prB l = true) := fun hno => by
    have h1 : pairI l = -1 := firstIx_none hno
    unfold prI prK prB
    rw [h1]; exact ⟨rfl, rfl, rfl⟩
  have HYES : Hid (∀ i k, i < l.length → k < l.length → (∀ a, a < i → decide (0 ≤ rowPair l a) = false) → (∀ b, b < k → (decide (i < b) && !compB (gl l i) (gl l b)) = false) → i < k → compB (gl l i) (gl l k) = false → prI l = i ∧ prK l = k ∧ prB l = false) := fun i k hi hk h1 h2 hik hc => by
    have r : rowPair l i = k := firstIx_at hk h2 (by rw [decide_eq_true hik, hc]; rfl)
    have q : pairI l = i := firstIx_at hi h1 (by rw [r]; exact decide_eq_true (by omega))
    have q2 : pairK l = k := by unfold pairK; rw [q, Int.toNat_natCast]; exact r
    unfold prI prK prB
    rw [q, q2, if_neg (by omega), if_neg (by omega)]
    exact ⟨rfl, rfl, decide_eq_false (by omega)⟩
  have HROW : Hid (∀ i, (∀ b, b < l.length → (decide (i < b) && !compB (gl l i) (gl l b)) = false) → decide (0 ≤ rowPair l i) = false) := fun i hno => by
    have h1 : rowPair l i = -1 := firstIx_none hno
    rw [h1]; rfl
  have n3 : (l.length : Int) ≤ 1000 := by omega
  clear h ho
  go_enter Tryz.func128, Tryz.ntmps128
  go_wp2_with fail
  go_loopw [5, 6, 9] (fun _ _ i wr => ∃ k : Nat, k ≤ l.length ∧ i = .int .i64 k ∧ Hid (∀ a, a < k → decide (0 ≤ rowPair l a) = false) ∧ Hid (Up w wr)) (fun _ _ i _ => l.length - (intOf i).toNat)
  case atStart => exact ⟨0, Nat.zero_le _, rfl, fun j hj => absurd hj (Nat.not_lt_zero _), Up.refl _⟩
  case round =>
    obtain ⟨i, hi, rfl, hd, hU⟩ := hrel
    obtain ⟨wo, rfl⟩ : ∃ wo : World, wo = wr := ⟨_, rfl⟩
    by_cases hlt : i < l.length
    · have i1 : (0 : Int) ≤ (i : Int) := Int.natCast_nonneg _
      have i2 : (i : Int) < (l.length : Int) := Int.ofNat_lt.2 hlt
      have i3 : (i : Int) < 1000 := by omega
      go_wp2_with fail
      go_loopw [6] (fun i2 wr => ∃ k : Nat, i + 1 ≤ k ∧ k ≤ l.length ∧ i2 = .int .i64 k ∧ Hid (∀ b, b < k → (decide (i < b) && !compB (gl l i) (gl l b)) = false) ∧ Hid (Up w wr)) (fun i2 _ => l.length - (intOf i2).toNat)
      case atStart => exact ⟨i + 1, Nat.le_refl _, by omega, by go_num, fun b hb => by rw [decide_eq_false (by omega)]; rfl, hU⟩
      case round =>
        obtain ⟨k, hk0, hk, rfl, hd2, hU2⟩ := hrel
        obtain ⟨wq, rfl⟩ : ∃ wq : World, wq = wr := ⟨_, rfl⟩
        by_cases hklt : k < l.length
        · obtain ⟨b, off, q, c, rfl, hc, hr⟩ := rows_get H.out hlt
          obtain ⟨b2, off2, q2, c2, e2, hc2, hr2⟩ := rows_get H.out hklt
          cases e2
          have HC1 := Lib.hid (hU2.out.cell hc)
          have HC2 := Lib.hid (hU2.out.cell hc2)
          have k1 : (0 : Int) ≤ (k : Int) := Int.natCast_nonneg _
          have k2 : (k : Int) < (l.length : Int) := Int.ofNat_lt.2 hklt
          have k3 : (k : Int) < 1000 := by omega
          have HCO : Hid (∀ W, Up wq W → Calls Tryz.prog 72 #[.slice q (gl l i).length c, .slice q2 (gl l k).length c2] W fun e w' => e = .returned (.bool (compB (gl l i) (gl l k))) ∧ Up W w') := fun W hW =>
            compat_t S W _ _ _ _ (IntsAt.keep hr ((hU2.out.trans hW).kept _)) (IntsAt.keep hr2 ((hU2.out.trans hW).kept _)) (HO.out i hlt) (HO.out k hklt) (by have := setok_len (HO.out i hlt); omega) (by have := setok_len (HO.out k hklt); omega)
          have HLT : Hid (i < k) := by unfold Hid; omega
          clear hc hc2 hr hr2
          have hup : Hid (Up wq (wq.drewN 1)) := Up.drewN wq 1
          generalize hcb : compB (gl l i) (gl l k) = cb at *
          have HCB := Lib.hid hcb
          clear hcb
          generalize (gl l i).length = x at *
          generalize (gl l k).length = y at *
          go_wp2_with fail
          go_region_held3 (fun w' => Hid (Up wq w') ∧ w'.cell? ⟨b, off + i, none⟩ = some (.slice q x c) ∧ w'.cell? ⟨b, off + k, none⟩ = some (.slice q2 y c2)) (exact ⟨hup, hup.out.cell HC1.out, hup.out.cell HC2.out⟩) (first
            | (go_at_call 72; refine (HCO.out _ hup.out).mono ?_; rintro e w9 ⟨rfl, hb9⟩; have hup : Hid (Up wq w9) := hup.out.trans hb9; clear hb9))
          have HU3 : Hid (Up w _) := hU2.out.trans hup.out
          clear hup HCO HC1 HC2
          cases cb
          · go_wp2_with fail
            obtain ⟨y1, y2, y3⟩ := HYES.out i k hlt hklt hd.out hd2.out HLT.out HCB.out
            exact ⟨rfl, .tuple #[.int .i64 (i : Int), .int .i64 (k : Int), .bool false], by simp [results, Tryz.results128, go_sem], by rw [y1, y2, y3], HU3.out⟩
          · go_wp2_with fail
            go_roundw
            case rel => exact ⟨k + 1, by omega, by omega, by go_num, fun b' hb' => by
              by_cases e : b' = k
              · subst e; rw [HCB.out]; simp
              · exact hd2.out b' (by omega), HU3⟩
            case measure => simp [intOf]; omega
        · obtain rfl : k = l.length := by omega
          have HR := Lib.hid (HROW.out i hd2.out)
          go_wp2_with fail
          go_roundw
          case rel => exact ⟨i + 1, by omega, by go_num, fun a ha => by
            by_cases e : a = i
            · subst e; exact HR.out
            · exact hd.out a (by omega), hU2⟩
          case measure => simp [intOf]; omega
    · obtain rfl : i = l.length := by omega
      obtain ⟨y1, y2, y3⟩ := HNO.out hd.out
      have HY : Hid (prI l = 0 ∧ prK l = 0 ∧ prB l = true) := ⟨y1, y2, y3⟩
      clear y1 y2 y3
      go_wp2_with fail
      exact ⟨rfl, .tuple #[.int .i64 0, .int .i64 0, .bool true], by simp [results, Tryz.results128, go_sem], by rw [HY.out.1, HY.out.2.1, HY.out.2.2], hU.out⟩
set_option maxRecDepth 100000 in
set_option maxHeartbeats 1000000 in
theorem compatible_t (S : Nat → Prop) (w : World) (v u : Value) (n : Int) (a b : List Int) (h : IntsAt S w v a) (h2 : IntsAt S w u b) (hl : a.length ≤ 1000000) (hl2 : b.length ≤ 1000000) :
    Calls Tryz.prog 19 #[.int .i64 n, v, u] w fun e w' => e = .returned (.tuple #[.bool (cpB n a b), .int .i64 (cpErr n a b)]) ∧ Up w w' := by
  have HF : Hid (cpErr n a b = if splErr n a ≠ 0 then splErr n a else splErr n b) := rfl
  obtain ⟨p, cap, rfl, -, -⟩ := SlAt.open h
  obtain ⟨p2, cap2, rfl, -, -⟩ := SlAt.open h2
  have HC1 : Hid (∀ W, Up w W → Calls Tryz.prog 71 #[.int .i64 n, .slice p a.length cap] W fun e w' => e = .returned (.int .i64 (splErr n a)) ∧ W = w') := fun W hW => splCheck_t S W _ n a (IntsAt.keep h (hW.kept _)) hl
  have HC2 : Hid (∀ W, Up w W → Calls Tryz.prog 71 #[.int .i64 n, .slice p2 b.length cap2] W fun e w' => e = .returned (.int .i64 (splErr n b)) ∧ W = w') := fun W hW => splCheck_t S W _ n b (IntsAt.keep h2 (hW.kept _)) hl2
  have HCO : Hid (splErr n a = 0 → splErr n b = 0 → ∀ W, Up w W → Calls Tryz.prog 72 #[.slice p a.length cap, .slice p2 b.length cap2] W fun e w' => e = .returned (.bool (compB a b)) ∧ Up W w') := fun e1 e2 W hW => compat_t S W _ _ a b (IntsAt.keep h (hW.kept _)) (IntsAt.keep h2 (hW.kept _)) (splErr_zero.1 e1).set (splErr_zero.1 e2).set hl hl2
  have hu := Up.alloc w (.cells #[.slice p a.length cap, .slice p2 b.length cap2] 26)
  have b0 := box2_0 w (.slice p a.length cap) (.slice p2 b.length cap2) 26
  have b1 := box2_1 w (.slice p a.length cap) (.slice p2 b.length cap2) 26
  have HU := Lib.hid hu
  have HB0 := Lib.hid b0
  have HB1 := Lib.hid b1
  clear h h2 hu b0 b1
  go_enter Tryz.func19, Tryz.ntmps19
  go_wp2_with fail
  generalize w.alloc (.cells #[.slice p a.length cap, .slice p2 b.length cap2] 26) = w1 at *
  go_loop [9, 10, 15] (fun _ _ i => ∃ k : Nat, k ≤ 2 ∧ i = .int .i64 k ∧ Hid (0 < k → splErr n a = 0) ∧ Hid (1 < k → splErr n b = 0)) (fun _ _ i => 2 - (intOf i).toNat)
  case atStart => exact ⟨0, Nat.zero_le _, rfl, fun h => absurd h (Nat.lt_irrefl _), fun h => absurd h (by omega)⟩
  case round =>
    obtain ⟨k, hk, rfl, hd, hd2⟩ := hrel
    have c0 := HB0.out
    have c1 := HB1.out
    by_cases k0 : k = 0
    · subst k0
      have HC := Lib.hid (HC1.out w1 HU.out)
      clear HC1 HC2 HCO
      generalize hse : splErr n a = se at *
      by_cases h0 : se = 0
      · have HZ := Lib.hid h0
        subst h0
        go_wp2_with fail
        refine HC.out.mono ?_
        rintro e w' ⟨rfl, rfl⟩
        go_wp2_with fail
        go_round
        case rel => exact ⟨1, by omega, by go_num, fun _ => (by first | rfl | trivial), fun h => absurd h (by omega)⟩
        case measure => simp [intOf]
      · have HZ := Lib.hid h0
        have d1 : (se == 0) = false := by simpa using h0
        have d2 : (se != 0) = true := by simpa using h0
        clear h0
        go_wp2_with fail
        refine HC.out.mono ?_
        rintro e w' ⟨rfl, rfl⟩
        go_wp2_with fail
        have he : cpErr n a b = se := by rw [HF.out, if_pos HZ.out]
        exact ⟨rfl, .tuple #[.bool false, .int .i64 se], by simp [results, Tryz.results19, go_sem], by rw [show cpB n a b = false by unfold cpB; rw [decide_eq_false (by rw [he]; exact HZ.out)]; rfl, he], HU.out⟩
    by_cases k1 : k = 1
    · subst k1
      have HC := Lib.hid (HC2.out w1 HU.out)
      have HA := Lib.hid (hd.out (by omega))
      clear HC1 HC2 HCO
      generalize hse : splErr n b = se at *
      by_cases h0 : se = 0
      · have HZ := Lib.hid h0
        subst h0
        go_wp2_with fail
        refine HC.out.mono ?_
        rintro e w' ⟨rfl, rfl⟩
        go_wp2_with fail
        go_round
        case rel => exact ⟨2, by omega, by go_num, fun _ => HA.out, fun _ => (by first | rfl | trivial)⟩
        case measure => simp [intOf]
      · have HZ := Lib.hid h0
        have d1 : (se == 0) = false := by simpa using h0
        have d2 : (se != 0) = true := by simpa using h0
        clear h0
        go_wp2_with fail
        refine HC.out.mono ?_
        rintro e w' ⟨rfl, rfl⟩
        go_wp2_with fail
        have he : cpErr n a b = se := by rw [HF.out, if_neg (fun e => e HA.out)]
        exact ⟨rfl, .tuple #[.bool false, .int .i64 se], by simp [results, Tryz.results19, go_sem], by rw [show cpB n a b = false by unfold cpB; rw [decide_eq_false (by rw [he]; exact HZ.out)]; rfl, he], HU.out⟩
    · obtain rfl : k = 2 := by omega
      have e1 := hd.out (by omega)
      have e2 := hd2.out (by omega)
      have HE : Hid (cpErr n a b = 0) := by unfold Hid; rw [HF.out, if_neg (fun e => e e1)]; exact e2
      have HQ := Lib.hid (HCO.out e1 e2 w1 HU.out)
      clear e1 e2 c0 c1
      generalize hcb : compB a b = cb at *
      have HCB := Lib.hid hcb
      clear hcb
      go_wp2_with fail
      refine HQ.out.mono ?_
      rintro e w' ⟨rfl, hu⟩
      have HU2 := Lib.hid (HU.out.trans hu)
      clear hu
      go_wp2_with fail
      exact ⟨rfl, .tuple #[.bool cb, .int .i64 0], by simp [results, Tryz.results19, go_sem], by rw [show cpB n a b = cb by unfold cpB; rw [decide_eq_true HE.out, HCB.out]; rfl, HE.out], HU2.out⟩
end Go.Proofs.YtpjijbophjdgaaaGreat
namespace Go.Proofs.YtpjijbophjdgaaaGreat
open Go.RowKit Go.Deep
theorem back_law {names : List ByteArray} {l : List (List Int)} (h : bldErr names l = 0) : splOErr (bldR names l) names = 0 ∧ splO (bldR names l) names = ordX l ∧ treeErr (bldR names l) = 0 := by
  have hk := bldErr_ok.1 h
  have hr : bldR names l = bldT names l := by unfold bldR; rw [if_pos h]
  rw [hr]
  by_cases h3 : 3 ≤ names.length
  · obtain ⟨a, b⟩ := bld_back hk (own_small hk h3)
    exact ⟨splO_ok.2 a, b, a.te⟩
  · have hf := hk.few (by omega)
    have hsm : 3 + (ownQ l).length + (names.length - 1) ≤ 64 := by rw [hf]; simp [ownQ, sortQ, cptX]; omega
    obtain ⟨a, b⟩ := bld_back hk hsm
    exact ⟨splO_ok.2 a, b, a.te⟩
end Go.Proofs.YtpjijbophjdgaaaGreat
namespace Go.Proofs.YtpjijbophjdgaaaGreat
open Go.RowKit Go.Deep
def FnD (g : Nat) (lb args : Array Value) (res : Value) (w : World) : Prop := ∀ m, Calls Tryz.prog g (args ++ lb) (w.drewN m) fun e w' => e = .returned res ∧ ∃ q, w' = w.drewN q
set_option maxHeartbeats 400000 in
theorem ints_ix_d (g : Nat) (lb : Array Value) (eg : ∀ args w, (callFunc g args).run Tryz.prog w = .ok (.enter g args) w) (S : Nat → Prop) (w : World) (v : Value) (n : Nat) (f : Nat → Value) (p : Nat → Bool)
    (h : SlAt S w v n f) (hn : n ≤ 1000000) (hp : ∀ k, k < n → FnD g lb #[f k] (.bool (p k)) w) :
    Calls Tryz.prog 140 #[v, .func (.func g) #[] lb] w fun e w' => e = .returned (.int .i64 (firstIx p n)) ∧ ∃ q, w' = w.drewN q := by
  obtain ⟨q, cap, rfl, hcap, H⟩ := h.open
  have HP := Lib.hid hp
  clear h hp
  go_enter Tryz.func140, Tryz.ntmps140
  go_wp2_with fail
  go_loopw [5, 8] (fun _ i wr => ∃ k : Nat, k ≤ n ∧ i = .int .i64 k ∧ Hid (∀ j, j < k → p j = false) ∧ Hid (∃ m, wr = w.drewN m)) (fun _ i _ => n - (intOf i).toNat)
  case atStart => exact ⟨0, Nat.zero_le _, rfl, fun j hj => absurd hj (Nat.not_lt_zero _), 0, rfl⟩
  case round =>
    obtain ⟨k, hk, rfl, hd, hm⟩ := hrel
    obtain ⟨m, rfl⟩ := hm.out
    clear hm
    by_cases hlt : k < n
    · obtain ⟨b, off, rfl, hc⟩ := H k hlt
      have hc := (Up.drewN w m).cell hc
      clear H
      have hpk := HP.out k hlt
      unfold FnD at hpk
      have HPK := Lib.hid (hpk m)
      clear hpk HP
      generalize hv : p k = pk at *
      have HV := Lib.hid hv
      clear hv
      cases pk
      · go_wp2_with fail
        refine HPK.out.mono ?_
        rintro e w' ⟨rfl, m2, rfl⟩
        go_wp2_with fail
        go_roundw
        case rel => exact ⟨k + 1, by omega, by go_num, fun j hj => if e : j = k then by subst e; exact HV.out else hd.out j (by omega), m2, rfl⟩
        case measure => simp [intOf]; omega
      · go_wp2_with fail
        refine HPK.out.mono ?_
        rintro e w' ⟨rfl, m2, rfl⟩
        go_wp2_with fail
        go_ret
        exact ⟨ret_int (firstIx_at hlt hd.out HV.out).symm, m2, rfl⟩
    · clear H
      go_wp2_with fail
      go_ret
      exact ⟨ret_int (firstIx_none fun j hj => hd.out j (by omega)).symm, m, rfl⟩
set_option maxHeartbeats 400000 in
theorem ints_has_d (g : Nat) (lb : Array Value) (eg : ∀ args w, (callFunc g args).run Tryz.prog w = .ok (.enter g args) w) (S : Nat → Prop) (w : World) (v : Value) (n : Nat) (f : Nat → Value) (p : Nat → Bool)
    (h : SlAt S w v n f) (hn : n ≤ 1000000) (hp : ∀ k, k < n → FnD g lb #[f k] (.bool (p k)) w) :
    Calls Tryz.prog 63 #[v, .func (.func g) #[] lb] w fun e w' => e = .returned (.bool ((List.range n).any p)) ∧ ∃ q, w' = w.drewN q := by
  have hx := firstIx_any p n
  have HX := Lib.hid hx
  have HI := Lib.hid (ints_ix_d g lb eg S w v n f p h hn hp)
  obtain ⟨q, cap, rfl, -, -⟩ := SlAt.open h
  clear hx hp h eg
  go_enter Tryz.func63, Tryz.ntmps63
  go_wp2_with fail
  refine HI.out.mono ?_
  rintro e w' ⟨rfl, m, rfl⟩
  go_wp2_with fail
  go_ret
  exact ⟨ret_bool (by rw [← HX.out]), m, rfl⟩
end Go.Proofs.YtpjijbophjdgaaaGreat
namespace Go.Proofs.YtpjijbophjdgaaaGreat
open Go.RowKit Go.Deep
set_option maxHeartbeats 400000 in
theorem rows_ix_d (g : Nat) (lb : Array Value) (eg : ∀ args w, (callFunc g args).run Tryz.prog w = .ok (.enter g args) w) (S : Nat → Prop) (w : World) (v : Value) (n : Nat) (f : Nat → Value) (p : Nat → Bool)
    (h : SlAt S w v n f) (hn : n ≤ 1000000) (hp : ∀ k, k < n → FnD g lb #[f k] (.bool (p k)) w) :
    Calls Tryz.prog 70 #[v, .func (.func g) #[] lb] w fun e w' => e = .returned (.int .i64 (firstIx p n)) ∧ ∃ q, w' = w.drewN q := by
  obtain ⟨q, cap, rfl, hcap, H⟩ := h.open
  have HP := Lib.hid hp
  clear h hp
  go_enter Tryz.func70, Tryz.ntmps70
  go_wp2_with fail
  go_loopw [5, 8] (fun _ i wr => ∃ k : Nat, k ≤ n ∧ i = .int .i64 k ∧ Hid (∀ j, j < k → p j = false) ∧ Hid (∃ m, wr = w.drewN m)) (fun _ i _ => n - (intOf i).toNat)
  case atStart => exact ⟨0, Nat.zero_le _, rfl, fun j hj => absurd hj (Nat.not_lt_zero _), 0, rfl⟩
  case round =>
    obtain ⟨k, hk, rfl, hd, hm⟩ := hrel
    obtain ⟨m, rfl⟩ := hm.out
    clear hm
    by_cases hlt : k < n
    · obtain ⟨b, off, rfl, hc⟩ := H k hlt
      have hc := (Up.drewN w m).cell hc
      clear H
      have hpk := HP.out k hlt
      unfold FnD at hpk
      have HPK := Lib.hid (hpk m)
      clear hpk HP
      generalize hv : p k = pk at *
      have HV := Lib.hid hv
      clear hv
      cases pk
      · go_wp2_with fail
        refine HPK.out.mono ?_
        rintro e w' ⟨rfl, m2, rfl⟩
        go_wp2_with fail
        go_roundw
        case rel => exact ⟨k + 1, by omega, by go_num, fun j hj => if e : j = k then by subst e; exact HV.out else hd.out j (by omega), m2, rfl⟩
        case measure => simp [intOf]; omega
      · go_wp2_with fail
        refine HPK.out.mono ?_
        rintro e w' ⟨rfl, m2, rfl⟩
        go_wp2_with fail
        go_ret
        exact ⟨ret_int (firstIx_at hlt hd.out HV.out).symm, m2, rfl⟩
    · clear H
      go_wp2_with fail
      go_ret
      exact ⟨ret_int (firstIx_none fun j hj => hd.out j (by omega)).symm, m, rfl⟩
set_option maxHeartbeats 400000 in
theorem rows_has_d (g : Nat) (lb : Array Value) (eg : ∀ args w, (callFunc g args).run Tryz.prog w = .ok (.enter g args) w) (S : Nat → Prop) (w : World) (v : Value) (n : Nat) (f : Nat → Value) (p : Nat → Bool)
    (h : SlAt S w v n f) (hn : n ≤ 1000000) (hp : ∀ k, k < n → FnD g lb #[f k] (.bool (p k)) w) :
    Calls Tryz.prog 15 #[v, .func (.func g) #[] lb] w fun e w' => e = .returned (.bool ((List.range n).any p)) ∧ ∃ q, w' = w.drewN q := by
  have hx := firstIx_any p n
  have HX := Lib.hid hx
  have HI := Lib.hid (rows_ix_d g lb eg S w v n f p h hn hp)
  obtain ⟨q, cap, rfl, -, -⟩ := SlAt.open h
  clear hx hp h eg
  go_enter Tryz.func15, Tryz.ntmps15
  go_wp2_with fail
  refine HI.out.mono ?_
  rintro e w' ⟨rfl, m, rfl⟩
  go_wp2_with fail
  go_ret
  exact ⟨ret_bool (by rw [← HX.out]), m, rfl⟩
end Go.Proofs.YtpjijbophjdgaaaGreat
namespace Go.Proofs.YtpjijbophjdgaaaGreat
open Go.RowKit Go.Deep
def smK (names : List ByteArray) : Nat → List (ByteArray × Value)
  | 0 => []
  | k + 1 => putS (smK names k) (gs names k) (.bool true)
def inNm (names : List ByteArray) (k : Nat) (s : ByteArray) : Bool := (List.range k).any fun j => decide (gs names j = s)
theorem smK_uniq (names : List ByteArray) : ∀ k, UniqS (smK names k)
  | 0 => List.nodup_nil
  | k + 1 => putS_uniq (smK_uniq names k) _ _
theorem smK_look (names : List ByteArray) (s : ByteArray) : ∀ k, ((smK names k).lookup s).getD (.bool false) = .bool (inNm names k s)
  | 0 => rfl
  | k + 1 => by
    rw [smK, lookup_putS]
    have e : inNm names (k + 1) s = (inNm names k s || decide (gs names k = s)) := by unfold inNm; rw [List.range_succ, List.any_append]; simp
    rw [e]
    by_cases h : s = gs names k
    · rw [if_pos h, decide_eq_true h.symm]; simp
    · rw [if_neg h, smK_look names s k, decide_eq_false (fun q => h q.symm)]; simp
theorem inNm_fd (names : List ByteArray) (s : ByteArray) : inNm names names.length s = !decide (fdN names s < 0) := by
  have h1 : decide (0 ≤ fdN names s) = (List.range names.length).any fun j => decide (s = gs names j) := firstIx_any _ _
  have h2 : inNm names names.length s = (List.range names.length).any fun j => decide (s = gs names j) := by
    unfold inNm
    congr 1
    funext j
    by_cases e : gs names j = s
    · rw [decide_eq_true e, decide_eq_true e.symm]
    · rw [decide_eq_false e, decide_eq_false fun q => e q.symm]
  rw [h2, ← h1]
  by_cases h : fdN names s < 0
  · rw [decide_eq_true h, decide_eq_false (by omega)]; rfl
  · rw [decide_eq_false h, decide_eq_true (by omega)]; rfl
theorem zero_bool (w : World) : (zeroValue 4).run Tryz.prog w = .ok (.bool false) w := by simp [Tryz.zeroValue4]
set_option maxRecDepth 100000 in
set_option maxHeartbeats 1000000 in
theorem of1_t (w : World) (S : Nat → Prop) (b8 bt mb : Nat) (np : Option Addr) (nc : Nat) (ns names : List ByteArray) (k : Nat) (h8 : w.cell? ⟨b8, 0, none⟩ = some (.map (some mb))) (hm : SMap w mb (smK names names.length)) (ht : w.cell? ⟨bt, 1, none⟩ = some (.slice np ns.length nc)) (hN : StrsAt S w (.slice np ns.length nc) ns) (hk : k < ns.length) :
    FnD 82 #[.pointer (some ⟨b8, 0, none⟩), .pointer (some ⟨bt, 0, none⟩)] #[.int .i64 (k : Int)] (.bool (decide (fdN names (gs ns k) < 0))) w := by
  intro m
  show Calls Tryz.prog 82 #[.int .i64 (k : Int), .pointer (some ⟨b8, 0, none⟩), .pointer (some ⟨bt, 0, none⟩)] (w.drewN m) _
  have hd := Up.drewN w m
  obtain ⟨nb, no, rfl, c4⟩ := strs_get hN hk
  have c1 := hd.cell h8
  have c2 := hd.cell ht
  have c4 := hd.cell c4
  have k1 : (0 : Int) ≤ (k : Int) := Int.natCast_nonneg _
  have k2 : (k : Int) < (ns.length : Int) := Int.ofNat_lt.2 hk
  have hlk : ∀ n, (Instr.lookup 96 (.map (some mb)) (.string (gs ns k)) false).run Tryz.prog ((w.drewN m).drewN n) = .ok (.bool (!decide (fdN names (gs ns k) < 0))) ((w.drewN m).drewN n) := fun n => by
    have hm2 : SMap ((w.drewN m).drewN n) mb (smK names names.length) := hm.same rfl
    have h := run_slook (P := Tryz.prog) Tryz.underlying96 Tryz.underlying9 (zero_bool _) hm2 (gs ns k)
    rw [smK_look, inNm_fd] at h
    exact h
  obtain ⟨W, hW⟩ : ∃ W, W = w.drewN m := ⟨_, rfl⟩
  have HW := Lib.hid hW
  rw [← hW] at c1 c2 c4 hlk ⊢
  clear hd h8 hm ht hN hk hW
  generalize gs ns k = s at *
  generalize decide (fdN names s < 0) = b at *
  go_enter Tryz.func82, Tryz.ntmps82
  go_wp2_with fail
  go_big_quiet (fail)
  go_wp2_with fail
  go_ret
  exact ⟨by cases b <;> rfl, m + nq, by rw [HW.out, World.drewN_drewN]⟩
end Go.Proofs.YtpjijbophjdgaaaGreat
