/- The contracts of layer 32's reference: All, OfStates. slices.IndexFunc and ContainsFunc at lists with a function that draws. -/
import Derived.Test.YtcbmbhghmfehpaaGreatQ24
import Derived.Deep.RegionHeld3
namespace Go.Proofs.YtcbmbhghmfehpaaGreat
open Go.RowKit Go.Deep
set_option maxRecDepth 100000 in
set_option maxHeartbeats 4000000 in
theorem all32_t (S : Nat → Prop) (w : World) (v : Value) (n : Int) (l : List (List Int)) (h : RowsAt S w v l) (hn : l.length ≤ 1000000) (hr : ∀ k, (gl l k).length ≤ 1000000) :
    Calls Tryz.prog 63 #[.int .i64 n, v] w fun e w' => e = .returned (.tuple #[.int .i64 (alP n l), .int .i64 (alQ n l), .bool (alB n l), .int .i64 (allErr n l)]) ∧ Up w w' := by
  have HF : Hid (allErr n l = if 64 < l.length then 4 else if n < 1 ∨ 32 < n then 2 else firstNZ (fun k => splErr n (gl l k)) l.length) := rfl
  obtain ⟨p, cap, rfl, -, -⟩ := rows_open h
  have H : Hid (RowsAt S w (.slice p l.length cap) l) := h
  have HR := Lib.hid hr
  have HBAD : Hid (∀ z, allErr n l = z → z ≠ 0 → alP n l = 0 ∧ alQ n l = 0 ∧ alB n l = false ∧ allErr n l = z) := fun z e h0 => by
    obtain ⟨a, b, c⟩ := al_bad (n := n) (l := l) (by rw [e]; exact h0)
    exact ⟨a, b, c, e⟩
  clear h hr
  by_cases h1 : 64 < l.length
  · have HE := Lib.hid (HBAD.out 4 (by rw [HF.out, if_pos h1]) (by decide))
    have d1 : decide ((64 : Int) < (l.length : Int)) = true := decide_eq_true (by omega)
    clear h1
    go_enter Tryz.func63, Tryz.ntmps63
    go_wp2_with fail
    exact ⟨rfl, .tuple #[.int .i64 0, .int .i64 0, .bool false, .int .i64 4], by simp [results, Tryz.results63, go_sem], by rw [HE.out.1, HE.out.2.1, HE.out.2.2.1, HE.out.2.2.2], Up.refl _⟩
  have d1 : decide ((64 : Int) < (l.length : Int)) = false := decide_eq_false (by omega)
  by_cases h2 : n < 1
  · have HE := Lib.hid (HBAD.out 2 (by rw [HF.out, if_neg h1, if_pos (.inl h2)]) (by decide))
    have d2 : decide (n < 1) = true := decide_eq_true h2
    clear h1 h2
    go_enter Tryz.func63, Tryz.ntmps63
    go_wp2_with fail
    exact ⟨rfl, .tuple #[.int .i64 0, .int .i64 0, .bool false, .int .i64 2], by simp [results, Tryz.results63, go_sem], by rw [HE.out.1, HE.out.2.1, HE.out.2.2.1, HE.out.2.2.2], Up.refl _⟩
  have d2 : decide (n < 1) = false := decide_eq_false h2
  by_cases h3 : 32 < n
  · have HE := Lib.hid (HBAD.out 2 (by rw [HF.out, if_neg h1, if_pos (.inr h3)]) (by decide))
    have d3 : decide (32 < n) = true := decide_eq_true h3
    clear h1 h2 h3
    go_enter Tryz.func63, Tryz.ntmps63
    go_wp2_with fail
    exact ⟨rfl, .tuple #[.int .i64 0, .int .i64 0, .bool false, .int .i64 2], by simp [results, Tryz.results63, go_sem], by rw [HE.out.1, HE.out.2.1, HE.out.2.2.1, HE.out.2.2.2], Up.refl _⟩
  have d3 : decide (32 < n) = false := decide_eq_false h3
  have HF2 : Hid (allErr n l = firstNZ (fun k => splErr n (gl l k)) l.length) := by unfold Hid; rw [HF.out, if_neg h1, if_neg (by omega)]
  have hl64 : l.length ≤ 64 := by omega
  clear HF h1 h2 h3
  go_enter Tryz.func63, Tryz.ntmps63
  go_wp2_with fail
  go_loopw [8, 9] (fun i _ wr => ∃ k : Nat, k ≤ l.length ∧ i = .int .i64 k ∧ Hid (Up w wr) ∧ Hid (∀ j, j < k → splErr n (gl l j) = 0)) (fun i _ _ => l.length - (intOf i).toNat)
  case atStart => exact ⟨0, Nat.zero_le _, rfl, Up.refl _, fun j hj => absurd hj (Nat.not_lt_zero _)⟩
  case round =>
    obtain ⟨k, hk, rfl, hU, hd⟩ := hrel
    obtain ⟨wo, rfl⟩ : ∃ wo : World, wo = wr := ⟨_, rfl⟩
    by_cases hlt : k < l.length
    · obtain ⟨b, off, q, c, rfl, hc, hri⟩ := rows_get (RowsAt.keep H.out (hU.out.kept S)) hlt
      have HCK := Lib.hid (chk32_t S wo _ n (gl l k) hri (HR.out k))
      have HAT : Hid (splErr n (gl l k) ≠ 0 → allErr n l = splErr n (gl l k)) := fun e => by rw [HF2.out]; exact firstNZ_at (f := fun k => splErr n (gl l k)) hlt hd.out e
      have HGO : Hid (splErr n (gl l k) = 0 → ∀ j, j < k + 1 → splErr n (gl l j) = 0) := fun e j hj => if ej : j = k then by subst ej; exact e else hd.out j (by omega)
      have i1 : (0 : Int) ≤ (k : Int) := by omega
      have i2 : (k : Int) < (l.length : Int) := by omega
      have HLT := Lib.hid hlt
      have HUo := Lib.hid hU.out
      clear hri hk hlt hU
      generalize (gl l k).length = x at *
      by_cases e0 : splErr n (gl l k) = 0
      · have HG := Lib.hid (HGO.out e0)
        rw [e0] at HCK
        clear e0 HAT HGO
        go_wp2_with fail
        refine HCK.out.mono ?_
        rintro e w2 ⟨rfl, hq2⟩
        have HU2 := Lib.hid (HUo.out.trans hq2.up)
        clear hq2
        go_wp2_with fail
        go_roundw
        case rel => exact ⟨k + 1, HLT.out, by go_num, HU2.out, HG.out⟩
        case measure => have := HLT.out; simp [intOf]; omega
      · have d4 : (splErr n (gl l k) != 0) = true := by simpa using e0
        have HE := Lib.hid (HBAD.out _ (HAT.out e0) e0)
        clear e0 HAT HGO
        generalize splErr n (gl l k) = z at *
        go_wp2_with fail
        refine HCK.out.mono ?_
        rintro e w2 ⟨rfl, hq2⟩
        have HU2 := Lib.hid (HUo.out.trans hq2.up)
        clear hq2
        go_wp2_with fail
        exact ⟨rfl, .tuple #[.int .i64 0, .int .i64 0, .bool false, .int .i64 z], by simp [results, Tryz.results63, go_sem], by rw [HE.out.1, HE.out.2.1, HE.out.2.2.1, HE.out.2.2.2], HU2.out⟩
    · obtain rfl : k = l.length := by omega
      have he0 : allErr n l = 0 := by rw [HF2.out]; exact firstNZ_zero hd.out
      have HE0 := Lib.hid he0
      have HUo := Lib.hid hU.out
      have HO : Hid (∀ j, j < l.length → SetOk (gl l j)) := fun j hj => (splErr_zero.1 (hd.out j hj)).set
      have HNO : Hid ((∀ a, a < l.length → decide (0 ≤ rowPair l a) = false) → alP n l = 0 ∧ alQ n l = 0 ∧ alB n l = true ∧ allErr n l = 0) := fun h => by
        obtain ⟨y1, y2, y3⟩ := al_good he0
        have h1 : pairI l = -1 := firstIx_none h
        rw [y1, y2, y3]
        unfold prI prK prB
        rw [h1]; exact ⟨rfl, rfl, rfl, he0⟩
      have HYES : Hid (∀ i k, i < l.length → k < l.length → (∀ a, a < i → decide (0 ≤ rowPair l a) = false) → (∀ b, b < k → (decide (i < b) && !compB (gl l i) (gl l b)) = false) → i < k → compB (gl l i) (gl l k) = false → alP n l = i ∧ alQ n l = k ∧ alB n l = false ∧ allErr n l = 0) := fun i k hi hk h1 h2 hik hc => by
        obtain ⟨y1, y2, y3⟩ := al_good he0
        have r : rowPair l i = k := firstIx_at hk h2 (by rw [decide_eq_true hik, hc]; rfl)
        have q : pairI l = i := firstIx_at hi h1 (by rw [r]; exact decide_eq_true (by omega))
        have q2 : pairK l = k := by unfold pairK; rw [q, Int.toNat_natCast]; exact r
        rw [y1, y2, y3]
        unfold prI prK prB
        rw [q, q2, if_neg (by omega), if_neg (by omega)]
        exact ⟨rfl, rfl, decide_eq_false (by omega), he0⟩
      have HROW : Hid (∀ i, (∀ b, b < l.length → (decide (i < b) && !compB (gl l i) (gl l b)) = false) → decide (0 ≤ rowPair l i) = false) := fun i hno => by
        have h1 : rowPair l i = -1 := firstIx_none hno
        rw [h1]; rfl
      clear hlt hk hU hd HF2 he0 HBAD
      go_wp2_with fail
      go_loopw [10, 11] (fun i _ wr => ∃ k : Nat, k ≤ l.length ∧ i = .int .i64 k ∧ Hid (∀ a, a < k → decide (0 ≤ rowPair l a) = false) ∧ Hid (Up w wr)) (fun i _ _ => l.length - (intOf i).toNat)
      case atStart => exact ⟨0, Nat.zero_le _, rfl, fun j hj => absurd hj (Nat.not_lt_zero _), HUo.out⟩
      case round =>
        obtain ⟨i, hi, rfl, hd, hU⟩ := hrel
        obtain ⟨wo, rfl⟩ : ∃ wo : World, wo = wr := ⟨_, rfl⟩
        by_cases hlt : i < l.length
        · have i1 : (0 : Int) ≤ (i : Int) := Int.natCast_nonneg _
          have i2 : (i : Int) < (l.length : Int) := Int.ofNat_lt.2 hlt
          have i3 : (i : Int) < 1000 := by omega
          go_wp2_with fail
          go_loopw [11] (fun i2 wr => ∃ k : Nat, i + 1 ≤ k ∧ k ≤ l.length ∧ i2 = .int .i64 k ∧ Hid (∀ b, b < k → (decide (i < b) && !compB (gl l i) (gl l b)) = false) ∧ Hid (Up w wr)) (fun i2 _ => l.length - (intOf i2).toNat)
          case atStart => exact ⟨i + 1, Nat.le_refl _, by omega, by go_num, fun b hb => by rw [decide_eq_false (by omega)]; rfl, hU⟩
          case round =>
            obtain ⟨k, hk0, hk, rfl, hd2, hU2⟩ := hrel
            obtain ⟨wq, rfl⟩ : ∃ wq : World, wq = wr := ⟨_, rfl⟩
            by_cases hklt : k < l.length
            · obtain ⟨b, off, q, c, rfl, hc, hr⟩ := rows_get H.out hlt
              obtain ⟨b2, off2, q2, c2, e2, hc2, hr2⟩ := rows_get H.out hklt
              cases e2
              have HC1 := Lib.hid (hU2.out.cell hc)
              have HC2 := Lib.hid (hU2.out.cell hc2)
              have k1 : (0 : Int) ≤ (k : Int) := Int.natCast_nonneg _
              have k2 : (k : Int) < (l.length : Int) := Int.ofNat_lt.2 hklt
              have k3 : (k : Int) < 1000 := by omega
              have HCO : Hid (∀ W, Up wq W → Calls Tryz.prog 127 #[.slice q (gl l i).length c, .slice q2 (gl l k).length c2] W fun e w' => e = .returned (.bool (compB (gl l i) (gl l k))) ∧ Up W w') := fun W hW =>
                fit32_t S S W _ _ _ _ (IntsAt.keep hr ((hU2.out.trans hW).kept _)) (IntsAt.keep hr2 ((hU2.out.trans hW).kept _)) (HO.out i hlt) (HO.out k hklt)
              have HLT : Hid (i < k) := by unfold Hid; omega
              clear hc hc2 hr hr2
              have hup : Hid (Up wq (wq.drewN 1)) := Up.drewN wq 1
              generalize hcb : compB (gl l i) (gl l k) = cb at *
              have HCB := Lib.hid hcb
              clear hcb
              generalize (gl l i).length = x at *
              generalize (gl l k).length = y at *
              go_wp2_with fail
              go_region_held3 (fun w' => Hid (Up wq w') ∧ w'.cell? ⟨b, off + i, none⟩ = some (.slice q x c) ∧ w'.cell? ⟨b, off + k, none⟩ = some (.slice q2 y c2)) (exact ⟨hup, hup.out.cell HC1.out, hup.out.cell HC2.out⟩) (first
                | (go_at_call 127; refine (HCO.out _ hup.out).mono ?_; rintro e w9 ⟨rfl, hb9⟩; have hup : Hid (Up wq w9) := hup.out.trans hb9; clear hb9))
              have HU3 : Hid (Up w _) := hU2.out.trans hup.out
              clear hup HCO HC1 HC2
              cases cb
              · go_wp2_with fail
                obtain ⟨y1, y2, y3, y4⟩ := HYES.out i k hlt hklt hd.out hd2.out HLT.out HCB.out
                exact ⟨rfl, .tuple #[.int .i64 (i : Int), .int .i64 (k : Int), .bool false, .int .i64 0], by simp [results, Tryz.results63, go_sem], by rw [y1, y2, y3, y4], HU3.out⟩
              · go_wp2_with fail
                go_roundw
                case rel => exact ⟨k + 1, by omega, by omega, by go_num, fun b' hb' => by
                  by_cases e : b' = k
                  · subst e; rw [HCB.out]; simp
                  · exact hd2.out b' (by omega), HU3⟩
                case measure => simp [intOf]; omega
            · obtain rfl : k = l.length := by omega
              have HR := Lib.hid (HROW.out i hd2.out)
              go_wp2_with fail
              go_roundw
              case rel => exact ⟨i + 1, by omega, by go_num, fun a ha => by
                by_cases e : a = i
                · subst e; exact HR.out
                · exact hd.out a (by omega), hU2⟩
              case measure => simp [intOf]; omega
        · obtain rfl : i = l.length := by omega
          obtain ⟨y1, y2, y3, y4⟩ := HNO.out hd.out
          have HY : Hid (alP n l = 0 ∧ alQ n l = 0 ∧ alB n l = true ∧ allErr n l = 0) := ⟨y1, y2, y3, y4⟩
          clear y1 y2 y3 y4
          go_wp2_with fail
          exact ⟨rfl, .tuple #[.int .i64 0, .int .i64 0, .bool true, .int .i64 0], by simp [results, Tryz.results63, go_sem], by rw [HY.out.1, HY.out.2.1, HY.out.2.2.1, HY.out.2.2.2], hU.out⟩
set_option maxRecDepth 100000 in
set_option maxHeartbeats 4000000 in
theorem ofStates32_t (S : Nat → Prop) (w : World) (v : Value) (st : List Int) (h : IntsAt S w v st) (hn : st.length ≤ 1000000) :
    Calls Tryz.prog 65 #[v] w (OsPost w st) := by
  obtain ⟨p, cap, rfl, hcap, _⟩ := SlAt.open h
  have H : Hid (IntsAt S w (.slice p st.length cap) st) := h
  have HE : Hid (osErr st = if 32 < st.length then 4 else if (List.range st.length).any (fun j => badS (gi st j)) then 2 else 0) := rfl
  have HB : Hid (∀ s, badS s = (decide (s < -1) || decide (16 ≤ s))) := fun _ => rfl
  clear h
  by_cases h32 : 32 < st.length
  · have d1 : decide ((32 : Int) < (st.length : Int)) = true := decide_eq_true (by omega)
    have HZ : Hid (osErr st = 4) := by unfold Hid; rw [HE.out, if_pos h32]
    clear h32
    go_enter Tryz.func65, Tryz.ntmps65
    go_wp2_with fail
    exact ⟨rfl, .tuple #[.slice none 0 0, .bool false, .int .i64 4], by simp [results, Tryz.results65, go_sem], by have h := os_nil (w := w) (w' := w) (st := st) (by rw [HZ.out]; exact fun e => absurd e.1 (by decide)) (Up.refl _); rwa [HZ.out] at h⟩
  have d1 : decide ((32 : Int) < (st.length : Int)) = false := decide_eq_false (by omega)
  have n32 : st.length ≤ 32 := by omega
  have HE2 : Hid (osErr st = if (List.range st.length).any (fun j => badS (gi st j)) then 2 else 0) := by unfold Hid; rw [HE.out, if_neg h32]
  clear HE h32
  go_enter Tryz.func65, Tryz.ntmps65
  go_wp2_with fail
  go_loop [5] (fun i => ∃ k : Nat, k ≤ st.length ∧ i = .int .i64 k ∧ Hid (∀ j, j < k → badS (gi st j) = false)) (fun i => st.length - (intOf i).toNat)
  case atStart => exact ⟨0, Nat.zero_le _, rfl, fun j hj => absurd hj (Nat.not_lt_zero _)⟩
  case round =>
    obtain ⟨k, hk, rfl, hd⟩ := hrel
    by_cases hlt : k < st.length
    · obtain ⟨b, off, rfl, hc⟩ := ints_get H.out hlt
      have i1 : (0 : Int) ≤ (k : Int) := by omega
      have i2 : (k : Int) < (st.length : Int) := by omega
      have HOK := Lib.hid (HB.out (gi st k))
      have HLT := Lib.hid hlt
      have HAT : Hid (badS (gi st k) = true → osErr st = 2) := fun e => by rw [HE2.out, any_at (p := fun j => badS (gi st j)) hlt e]; rfl
      have HGO : Hid (badS (gi st k) = false → ∀ j, j < k + 1 → badS (gi st j) = false) := fun e j hj => if ej : j = k then by subst ej; exact e else hd.out j (by omega)
      generalize gi st k = x at *
      by_cases q1 : x < -1
      · have HZ := Lib.hid (HAT.out (by rw [HOK.out, decide_eq_true q1]; rfl))
        have f1 : decide (x < -1) = true := decide_eq_true q1
        clear q1
        go_wp2_with fail
        exact ⟨rfl, .tuple #[.slice none 0 0, .bool false, .int .i64 2], by simp [results, Tryz.results65, go_sem], by have h := os_nil (w := w) (w' := w) (st := st) (by rw [HZ.out]; exact fun e => absurd e.1 (by decide)) (Up.refl _); rwa [HZ.out] at h⟩
      have f1 : decide (x < -1) = false := decide_eq_false q1
      by_cases q2 : 16 ≤ x
      · have HZ := Lib.hid (HAT.out (by rw [HOK.out, decide_eq_true q2]; simp))
        have f2 : decide (16 ≤ x) = true := decide_eq_true q2
        clear q1 q2
        go_wp2_with fail
        exact ⟨rfl, .tuple #[.slice none 0 0, .bool false, .int .i64 2], by simp [results, Tryz.results65, go_sem], by have h := os_nil (w := w) (w' := w) (st := st) (by rw [HZ.out]; exact fun e => absurd e.1 (by decide)) (Up.refl _); rwa [HZ.out] at h⟩
      · have HG := Lib.hid (HGO.out (by rw [HOK.out, decide_eq_false q1, decide_eq_false q2]; rfl))
        have f2 : decide (16 ≤ x) = false := decide_eq_false q2
        clear q1 q2
        go_wp2_with fail
        go_round
        case rel => exact ⟨k + 1, HLT.out, by go_num, HG.out⟩
        case measure => have := HLT.out; simp [intOf]; omega
    · obtain rfl : k = st.length := by omega
      have hz : osErr st = 0 := by rw [HE2.out, any_none (p := fun j => badS (gi st j)) hd.out]; rfl
      have HZ := Lib.hid hz
      have HRF := Lib.hid (os_ref hz)
      have HM := Lib.hid (Owns.made w 3)
      have HNIL : Hid (∀ W, Up w W → osB st = false → OsPost w st (.returned (.tuple #[.slice none 0 0, .bool false, .int .i64 0])) W) := fun W hW hb => by
        have h := os_nil (st := st) (by rw [hb]; exact fun e => absurd e.2 (by decide)) hW
        rwa [hz] at h
      clear hlt hk hd HE2 hz HB
      go_wp2_with fail
      go_loopw [6, 7] (fun o i wr => ∃ k : Nat, k ≤ st.length ∧ i = .int .i64 k ∧ Hid (Owns w.heap.size 3 wr o ((osO st k).map (Value.int .i64))) ∧ Hid (Up w wr) ∧ Hid (∀ j, j < k → decide (0 ≤ gi st j) = true)) (fun _ i _ => st.length - (intOf i).toNat)
      case atStart => exact ⟨0, Nat.zero_le _, rfl, HM.out, Up.alloc _ _, fun j hj => absurd hj (Nat.not_lt_zero _)⟩
      case round =>
        obtain ⟨k, hk, rfl, hO, hUr, hd⟩ := hrel
        obtain ⟨wo, rfl⟩ : ∃ wo : World, wo = wr := ⟨_, rfl⟩
        by_cases hlt : k < st.length
        · obtain ⟨b, off, rfl, hc⟩ := ints_get (IntsAt.keep H.out (hUr.out.kept S)) hlt
          obtain ⟨b', off', e0, hc0⟩ := ints_get (IntsAt.keep H.out (hUr.out.kept S)) (show 0 < st.length by omega)
          injection e0 with e0
          injection e0 with e1 e2
          subst e1; subst e2
          rw [Nat.add_zero] at hc0
          have i1 : (0 : Int) ≤ (k : Int) := by omega
          have i2 : (k : Int) < (st.length : Int) := by omega
          have i3 : (k : Int) < 64 := by omega
          have i4 : (0 : Int) < (st.length : Int) := by omega
          have HSU := Lib.hid (osO_succ st k)
          have hll : (osO st k).length ≤ k := osO_len' st k
          have HLL : Hid (((osO st k).map (Value.int .i64)).length = (osO st k).length) := List.length_map _
          have HL6 : Hid ((osO st k).length ≤ 1000000) := by unfold Hid; omega
          have HLT := Lib.hid hlt
          have HUA := Lib.hid hUr.out
          have hsz := hUr.out.size
          have HNEG : Hid (decide (0 ≤ gi st k) = false → osB st = false) := fun e => by
            rw [HRF.out]
            have : (List.range st.length).all (fun i => decide (0 ≤ gi st i)) = false := by
              rw [Bool.eq_false_iff]; intro h
              rw [List.all_eq_true] at h
              have := h k (List.mem_range.2 hlt)
              rw [e] at this; cases this
            rw [this]; rfl
          have HGO : Hid (decide (0 ≤ gi st k) = true → ∀ j, j < k + 1 → decide (0 ≤ gi st j) = true) := fun e j hj => if ej : j = k then by subst ej; exact e else hd.out j (by omega)
          clear hlt hk hUr hd
          generalize gi st k = x at *
          generalize gi st 0 = y at *
          generalize (osO st k).length = ol at *
          by_cases q1 : x < 0
          · have HB0 := Lib.hid (HNEG.out (decide_eq_false (by omega)))
            have f1 : decide (x < 0) = true := decide_eq_true q1
            clear q1
            go_wp2_with fail
            exact ⟨rfl, .tuple #[.slice none 0 0, .bool false, .int .i64 0], by simp [results, Tryz.results65, go_sem], HNIL.out _ HUA.out HB0.out⟩
          have f1 : decide (x < 0) = false := decide_eq_false q1
          have HG := Lib.hid (HGO.out (decide_eq_true (by omega)))
          by_cases hxy : x = y
          · have hxy1 : (x != y) = false := by simp [hxy]
            have HS : Hid (osO st (k + 1) = osO st k) := by unfold Hid; rw [HSU.out, hxy1]; simp
            clear hxy q1
            go_wp2_with fail
            go_big_quiet (fail)
            go_wp2_with fail
            go_roundw
            case rel => exact ⟨k + 1, HLT.out, by go_num, by unfold Hid; rw [HS.out]; exact hO.out.kept fun _ _ _ => rfl, HUA.out.trans (Up.drewN _ nq), HG.out⟩
            case measure => have := HLT.out; simp [intOf]; omega
          · have hxy1 : (x != y) = true := by simpa using hxy
            have HS : Hid (osO st (k + 1) = osO st k ++ [(k : Int)]) := by unfold Hid; rw [HSU.out, hxy1]; rfl
            clear hxy q1
            go_wp2_with fail
            go_big_quiet (fail)
            have hO2 : Hid (Owns w.heap.size 3 (wo.drewN nq) u6 ((osO st k).map (Value.int .i64))) := hO.out.kept fun _ _ _ => rfl
            go_wp2_with (at_builtin; refine wpList_appM (wo.drewN nq) rfl _ _ 26 rfl w.heap.size 3 (.int .i64 0) 8 Tryz.underlying26 Tryz.infoI rfl (by decide) hO2.out rfl (.int .i64 k) _ rfl rfl rfl _ HLL.out HL6.out hsz ?_; intro g8 cap8 w8 hown1 hgr1 hbe1)
            go_roundw
            case rel => exact ⟨k + 1, HLT.out, by go_num, by unfold Hid; rw [HS.out, List.map_append]; exact hown1, Below.trans (HUA.out.trans (Up.drewN _ nq)) hbe1, HG.out⟩
            case measure => have := HLT.out; simp [intOf]; omega
        · obtain rfl : k = st.length := by omega
          have HKN : Hid ((List.range st.length).all (fun i => decide (0 ≤ gi st i)) = true) := List.all_eq_true.2 fun j hj => hd.out j (List.mem_range.1 hj)
          have HRF2 : Hid (osB st = ((List.range (osO st st.length).length).all (fun i => decide (gi st (gi (osO st st.length) i).toNat = gi st (gi (osO st st.length) 0).toNat)) && (decide (2 ≤ (osO st st.length).length) && decide ((osO st st.length).length + 2 ≤ st.length)))) := by unfold Hid; rw [HRF.out, HKN.out]; rfl
          have HEX : Hid (∀ j, j < (osO st st.length).length → ∃ q : Nat, gi (osO st st.length) j = (q : Int) ∧ q < st.length) := fun j hj => by
            obtain ⟨x0, x1, _⟩ := mem_osO.1 (gi_in hj)
            exact ⟨(gi (osO st st.length) j).toNat, by omega, by omega⟩
          have HRY : Hid (osB st = true → osR st = osO st st.length) := fun h => by unfold osR; rw [if_pos ⟨HZ.out, h⟩]
          have HVV : Hid (osV st = osB st) := by unfold Hid osV; rw [HZ.out]; rfl
          have hll : (osO st st.length).length ≤ st.length := osO_len' st _
          obtain ⟨op, oc, hov, _⟩ := Owns.form (n := (osO st st.length).length) hO.out (List.length_map _)
          have HOO := Lib.hid (IntsAt.sub (Owns.ints hO.out) (T := Any) fun _ _ _ => trivial)
          have HUo := Lib.hid hUr.out
          clear hlt hk hO hUr hd HRF HKN HM
          subst hov
          generalize hOg : osO st st.length = O at *
          clear hOg
          generalize osB st = ob at *
          go_wp2_with fail
          go_loopw [8] (fun i wr => ∃ k : Nat, k ≤ O.length ∧ i = .int .i64 k ∧ Hid (QD wo wr) ∧ Hid (∀ j, j < k → decide (gi st (gi O j).toNat = gi st (gi O 0).toNat) = true)) (fun i _ => O.length - (intOf i).toNat)
          case atStart => exact ⟨0, Nat.zero_le _, rfl, QD.refl _, fun j hj => absurd hj (Nat.not_lt_zero _)⟩
          case round =>
            obtain ⟨k, hk, rfl, hQ, hd⟩ := hrel
            obtain ⟨wq, rfl⟩ : ∃ wq : World, wq = wr := ⟨_, rfl⟩
            by_cases hlt : k < O.length
            · obtain ⟨b, off, rfl, hc⟩ := ints_get (IntsAt.keep HOO.out (hQ.out.kept _)) hlt
              obtain ⟨b', off', e0, hc0⟩ := ints_get (IntsAt.keep HOO.out (hQ.out.kept _)) (show 0 < O.length by omega)
              injection e0 with e0
              injection e0 with e1 e2
              subst e1; subst e2
              rw [Nat.add_zero] at hc0
              obtain ⟨q, hq, hql⟩ := HEX.out k hlt
              obtain ⟨q0, hq0, hql0⟩ := HEX.out 0 (by omega)
              obtain ⟨sb, so, rfl, hs⟩ := ints_get (IntsAt.keep H.out ((HUo.out.trans hQ.out.up).kept S)) hql
              obtain ⟨sb', so', e3, hs0⟩ := ints_get (IntsAt.keep H.out ((HUo.out.trans hQ.out.up).kept S)) hql0
              injection e3 with e3
              injection e3 with e4 e5
              subst e4; subst e5
              have HDK : Hid (decide (gi st (gi O k).toNat = gi st (gi O 0).toNat) = decide (gi st q = gi st q0)) := by unfold Hid; rw [hq, hq0, Int.toNat_natCast, Int.toNat_natCast]
              rw [hq] at hc
              rw [hq0] at hc0
              have i1 : (0 : Int) ≤ (k : Int) := by omega
              have i2 : (k : Int) < (O.length : Int) := by omega
              have i3 : (k : Int) < 64 := by omega
              have i4 : (0 : Int) < (O.length : Int) := by omega
              have j1 : (0 : Int) ≤ (q : Int) := by omega
              have j2 : (q : Int) < (st.length : Int) := by omega
              have j3 : (0 : Int) ≤ (q0 : Int) := by omega
              have j4 : (q0 : Int) < (st.length : Int) := by omega
              have HNEG : Hid (decide (gi st (gi O k).toNat = gi st (gi O 0).toNat) = false → ob = false) := fun e => by
                rw [HRF2.out]
                have : (List.range O.length).all (fun i => decide (gi st (gi O i).toNat = gi st (gi O 0).toNat)) = false := by
                  rw [Bool.eq_false_iff]; intro h
                  rw [List.all_eq_true] at h
                  have := h k (List.mem_range.2 hlt)
                  rw [e] at this; cases this
                rw [this]; rfl
              have HGO : Hid (decide (gi st (gi O k).toNat = gi st (gi O 0).toNat) = true → ∀ j, j < k + 1 → decide (gi st (gi O j).toNat = gi st (gi O 0).toNat) = true) := fun e j hj => if ej : j = k then by subst ej; exact e else hd.out j (by omega)
              rw [HDK.out] at HNEG HGO
              have HLT := Lib.hid hlt
              have HQo := Lib.hid hQ.out
              clear hlt hk hQ hd hq hq0 hql hql0 HDK
              generalize gi st q = x at *
              generalize gi st q0 = y at *
              by_cases hxy : x = y
              · have hxy1 : (x != y) = false := by simp [hxy]
                have HG := Lib.hid (HGO.out (decide_eq_true hxy))
                clear hxy HNEG HGO
                go_wp2_with fail
                go_big_quiet (fail)
                go_wp2_with fail
                go_roundw
                case rel => exact ⟨k + 1, HLT.out, by go_num, HQo.out.drewN nq, HG.out⟩
                case measure => have := HLT.out; simp [intOf]; omega
              · have hxy1 : (x != y) = true := by simpa using hxy
                have HB0 := Lib.hid (HNEG.out (decide_eq_false hxy))
                clear hxy HNEG HGO
                go_wp2_with fail
                go_big_quiet (fail)
                go_wp2_with fail
                exact ⟨rfl, .tuple #[.slice none 0 0, .bool false, .int .i64 0], by simp [results, Tryz.results65, go_sem], HNIL.out _ (HUo.out.trans (HQo.out.drewN nq).up) HB0.out⟩
            · obtain rfl : k = O.length := by omega
              have HAL : Hid ((List.range O.length).all (fun i => decide (gi st (gi O i).toNat = gi st (gi O 0).toNat)) = true) := List.all_eq_true.2 fun j hj => hd.out j (List.mem_range.1 hj)
              have HRF3 : Hid (ob = (decide (2 ≤ O.length) && decide (O.length + 2 ≤ st.length))) := by unfold Hid; rw [HRF2.out, HAL.out]; rfl
              have HUW := Lib.hid (HUo.out.trans hQ.out.up)
              have HOW := Lib.hid (IntsAt.keep HOO.out (hQ.out.kept _))
              have HNL := Lib.hid (HNIL.out wq HUW.out)
              clear hlt hk hQ hd HRF2 HAL HEX HUo HOO HNIL
              by_cases t1 : O.length < 2
              · have e1 : decide ((O.length : Int) < 2) = true := decide_eq_true (by omega)
                have HB0 := Lib.hid (HNL.out (by rw [HRF3.out, decide_eq_false (by omega)]; rfl))
                clear t1 HNL HRF3
                go_wp2_with fail
                exact ⟨rfl, .tuple #[.slice none 0 0, .bool false, .int .i64 0], by simp [results, Tryz.results65, go_sem], HB0.out⟩
              have e1 : decide ((O.length : Int) < 2) = false := decide_eq_false (by omega)
              by_cases t2 : O.length + 2 ≤ st.length
              · have e2 : decide ((st.length : Int) - (O.length : Int) < 2) = false := decide_eq_false (by omega)
                have HB1 : Hid (ob = true) := by unfold Hid; rw [HRF3.out, decide_eq_true t2, decide_eq_true (by omega)]; rfl
                have HRR := Lib.hid (HRY.out HB1.out)
                clear t1 t2 HNL HRF3
                go_wp2_with fail
                exact ⟨rfl, .tuple #[.slice op O.length oc, .bool true, .int .i64 0], by simp [results, Tryz.results65, go_sem], HUW.out, _, by rw [HVV.out, HB1.out, HZ.out], by rw [HRR.out]; exact HOW.out⟩
              · have e2 : decide ((st.length : Int) - (O.length : Int) < 2) = true := decide_eq_true (by omega)
                have HB0 := Lib.hid (HNL.out (by rw [HRF3.out, decide_eq_false t2]; simp))
                clear t1 t2 HNL HRF3
                go_wp2_with fail
                exact ⟨rfl, .tuple #[.slice none 0 0, .bool false, .int .i64 0], by simp [results, Tryz.results65, go_sem], HB0.out⟩
end Go.Proofs.YtcbmbhghmfehpaaGreat
namespace Go.Proofs.YtcbmbhghmfehpaaGreat
open Go.RowKit Go.Deep
set_option maxHeartbeats 400000 in
theorem rows_ix_d (g : Nat) (lb : Array Value) (eg : ∀ args w, (callFunc g args).run Tryz.prog w = .ok (.enter g args) w) (S : Nat → Prop) (w : World) (v : Value) (n : Nat) (f : Nat → Value) (p : Nat → Bool)
    (h : SlAt S w v n f) (hn : n ≤ 1000000) (hp : ∀ k, k < n → FnD g lb #[f k] (.bool (p k)) w) :
    Calls Tryz.prog 77 #[v, .func (.func g) #[] lb] w fun e w' => e = .returned (.int .i64 (firstIx p n)) ∧ ∃ q, w' = w.drewN q := by
  obtain ⟨q, cap, rfl, hcap, H⟩ := h.open
  have HP := Lib.hid hp
  clear h hp
  go_enter Tryz.func77, Tryz.ntmps77
  go_wp2_with fail
  go_loopw [5, 8] (fun _ i wr => ∃ k : Nat, k ≤ n ∧ i = .int .i64 k ∧ Hid (∀ j, j < k → p j = false) ∧ Hid (∃ m, wr = w.drewN m)) (fun _ i _ => n - (intOf i).toNat)
  case atStart => exact ⟨0, Nat.zero_le _, rfl, fun j hj => absurd hj (Nat.not_lt_zero _), 0, rfl⟩
  case round =>
    obtain ⟨k, hk, rfl, hd, hm⟩ := hrel
    obtain ⟨m, rfl⟩ := hm.out
    clear hm
    by_cases hlt : k < n
    · obtain ⟨b, off, rfl, hc⟩ := H k hlt
      have hc := (Up.drewN w m).cell hc
      clear H
      have hpk := HP.out k hlt
      unfold FnD at hpk
      have HPK := Lib.hid (hpk m)
      clear hpk HP
      generalize hv : p k = pk at *
      have HV := Lib.hid hv
      clear hv
      cases pk
      · go_wp2_with fail
        refine HPK.out.mono ?_
        rintro e w' ⟨rfl, m2, rfl⟩
        go_wp2_with fail
        go_roundw
        case rel => exact ⟨k + 1, by omega, by go_num, fun j hj => if e : j = k then by subst e; exact HV.out else hd.out j (by omega), m2, rfl⟩
        case measure => simp [intOf]; omega
      · go_wp2_with fail
        refine HPK.out.mono ?_
        rintro e w' ⟨rfl, m2, rfl⟩
        go_wp2_with fail
        go_ret
        exact ⟨ret_int (firstIx_at hlt hd.out HV.out).symm, m2, rfl⟩
    · clear H
      go_wp2_with fail
      go_ret
      exact ⟨ret_int (firstIx_none fun j hj => hd.out j (by omega)).symm, m, rfl⟩
set_option maxHeartbeats 400000 in
theorem rows_has_d (g : Nat) (lb : Array Value) (eg : ∀ args w, (callFunc g args).run Tryz.prog w = .ok (.enter g args) w) (S : Nat → Prop) (w : World) (v : Value) (n : Nat) (f : Nat → Value) (p : Nat → Bool)
    (h : SlAt S w v n f) (hn : n ≤ 1000000) (hp : ∀ k, k < n → FnD g lb #[f k] (.bool (p k)) w) :
    Calls Tryz.prog 20 #[v, .func (.func g) #[] lb] w fun e w' => e = .returned (.bool ((List.range n).any p)) ∧ ∃ q, w' = w.drewN q := by
  have hx := firstIx_any p n
  have HX := Lib.hid hx
  have HI := Lib.hid (rows_ix_d g lb eg S w v n f p h hn hp)
  obtain ⟨q, cap, rfl, -, -⟩ := SlAt.open h
  clear hx hp h eg
  go_enter Tryz.func20, Tryz.ntmps20
  go_wp2_with fail
  refine HI.out.mono ?_
  rintro e w' ⟨rfl, m, rfl⟩
  go_wp2_with fail
  go_ret
  exact ⟨ret_bool (by rw [← HX.out]), m, rfl⟩
end Go.Proofs.YtcbmbhghmfehpaaGreat
