/- Package intset: Intersect at sets; split.compatible, Compatible, pair, All. split.pair, All, Compatible. The laws SplitConflicts, SplitBack: plain. -/
import Derived.Test.YtcbmbhghmfehpaaGreatQ33
import Derived.Test.YtcbmbhghmfehpaaGreatQ28
import Derived.Test.YtcbmbhghmfehpaaGreatQ31
import Derived.Test.YtcbmbhghmfehpaaGreatQ22
namespace Go.Proofs.YtcbmbhghmfehpaaGreat
open Go.RowKit Go.Shelf Go.Deep
set_option maxRecDepth 100000 in
set_option maxHeartbeats 1000000 in
theorem combine_t (S : Nat → Prop) (w : World) (v u : Value) (a b : List Int) (h : IntsAt S w v a) (h2 : IntsAt S w u b) (ha : SetOk a) (hb : SetOk b) (hl : a.length ≤ 1000000) (hl2 : b.length ≤ 1000000) :
    Calls Tryz.prog 188 #[v, u, .func (.func 189) #[] #[]] w fun e w' => Up w w' ∧ ∃ u, e = .returned (.tuple #[u, .int .i64 0]) ∧ Owns w.heap.size 3 w' u ((interL a b).map (Value.int .i64)) := by
  have hu0 := Up.alloc w (.cells #[.func (.func 189) #[] #[]] 206)
  have hb0 := box1_0 w (.func (.func 189) #[] #[]) 206
  obtain ⟨p, cap, rfl, -, -⟩ := SlAt.open h
  obtain ⟨p2, cap2, rfl, -, -⟩ := SlAt.open h2
  have H : Hid (IntsAt S w (.slice p a.length cap) a) := h
  have H2 : Hid (IntsAt S w (.slice p2 b.length cap2) b) := h2
  have HA := Lib.hid ha
  have HB := Lib.hid hb
  have HU0 := Lib.hid hu0
  have HB0 := Lib.hid hb0
  have HC1 : Hid (∀ W, Up w W → Calls Tryz.prog 125 #[.slice p a.length cap] W fun e w' => e = .returned (.int .i64 0) ∧ W = w') := fun W hW => by
    have h := setCheck_t S W _ a (IntsAt.keep H.out (hW.kept _)) hl
    rw [setErr_zero.2 ha] at h; exact h
  have HC2 : Hid (∀ W, Up w W → Calls Tryz.prog 125 #[.slice p2 b.length cap2] W fun e w' => e = .returned (.int .i64 0) ∧ W = w') := fun W hW => by
    have h := setCheck_t S W _ b (IntsAt.keep H2.out (hW.kept _)) hl2
    rw [setErr_zero.2 hb] at h; exact h
  have REST : Hid (∀ w3 B1 B2 b5 b8 b9 c1 c2, Up w w3 → w3.cell? ⟨B1, 0, none⟩ = some (.int .i64 64) → w3.cell? ⟨B2, 0, none⟩ = some (.func (.func 220) #[] #[.pointer (some ⟨b5, 0, none⟩), .pointer (some ⟨b8, 0, none⟩), .pointer (some ⟨b9, 0, none⟩)]) → w3.cell? ⟨b5, 0, none⟩ = some (.func (.func 189) #[] #[]) →
      w3.cell? ⟨b8, 0, none⟩ = some (.func (.func 194) #[] #[.pointer (some ⟨c1, 0, none⟩)]) → w3.cell? ⟨b9, 0, none⟩ = some (.func (.func 194) #[] #[.pointer (some ⟨c2, 0, none⟩)]) → w3.cell? ⟨c1, 0, none⟩ = some (.slice p a.length cap) → w3.cell? ⟨c2, 0, none⟩ = some (.slice p2 b.length cap2) →
      Calls Tryz.prog 153 #[.func (.func 197) #[] #[.pointer (some ⟨B1, 0, none⟩), .pointer (some ⟨B2, 0, none⟩)]] w3 (AqPost w3 (interL a b))) := fun w3 B1 B2 b5 b8 b9 c1 c2 hu q1 q2 q5 q8 q9 r1 r2 => by
    have hks : ∀ W', KS (· < w3.heap.size) w3 W' → ∀ b o x, w3.cell? ⟨b, o, none⟩ = some x → W'.cell? ⟨b, o, none⟩ = some x := fun W' hW b o x hc => (hW.cell (p := ⟨b, o, none⟩) (World.block_lt_of_cell? w3 _ hc)).trans hc
    refine collectM_t w3 B1 B2 64 (Nat.le_refl _) (fun x => a.contains x && b.contains x) 220 _ (enters_of Tryz.func220 (by kernel_rfl) rfl) q1 q2 fun k hk W' hW' => ?_
    exact inter1_t (· < w3.heap.size) W' b5 b8 b9 c1 c2 _ _ a b k (hks W' hW' _ _ _ q5) (hks W' hW' _ _ _ q8) (hks W' hW' _ _ _ q9) (hks W' hW' _ _ _ r1) (SlAt.keep (IntsAt.sub (IntsAt.keep H.out (hu.kept _)) fun b _ hb => hb) fun b hb _ => hW' b hb) hl HA.out.asc (hks W' hW' _ _ _ r2) (SlAt.keep (IntsAt.sub (IntsAt.keep H2.out (hu.kept _)) fun b _ hb => hb) fun b hb _ => hW' b hb) hl2 HB.out.asc
  have FIN : Hid (∀ w3 e w', Up w w3 → AqPost w3 (interL a b) e w' → ∃ u, e = .returned u ∧ Up w w' ∧ Owns w.heap.size 3 w' u ((interL a b).map (Value.int .i64))) := fun w3 e w' hu ⟨h1, u, he, h2⟩ => ⟨u, he, hu.trans h1, by
    obtain ⟨hl, h | ⟨g, cap, cur, hv, hg, hc, hr⟩⟩ := h2
    · exact ⟨hl, .inl h⟩
    · exact ⟨hl, .inr ⟨g, cap, cur, hv, Nat.le_trans hu.size hg, hc, hr⟩⟩⟩
  clear h h2 ha hb hu0 hb0
  go_enter Tryz.func188, Tryz.ntmps188
  go_wp2_with fail
  generalize w.alloc (.cells #[.func (.func 189) #[] #[]] 206) = w0 at *
  refine (HC1.out w0 HU0.out).mono ?_
  rintro e w0' ⟨rfl, rfl⟩
  go_wp2_with fail
  refine (HC2.out w0 HU0.out).mono ?_
  rintro e w0' ⟨rfl, rfl⟩
  go_wp2_with fail
  refine (has_t _ _ _ _).mono ?_
  rintro e w1 ⟨rfl, hw1⟩
  have hu1 := Up.alloc w0 (.cells #[.slice p a.length cap] 26)
  have hb1 := box1_0 w0 (.slice p a.length cap) 26
  rw [← hw1] at hu1 hb1
  have HU1 := Lib.hid hu1
  have HB1 := Lib.hid hb1
  clear hw1 hu1 hb1
  go_wp2_with fail
  refine (has_t _ _ _ _).mono ?_
  rintro e w2 ⟨rfl, hw2⟩
  have hu2 := Up.alloc w1 (.cells #[.slice p2 b.length cap2] 26)
  have hb2 := box1_0 w1 (.slice p2 b.length cap2) 26
  rw [← hw2] at hu2 hb2
  have HU2 := Lib.hid hu2
  have HB2 := Lib.hid hb2
  clear hw2 hu2 hb2
  go_wp2_with fail
  obtain ⟨t1, t2, t3⟩ := two_boxes w2 (.func (.func 194) #[] #[.pointer (some ⟨w0.heap.size, 0, none⟩)]) (.func (.func 194) #[] #[.pointer (some ⟨w1.heap.size, 0, none⟩)]) 93 93
  generalize (w2.alloc (.cells #[.func (.func 194) #[] #[.pointer (some ⟨w0.heap.size, 0, none⟩)]] 93)).alloc (.cells #[.func (.func 194) #[] #[.pointer (some ⟨w1.heap.size, 0, none⟩)]] 93) = w3 at *
  refine (members_t _ _ _ _).mono ?_
  rintro e w4 ⟨rfl, hw4⟩
  obtain ⟨m1, m2, m3⟩ := two_boxes w3 (.int .i64 64) (.func (.func 220) #[] #[.pointer (some ⟨w.heap.size, 0, none⟩), .pointer (some ⟨w2.heap.size, 0, none⟩), .pointer (some ⟨w2.heap.size + 1, 0, none⟩)]) 3 93
  rw [← hw4] at m1 m2 m3
  have h24 := t1.trans m1
  have h14 := HU2.out.trans h24
  have h04 := HU1.out.trans h14
  have HU4 : Hid (Up w w4) := HU0.out.trans h04
  have HR := Lib.hid (REST.out w4 _ _ _ _ _ _ _ HU4.out m2 m3 (h04.cell HB0.out) (m1.cell t2) (m1.cell t3) (h14.cell HB1.out) (h24.cell HB2.out))
  clear hw4 m1 m2 m3 t1 t2 t3 h24 h14 h04
  go_wp2_with fail
  refine HR.out.mono ?_
  rintro e w5 hp
  obtain ⟨u, rfl, h4, h5⟩ := FIN.out w4 e w5 HU4.out hp
  have H4 := Lib.hid h4
  have H5 := Lib.hid h5
  clear hp h4 h5
  go_wp2_with fail
  exact ⟨rfl, .tuple #[_, _], by simp [results, Tryz.results188, go_sem], H4.out, _, rfl, H5.out⟩
set_option maxHeartbeats 400000 in
theorem intersect_t (S : Nat → Prop) (w : World) (v u : Value) (a b : List Int) (h : IntsAt S w v a) (h2 : IntsAt S w u b) (ha : SetOk a) (hb : SetOk b) (hl : a.length ≤ 1000000) (hl2 : b.length ≤ 1000000) :
    Calls Tryz.prog 141 #[v, u] w fun e w' => Up w w' ∧ ∃ u, e = .returned (.tuple #[u, .int .i64 0]) ∧ Owns w.heap.size 3 w' u ((interL a b).map (Value.int .i64)) := by
  have HC := Lib.hid (combine_t S w v u a b h h2 ha hb hl hl2)
  obtain ⟨p, cap, rfl, -, -⟩ := SlAt.open h
  obtain ⟨p2, cap2, rfl, -, -⟩ := SlAt.open h2
  clear h h2
  go_enter Tryz.func141, Tryz.ntmps141
  go_wp2_with fail
  refine HC.out.mono ?_
  rintro e w' ⟨h1, u, rfl, h2⟩
  have H1 := Lib.hid h1
  have H2 := Lib.hid h2
  clear h1 h2
  go_wp2_with fail
  exact ⟨rfl, .tuple #[_, _], by simp [results, Tryz.results141, go_sem], H1.out, _, rfl, H2.out⟩
set_option maxRecDepth 100000 in
set_option maxHeartbeats 1000000 in
theorem compat_t (S : Nat → Prop) (w : World) (v u : Value) (a b : List Int) (h : IntsAt S w v a) (h2 : IntsAt S w u b) (ha : SetOk a) (hb : SetOk b) (hl : a.length ≤ 1000000) (hl2 : b.length ≤ 1000000) :
    Calls Tryz.prog 78 #[v, u] w fun e w' => e = .returned (.bool (compB a b)) ∧ Up w w' := by
  have HC := Lib.hid (intersect_t S w v u a b h h2 ha hb hl hl2)
  have HF : Hid (compB a b = (decide ((interL a b).length = 0) || decide ((interL a b).length = a.length) || decide ((interL a b).length = b.length))) := rfl
  obtain ⟨p, cap, rfl, -, -⟩ := SlAt.open h
  obtain ⟨p2, cap2, rfl, -, -⟩ := SlAt.open h2
  have HM : Hid ((interL a b).length ≤ 64) := memK_len _ _
  clear h h2
  go_enter Tryz.func78, Tryz.ntmps78
  go_wp2_with fail
  refine HC.out.mono ?_
  rintro e w' ⟨h1, u, rfl, h2⟩
  obtain ⟨q, c, rfl, _⟩ := h2.form (n := (interL a b).length) (by rw [List.length_map])
  have H1 := Lib.hid h1
  clear h1 h2
  generalize (interL a b).length = m at *
  generalize a.length = x at *
  generalize b.length = y at *
  by_cases e0 : m = 0
  · have d : ((m : Int) == 0) = true := by simpa using e0
    have HE := Lib.hid e0
    clear e0
    go_wp2_with fail
    go_ret
    exact ⟨ret_bool (by rw [HF.out, decide_eq_true HE.out]; rfl), H1.out⟩
  have d0 : ((m : Int) == 0) = false := beq_eq_false_iff_ne.2 (by omega)
  have HE0 := Lib.hid e0
  clear e0
  by_cases e1 : m = x
  · have d1 : ((m : Int) == (x : Int)) = true := by subst e1; simp
    have HE := Lib.hid e1
    clear e1
    go_wp2_with fail
    go_ret
    exact ⟨ret_bool (by rw [HF.out, decide_eq_true HE.out]; simp), H1.out⟩
  have d1 : ((m : Int) == (x : Int)) = false := beq_eq_false_iff_ne.2 (by omega)
  have HE1 := Lib.hid e1
  clear e1
  by_cases e2 : m = y
  · have d2 : ((m : Int) == (y : Int)) = true := by subst e2; simp
    have HE := Lib.hid e2
    clear e2
    go_wp2_with fail
    go_ret
    exact ⟨ret_bool (by rw [HF.out, decide_eq_true HE.out]; simp), H1.out⟩
  · have d2 : ((m : Int) == (y : Int)) = false := beq_eq_false_iff_ne.2 (by omega)
    have HE2 := Lib.hid e2
    clear e2
    go_wp2_with fail
    go_ret
    exact ⟨ret_bool (by rw [HF.out, decide_eq_false HE0.out, decide_eq_false HE1.out, decide_eq_false HE2.out]; rfl), H1.out⟩
end Go.Proofs.YtcbmbhghmfehpaaGreat
namespace Go.Proofs.YtcbmbhghmfehpaaGreat
open Go.RowKit Go.Shelf Go.Deep
theorem setok_len {s : List Int} (h : SetOk s) : s.length ≤ 64 := by
  have h1 := asc_sub_len h.asc (memK_asc (fun _ => true) 64) (fun x hx => mem_memK.2 (by have := h.bd x hx; exact ⟨by omega, by omega, rfl⟩))
  have h2 := memK_len (fun _ => true) 64
  omega
def prI (l : List (List Int)) : Int := if pairI l < 0 then 0 else pairI l
def prK (l : List (List Int)) : Int := if pairI l < 0 then 0 else pairK l
def prB (l : List (List Int)) : Bool := decide (pairI l < 0)
set_option maxRecDepth 100000 in
set_option maxHeartbeats 2000000 in
theorem pair_t (S : Nat → Prop) (w : World) (v : Value) (l : List (List Int)) (h : RowsAt S w v l) (ho : ∀ k, k < l.length → SetOk (gl l k)) (hn : l.length ≤ 1000) :
    Calls Tryz.prog 97 #[v] w fun e w' => e = .returned (.tuple #[.int .i64 (prI l), .int .i64 (prK l), .bool (prB l)]) ∧ Up w w' := by
  obtain ⟨p, cap, rfl, -, -⟩ := rows_open h
  have H : Hid (RowsAt S w (.slice p l.length cap) l) := h
  have HO := Lib.hid ho
  have HNO : Hid ((∀ a, a < l.length → decide (0 ≤ rowPair l a) = false) → prI l = 0 ∧ prK l = 0 ∧ prB l = true) := fun hno => by
    have h1 : pairI l = -1 := firstIx_none hno
    unfold prI prK prB
    rw [h1]; exact ⟨rfl, rfl, rfl⟩
  have HYES : Hid (∀ i k, i < l.length → k < l.length → (∀ a, a < i → decide (0 ≤ rowPair l a) = false) → (∀ b, b < k → (decide (i < b) && !compB (gl l i) (gl l b)) = false) → i < k → compB (gl l i) (gl l k) = false → prI l = i ∧ prK l = k ∧ prB l = false) := fun i k hi hk h1 h2 hik hc => by
    have r : rowPair l i = k := firstIx_at hk h2 (by rw [decide_eq_true hik, hc]; rfl)
    have q : pairI l = i := firstIx_at hi h1 (by rw [r]; exact decide_eq_true (by omega))
    have q2 : pairK l = k := by unfold pairK; rw [q, Int.toNat_natCast]; exact r
    unfold prI prK prB
    rw [q, q2, if_neg (by omega), if_neg (by omega)]
    exact ⟨rfl, rfl, decide_eq_false (by omega)⟩
  have HROW : Hid (∀ i, (∀ b, b < l.length → (decide (i < b) && !compB (gl l i) (gl l b)) = false) → decide (0 ≤ rowPair l i) = false) := fun i hno => by
    have h1 : rowPair l i = -1 := firstIx_none hno
    rw [h1]; rfl
  have n3 : (l.length : Int) ≤ 1000 := by omega
  clear h ho
  go_enter Tryz.func97, Tryz.ntmps97
  go_wp2_with fail
  go_loopw [5, 6, 9] (fun _ _ i wr => ∃ k : Nat, k ≤ l.length ∧ i = .int .i64 k ∧ Hid (∀ a, a < k → decide (0 ≤ rowPair l a) = false) ∧ Hid (Up w wr)) (fun _ _ i _ => l.length - (intOf i).toNat)
  case atStart => exact ⟨0, Nat.zero_le _, rfl, fun j hj => absurd hj (Nat.not_lt_zero _), Up.refl _⟩
  case round =>
    obtain ⟨i, hi, rfl, hd, hU⟩ := hrel
    obtain ⟨wo, rfl⟩ : ∃ wo : World, wo = wr := ⟨_, rfl⟩
    by_cases hlt : i < l.length
    · have i1 : (0 : Int) ≤ (i : Int) := Int.natCast_nonneg _
      have i2 : (i : Int) < (l.length : Int) := Int.ofNat_lt.2 hlt
      have i3 : (i : Int) < 1000 := by omega
      go_wp2_with fail
      go_loopw [6] (fun i2 wr => ∃ k : Nat, i + 1 ≤ k ∧ k ≤ l.length ∧ i2 = .int .i64 k ∧ Hid (∀ b, b < k → (decide (i < b) && !compB (gl l i) (gl l b)) = false) ∧ Hid (Up w wr)) (fun i2 _ => l.length - (intOf i2).toNat)
      case atStart => exact ⟨i + 1, Nat.le_refl _, by omega, by go_num, fun b hb => by rw [decide_eq_false (by omega)]; rfl, hU⟩
      case round =>
        obtain ⟨k, hk0, hk, rfl, hd2, hU2⟩ := hrel
        obtain ⟨wq, rfl⟩ : ∃ wq : World, wq = wr := ⟨_, rfl⟩
        by_cases hklt : k < l.length
        · obtain ⟨b, off, q, c, rfl, hc, hr⟩ := rows_get H.out hlt
          obtain ⟨b2, off2, q2, c2, e2, hc2, hr2⟩ := rows_get H.out hklt
          cases e2
          have HC1 := Lib.hid (hU2.out.cell hc)
          have HC2 := Lib.hid (hU2.out.cell hc2)
          have k1 : (0 : Int) ≤ (k : Int) := Int.natCast_nonneg _
          have k2 : (k : Int) < (l.length : Int) := Int.ofNat_lt.2 hklt
          have k3 : (k : Int) < 1000 := by omega
          have HCO : Hid (∀ W, Up wq W → Calls Tryz.prog 78 #[.slice q (gl l i).length c, .slice q2 (gl l k).length c2] W fun e w' => e = .returned (.bool (compB (gl l i) (gl l k))) ∧ Up W w') := fun W hW =>
            compat_t S W _ _ _ _ (IntsAt.keep hr ((hU2.out.trans hW).kept _)) (IntsAt.keep hr2 ((hU2.out.trans hW).kept _)) (HO.out i hlt) (HO.out k hklt) (by have := setok_len (HO.out i hlt); omega) (by have := setok_len (HO.out k hklt); omega)
          have HLT : Hid (i < k) := by unfold Hid; omega
          clear hc hc2 hr hr2
          have hup : Hid (Up wq (wq.drewN 1)) := Up.drewN wq 1
          generalize hcb : compB (gl l i) (gl l k) = cb at *
          have HCB := Lib.hid hcb
          clear hcb
          generalize (gl l i).length = x at *
          generalize (gl l k).length = y at *
          go_wp2_with fail
          go_region_held3 (fun w' => Hid (Up wq w') ∧ w'.cell? ⟨b, off + i, none⟩ = some (.slice q x c) ∧ w'.cell? ⟨b, off + k, none⟩ = some (.slice q2 y c2)) (exact ⟨hup, hup.out.cell HC1.out, hup.out.cell HC2.out⟩) (first
            | (go_at_call 78; refine (HCO.out _ hup.out).mono ?_; rintro e w9 ⟨rfl, hb9⟩; have hup : Hid (Up wq w9) := hup.out.trans hb9; clear hb9))
          have HU3 : Hid (Up w _) := hU2.out.trans hup.out
          clear hup HCO HC1 HC2
          cases cb
          · go_wp2_with fail
            obtain ⟨y1, y2, y3⟩ := HYES.out i k hlt hklt hd.out hd2.out HLT.out HCB.out
            exact ⟨rfl, .tuple #[.int .i64 (i : Int), .int .i64 (k : Int), .bool false], by simp [results, Tryz.results97, go_sem], by rw [y1, y2, y3], HU3.out⟩
          · go_wp2_with fail
            go_roundw
            case rel => exact ⟨k + 1, by omega, by omega, by go_num, fun b' hb' => by
              by_cases e : b' = k
              · subst e; rw [HCB.out]; simp
              · exact hd2.out b' (by omega), HU3⟩
            case measure => simp [intOf]; omega
        · obtain rfl : k = l.length := by omega
          have HR := Lib.hid (HROW.out i hd2.out)
          go_wp2_with fail
          go_roundw
          case rel => exact ⟨i + 1, by omega, by go_num, fun a ha => by
            by_cases e : a = i
            · subst e; exact HR.out
            · exact hd.out a (by omega), hU2⟩
          case measure => simp [intOf]; omega
    · obtain rfl : i = l.length := by omega
      obtain ⟨y1, y2, y3⟩ := HNO.out hd.out
      have HY : Hid (prI l = 0 ∧ prK l = 0 ∧ prB l = true) := ⟨y1, y2, y3⟩
      clear y1 y2 y3
      go_wp2_with fail
      exact ⟨rfl, .tuple #[.int .i64 0, .int .i64 0, .bool true], by simp [results, Tryz.results97, go_sem], by rw [HY.out.1, HY.out.2.1, HY.out.2.2], hU.out⟩
def alP (n : Int) (l : List (List Int)) : Int := if allErr n l = 0 then prI l else 0
def alQ (n : Int) (l : List (List Int)) : Int := if allErr n l = 0 then prK l else 0
def alB (n : Int) (l : List (List Int)) : Bool := decide (allErr n l = 0) && prB l
theorem al_bad {n : Int} {l : List (List Int)} (h : allErr n l ≠ 0) : alP n l = 0 ∧ alQ n l = 0 ∧ alB n l = false := by
  unfold alP alQ alB
  rw [if_neg h, if_neg h, decide_eq_false h]; exact ⟨rfl, rfl, rfl⟩
theorem al_good {n : Int} {l : List (List Int)} (h : allErr n l = 0) : alP n l = prI l ∧ alQ n l = prK l ∧ alB n l = prB l := by
  unfold alP alQ alB
  rw [if_pos h, if_pos h, decide_eq_true h]; exact ⟨rfl, rfl, rfl⟩
set_option maxRecDepth 100000 in
set_option maxHeartbeats 1000000 in
theorem all_t (S : Nat → Prop) (w : World) (v : Value) (n : Int) (l : List (List Int)) (h : RowsAt S w v l) (hn : l.length ≤ 1000000) (hr : ∀ k, (gl l k).length ≤ 1000000) :
    Calls Tryz.prog 38 #[.int .i64 n, v] w fun e w' => e = .returned (.tuple #[.int .i64 (alP n l), .int .i64 (alQ n l), .bool (alB n l), .int .i64 (allErr n l)]) ∧ Up w w' := by
  have HF : Hid (allErr n l = if 64 < l.length then 4 else if n < 1 ∨ 32 < n then 2 else firstNZ (fun k => splErr n (gl l k)) l.length) := rfl
  obtain ⟨p, cap, rfl, -, -⟩ := rows_open h
  have H : Hid (RowsAt S w (.slice p l.length cap) l) := h
  have HR := Lib.hid hr
  clear h hr
  by_cases h1 : 64 < l.length
  · have HE : Hid (allErr n l = 4) := by unfold Hid; rw [HF.out, if_pos h1]
    go_enter Tryz.func38, Tryz.ntmps38
    go_wp2_with fail
    exact ⟨rfl, .tuple #[.int .i64 0, .int .i64 0, .bool false, .int .i64 4], by simp [results, Tryz.results38, go_sem], by obtain ⟨y1, y2, y3⟩ := al_bad (show allErr n l ≠ 0 by rw [HE.out]; decide); rw [y1, y2, y3, HE.out], Up.refl _⟩
  by_cases h2 : n < 1
  · have HE : Hid (allErr n l = 2) := by unfold Hid; rw [HF.out, if_neg h1, if_pos (.inl h2)]
    go_enter Tryz.func38, Tryz.ntmps38
    go_wp2_with fail
    exact ⟨rfl, .tuple #[.int .i64 0, .int .i64 0, .bool false, .int .i64 2], by simp [results, Tryz.results38, go_sem], by obtain ⟨y1, y2, y3⟩ := al_bad (show allErr n l ≠ 0 by rw [HE.out]; decide); rw [y1, y2, y3, HE.out], Up.refl _⟩
  by_cases h3 : 32 < n
  · have HE : Hid (allErr n l = 2) := by unfold Hid; rw [HF.out, if_neg h1, if_pos (.inr h3)]
    go_enter Tryz.func38, Tryz.ntmps38
    go_wp2_with fail
    exact ⟨rfl, .tuple #[.int .i64 0, .int .i64 0, .bool false, .int .i64 2], by simp [results, Tryz.results38, go_sem], by obtain ⟨y1, y2, y3⟩ := al_bad (show allErr n l ≠ 0 by rw [HE.out]; decide); rw [y1, y2, y3, HE.out], Up.refl _⟩
  have HE : Hid (allErr n l = firstNZ (fun k => splErr n (gl l k)) l.length) := by unfold Hid; rw [HF.out, if_neg h1, if_neg (by omega)]
  have HP : Hid ((∀ k, k < l.length → splErr n (gl l k) = 0) → Calls Tryz.prog 97 #[.slice p l.length cap] w fun e w' => e = .returned (.tuple #[.int .i64 (prI l), .int .i64 (prK l), .bool (prB l)]) ∧ Up w w') := fun ho => pair_t S w _ l H.out (fun k hk => (splErr_zero.1 (ho k hk)).set) (by omega)
  have n64 : (l.length : Int) ≤ 64 := by omega
  clear HF
  go_enter Tryz.func38, Tryz.ntmps38
  go_wp2_with fail
  go_loop [9, 10, 27] (fun _ _ i => ∃ k : Nat, k ≤ l.length ∧ i = .int .i64 k ∧ Hid (∀ j, j < k → splErr n (gl l j) = 0)) (fun _ _ i => l.length - (intOf i).toNat)
  case atStart => exact ⟨0, Nat.zero_le _, rfl, fun j hj => absurd hj (Nat.not_lt_zero _)⟩
  case round =>
    obtain ⟨k, hk, rfl, hd⟩ := hrel
    by_cases hlt : k < l.length
    · obtain ⟨b, off, q, c, rfl, hc, hi⟩ := rows_get H.out hlt
      have HC := Lib.hid (splCheck_t S w _ n (gl l k) hi (HR.out k))
      clear hi
      generalize hse : splErr n (gl l k) = se at *
      have HSE := Lib.hid hse
      clear hse
      by_cases h0 : se = 0
      · have HZ := Lib.hid h0
        subst h0
        go_wp2_with fail
        refine HC.out.mono ?_
        rintro e w' ⟨rfl, rfl⟩
        go_wp2_with fail
        go_round
        case rel => exact ⟨k + 1, by omega, by go_num, fun j hj => by
          by_cases e : j = k
          · subst e; exact HSE.out
          · exact hd.out j (by omega)⟩
        case measure => simp [intOf]; omega
      · have HZ := Lib.hid h0
        have d1 : (se == 0) = false := by simpa using h0
        have d2 : (se != 0) = true := by simpa using h0
        clear h0
        go_wp2_with fail
        refine HC.out.mono ?_
        rintro e w' ⟨rfl, rfl⟩
        go_wp2_with fail
        have he : allErr n l = se := by rw [HE.out, firstNZ_at (f := fun k => splErr n (gl l k)) hlt hd.out (by rw [HSE.out]; exact HZ.out)]; exact HSE.out
        exact ⟨rfl, .tuple #[.int .i64 0, .int .i64 0, .bool false, .int .i64 se], by simp [results, Tryz.results38, go_sem], by obtain ⟨y1, y2, y3⟩ := al_bad (show allErr n l ≠ 0 by rw [he]; exact HZ.out); rw [y1, y2, y3, he], Up.refl _⟩
    · obtain rfl : k = l.length := by omega
      have HQ := Lib.hid (HP.out hd.out)
      have HZ : Hid (allErr n l = 0) := by unfold Hid; rw [HE.out]; exact firstNZ_zero hd.out
      clear hlt
      go_wp2_with fail
      refine HQ.out.mono ?_
      rintro e w' ⟨rfl, hu⟩
      have HU := Lib.hid hu
      clear hu
      go_wp2_with fail
      exact ⟨rfl, .tuple #[.int .i64 (prI l), .int .i64 (prK l), .bool (prB l), .int .i64 0], by simp [results, Tryz.results38, go_sem], by obtain ⟨y1, y2, y3⟩ := al_good HZ.out; rw [y1, y2, y3, HZ.out], HU.out⟩
end Go.Proofs.YtcbmbhghmfehpaaGreat
namespace Go.Proofs.YtcbmbhghmfehpaaGreat
open Go.RowKit Go.Deep
theorem back_law {names : List ByteArray} {l : List (List Int)} (h : bldErr names l = 0) : splOErr (bldR names l) names = 0 ∧ splO (bldR names l) names = ordX l ∧ treeErr (bldR names l) = 0 := by
  have hk := bldErr_ok.1 h
  have hr : bldR names l = bldT names l := by unfold bldR; rw [if_pos h]
  rw [hr]
  by_cases h3 : 3 ≤ names.length
  · obtain ⟨a, b⟩ := bld_back hk (own_small hk h3)
    exact ⟨splO_ok.2 a, b, a.te⟩
  · have hf := hk.few (by omega)
    have hsm : 3 + (ownQ l).length + (names.length - 1) ≤ 64 := by rw [hf]; simp [ownQ, sortQ, cptX]; omega
    obtain ⟨a, b⟩ := bld_back hk hsm
    exact ⟨splO_ok.2 a, b, a.te⟩
end Go.Proofs.YtcbmbhghmfehpaaGreat
