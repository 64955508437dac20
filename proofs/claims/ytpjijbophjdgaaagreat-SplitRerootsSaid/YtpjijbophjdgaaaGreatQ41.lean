/- Package intset: Complement and Intersect at sets. Package intset: Complement and Intersect at sets: the contracts. Package intset: Intersect at sets; split.compatible, Compatible, pair, All. -/
import Derived.Test.YtpjijbophjdgaaaGreatQ40
import Derived.Test.YtpjijbophjdgaaaGreatQ38
namespace Go.Proofs.YtpjijbophjdgaaaGreat
open Go.RowKit Go.Shelf Go.Deep
theorem members_t (w : World) (n : Int) (g : Nat) (lb : Array Value) :
    Calls Tryz.prog 157 #[.int .i64 n, .func (.func g) #[] lb] w fun e w' => e = .returned (.func (.func 196) #[] #[.pointer (some ⟨w.heap.size, 0, none⟩), .pointer (some ⟨w.heap.size + 1, 0, none⟩)]) ∧ w' = (w.alloc (.cells #[.int .i64 n] 3)).alloc (.cells #[.func (.func g) #[] lb] 78) := by
  go_enter Tryz.func157, Tryz.ntmps157
  go_wp2_with fail
  go_ret
  exact ⟨by simp, rfl⟩
set_option maxRecDepth 100000 in
theorem collectM_t (w : World) (B1 B2 N : Nat) (hN : N ≤ 64) (p : Int → Bool) (gf : Nat) (lbf : Array Value) (eg : ∀ args w, (callFunc gf args).run Tryz.prog w = .ok (.enter gf args) w)
    (hc1 : w.cell? ⟨B1, 0, none⟩ = some (.int .i64 (N : Int))) (hc2 : w.cell? ⟨B2, 0, none⟩ = some (.func (.func gf) #[] lbf))
    (hIs : ∀ k : Nat, k < N → ∀ W', KS (· < w.heap.size) w W' → Calls Tryz.prog gf (#[.int .i64 k] ++ lbf) W' fun e w' => e = .returned (.bool (p k)) ∧ ∃ q, w' = W'.drewN q) :
    Calls Tryz.prog 156 #[.func (.func 196) #[] #[.pointer (some ⟨B1, 0, none⟩), .pointer (some ⟨B2, 0, none⟩)]] w (AqPost w (memK p N)) := by
  have hB1 : B1 < w.heap.size := World.block_lt_of_cell? w _ hc1
  have hB2 : B2 < w.heap.size := World.block_lt_of_cell? w _ hc2
  have HA := Lib.hid (appendSeqG_t w 196 #[.pointer (some ⟨B1, 0, none⟩), .pointer (some ⟨B2, 0, none⟩)] (enters_of Tryz.func196 (by kernel_rfl) rfl) (memK p N) (fun w6 hu6 l J Jx W hW hJ _ hY h0 => by
    have hks : KS (· < w.heap.size) w W := fun b hb => (hW.block b (by have := hu6.size; have : b < w.heap.size := hb; omega)).trans (Below.block hu6 b hb)
    exact (members1_in 8 l B1 B2 (· < w.heap.size) N hN p gf lbf eg J Jx hY W hJ ((hks.cell (p := ⟨B1, 0, none⟩) hB1).trans hc1) ((hks.cell (p := ⟨B2, 0, none⟩) hB2).trans hc2) hB1 hB2 (fun k hk W' hW' => callsIn_wide.2 (hIs k hk W' (hks.trans hW'))) h0).mono fun _ _ ⟨h1, h2⟩ => ⟨h1, h2.imp (fun h => ⟨_, rfl, h⟩) id⟩) (by have := memK_len p N; omega))
  go_enter Tryz.func156, Tryz.ntmps156
  go_wp2_with fail
  refine HA.out.mono ?_
  rintro e w1 ⟨hu, v, rfl, ho⟩
  go_wp2_with fail
  go_ret
  exact ⟨hu, v, rfl, ho⟩
set_option maxHeartbeats 400000 in
theorem compl1_t (S : Nat → Prop) (w : World) (b6 b1 : Nat) (v : Value) (l : List Int) (k : Int) (h6 : w.cell? ⟨b6, 0, none⟩ = some (.func (.func 193) #[] #[.pointer (some ⟨b1, 0, none⟩)])) (hb : w.cell? ⟨b1, 0, none⟩ = some v) (h : IntsAt S w v l) (hn : l.length ≤ 1000000) (ha : l.Pairwise (· < ·)) :
    Calls Tryz.prog 158 #[.int .i64 k, .pointer (some ⟨b6, 0, none⟩)] w fun e w' => e = .returned (.bool (!l.contains k)) ∧ ∃ q, w' = w.drewN q := by
  have HC := Lib.hid (has1_t S w b1 v l k hb h hn ha)
  clear hb h ha
  go_enter Tryz.func158, Tryz.ntmps158
  go_wp2_with fail
  refine HC.out.mono ?_
  rintro e w' ⟨rfl, q, rfl⟩
  go_wp2_with fail
  go_ret
  exact ⟨ret_bool (by simp), q, rfl⟩
set_option maxHeartbeats 400000 in
theorem inter1_t (S : Nat → Prop) (w : World) (b5 b8 b9 c1 c2 : Nat) (v u : Value) (l m : List Int) (k : Int) (h5 : w.cell? ⟨b5, 0, none⟩ = some (.func (.func 188) #[] #[])) (h8 : w.cell? ⟨b8, 0, none⟩ = some (.func (.func 193) #[] #[.pointer (some ⟨c1, 0, none⟩)])) (h9 : w.cell? ⟨b9, 0, none⟩ = some (.func (.func 193) #[] #[.pointer (some ⟨c2, 0, none⟩)]))
    (hb : w.cell? ⟨c1, 0, none⟩ = some v) (h : IntsAt S w v l) (hn : l.length ≤ 1000000) (ha : l.Pairwise (· < ·)) (hb2 : w.cell? ⟨c2, 0, none⟩ = some u) (h2 : IntsAt S w u m) (hn2 : m.length ≤ 1000000) (ha2 : m.Pairwise (· < ·)) :
    Calls Tryz.prog 217 #[.int .i64 k, .pointer (some ⟨b5, 0, none⟩), .pointer (some ⟨b8, 0, none⟩), .pointer (some ⟨b9, 0, none⟩)] w fun e w' => e = .returned (.bool (l.contains k && m.contains k)) ∧ ∃ q, w' = w.drewN q := by
  have HC : Hid (∀ n, Calls Tryz.prog 193 #[.int .i64 k, .pointer (some ⟨c1, 0, none⟩)] (w.drewN n) fun e w' => e = .returned (.bool (l.contains k)) ∧ ∃ q, w' = w.drewN q) := fun n => by
    have hu := Up.drewN w n
    refine (has1_t S _ c1 v l k (hu.cell hb) (IntsAt.keep h (hu.kept _)) hn ha).mono ?_
    rintro e w' ⟨rfl, q, rfl⟩
    exact ⟨rfl, n + q, by rw [World.drewN_drewN]⟩
  have HD : Hid (∀ n, Calls Tryz.prog 193 #[.int .i64 k, .pointer (some ⟨c2, 0, none⟩)] (w.drewN n) fun e w' => e = .returned (.bool (m.contains k)) ∧ ∃ q, w' = w.drewN q) := fun n => by
    have hu := Up.drewN w n
    refine (has1_t S _ c2 u m k (hu.cell hb2) (IntsAt.keep h2 (hu.kept _)) hn2 ha2).mono ?_
    rintro e w' ⟨rfl, q, rfl⟩
    exact ⟨rfl, n + q, by rw [World.drewN_drewN]⟩
  have HE : Hid (∀ x y n, Calls Tryz.prog 188 #[.bool x, .bool y] (w.drewN n) fun e w' => e = .returned (.bool (x && y)) ∧ ∃ q, w' = w.drewN q) := fun x y n => by
    cases x
    · go_enter Tryz.func188, Tryz.ntmps188
      go_wp2_with fail
      go_ret
      exact ⟨rfl, n, rfl⟩
    · go_enter Tryz.func188, Tryz.ntmps188
      go_wp2_with fail
      go_ret
      exact ⟨rfl, n, rfl⟩
  clear hb h ha hb2 h2 ha2
  generalize l.contains k = x at *
  generalize m.contains k = y at *
  go_enter Tryz.func217, Tryz.ntmps217
  go_wp2_with fail
  go_big_quiet (first | with_reducible exact HC.out _ | with_reducible exact HD.out _ | with_reducible exact HE.out _ _ _)
  go_wp2_with fail
  go_ret
  exact ⟨rfl, _, rfl⟩
end Go.Proofs.YtpjijbophjdgaaaGreat
namespace Go.Proofs.YtpjijbophjdgaaaGreat
open Go.RowKit Go.Shelf Go.Deep
theorem two_boxes (w : World) (x y : Value) (T U : TypeId) : Up w ((w.alloc (.cells #[x] T)).alloc (.cells #[y] U)) ∧ ((w.alloc (.cells #[x] T)).alloc (.cells #[y] U)).cell? ⟨w.heap.size, 0, none⟩ = some x ∧ ((w.alloc (.cells #[x] T)).alloc (.cells #[y] U)).cell? ⟨w.heap.size + 1, 0, none⟩ = some y := by
  have hu1 := Up.alloc w (.cells #[x] T)
  have h1 := box1_0 w x T
  have hs : (w.alloc (.cells #[x] T)).heap.size = w.heap.size + 1 := by simp
  have hu2 := Up.alloc (w.alloc (.cells #[x] T)) (.cells #[y] U)
  have h2 := box1_0 (w.alloc (.cells #[x] T)) y U
  rw [hs] at h2
  exact ⟨hu1.trans hu2, hu2.cell h1, h2⟩
set_option maxRecDepth 100000 in
set_option maxHeartbeats 1000000 in
theorem complement_t (S : Nat → Prop) (w : World) (v : Value) (N : Nat) (a : List Int) (hN : N ≤ 64) (h : IntsAt S w v a) (ha : SetOk a) (hb : ∀ x ∈ a, x < (N : Int)) (hl : a.length ≤ 1000000) :
    Calls Tryz.prog 85 #[.int .i64 (N : Int), v] w fun e w' => Up w w' ∧ ∃ u, e = .returned (.tuple #[u, .int .i64 0]) ∧ Owns w.heap.size 3 w' u ((complL N a).map (Value.int .i64)) := by
  have HC := Lib.hid (setCheck_t S w v a h hl)
  rw [setErr_zero.2 ha] at HC
  have HCL : Hid (complL N a = memK (fun x => !a.contains x) N) := by unfold Hid complL; rw [Int.toNat_natCast]
  obtain ⟨p, cap, rfl, -, -⟩ := SlAt.open h
  have H : Hid (IntsAt S w (.slice p a.length cap) a) := h
  have HA := Lib.hid ha
  have n0 : ¬ (N : Int) < 0 := by omega
  have n1 : ¬ (64 : Int) < (N : Int) := by omega
  have hu1 := Up.alloc w (.cells #[.slice p a.length cap] 26)
  have hb1 := box1_0 w (.slice p a.length cap) 26
  have hw1 : (w.alloc (.cells #[.slice p a.length cap] 26)).heap.size = w.heap.size + 1 := by simp
  have HW1 := Lib.hid (⟨hu1, hb1, hw1⟩ : Up w (w.alloc (.cells #[.slice p a.length cap] 26)) ∧ (w.alloc (.cells #[.slice p a.length cap] 26)).cell? ⟨w.heap.size, 0, none⟩ = some (.slice p a.length cap) ∧ (w.alloc (.cells #[.slice p a.length cap] 26)).heap.size = w.heap.size + 1)
  clear h ha hu1 hb1 hw1
  have HB : Hid (a.length = 0 ∨ 0 < a.length ∧ ∃ b off, p = some ⟨b, off, none⟩ ∧ w.cell? ⟨b, off + (a.length - 1), none⟩ = some (.int .i64 (gi a (a.length - 1))) ∧ gi a (a.length - 1) < N) := by
    by_cases h0 : a.length = 0
    · exact .inl h0
    · obtain ⟨b, off, e, hc⟩ := ints_get H.out (show a.length - 1 < a.length by omega)
      exact .inr ⟨by omega, b, off, e, hc, hb _ (gi_in (by omega))⟩
  clear hb
  have REST : Hid (∀ w3 B1 B2 b6, Up w w3 → w3.cell? ⟨B1, 0, none⟩ = some (.int .i64 (N : Int)) → w3.cell? ⟨B2, 0, none⟩ = some (.func (.func 158) #[] #[.pointer (some ⟨b6, 0, none⟩)]) → w3.cell? ⟨b6, 0, none⟩ = some (.func (.func 193) #[] #[.pointer (some ⟨w.heap.size, 0, none⟩)]) → w3.cell? ⟨w.heap.size, 0, none⟩ = some (.slice p a.length cap) →
      Calls Tryz.prog 156 #[.func (.func 196) #[] #[.pointer (some ⟨B1, 0, none⟩), .pointer (some ⟨B2, 0, none⟩)]] w3 (AqPost w3 (complL N a))) := fun w3 B1 B2 b6 hu c1 c2 c6 cw => by
    rw [HCL.out]
    have hks : ∀ W', KS (· < w3.heap.size) w3 W' → ∀ b o x, w3.cell? ⟨b, o, none⟩ = some x → W'.cell? ⟨b, o, none⟩ = some x := fun W' hW b o x hc => (hW.cell (p := ⟨b, o, none⟩) (World.block_lt_of_cell? w3 _ hc)).trans hc
    refine collectM_t w3 B1 B2 N hN (fun x => !a.contains x) 158 _ (enters_of Tryz.func158 (by kernel_rfl) rfl) c1 c2 fun k hk W' hW' => ?_
    refine compl1_t (· < w3.heap.size) W' b6 w.heap.size _ a k (hks W' hW' _ _ _ c6) (hks W' hW' _ _ _ cw) ?_ hl HA.out.asc
    exact SlAt.keep (IntsAt.sub (IntsAt.keep H.out (hu.kept _)) fun b _ hb => hb) fun b hb _ => hW' b hb
  have FIN : Hid (∀ w3 e w', Up w w3 → AqPost w3 (complL N a) e w' → ∃ u, e = .returned u ∧ Up w w' ∧ Owns w.heap.size 3 w' u ((complL N a).map (Value.int .i64))) := fun w3 e w' hu ⟨h1, u, he, h2⟩ => ⟨u, he, hu.trans h1, by
    obtain ⟨hl, h | ⟨g, cap, cur, hv, hg, hc, hr⟩⟩ := h2
    · exact ⟨hl, .inl h⟩
    · exact ⟨hl, .inr ⟨g, cap, cur, hv, Nat.le_trans hu.size hg, hc, hr⟩⟩⟩
  have K : Hid (∀ w1 b1, b1 = w.heap.size → w1 = w.alloc (.cells #[.slice p a.length cap] 26) → Up w (w1.alloc (.cells #[.func (.func 193) #[] #[.pointer (some ⟨b1, 0, none⟩)]] 78)) ∧
      (w1.alloc (.cells #[.func (.func 193) #[] #[.pointer (some ⟨b1, 0, none⟩)]] 78)).cell? ⟨w1.heap.size, 0, none⟩ = some (.func (.func 193) #[] #[.pointer (some ⟨w.heap.size, 0, none⟩)]) ∧
      (w1.alloc (.cells #[.func (.func 193) #[] #[.pointer (some ⟨b1, 0, none⟩)]] 78)).cell? ⟨w.heap.size, 0, none⟩ = some (.slice p a.length cap)) := fun w1 b1 e1 e2 => by
    subst e1
    subst e2
    obtain ⟨k1, k2, k3⟩ := HW1.out
    have q1 := Up.alloc (w.alloc (.cells #[.slice p a.length cap] 26)) (.cells #[.func (.func 193) #[] #[.pointer (some ⟨w.heap.size, 0, none⟩)]] 78)
    have q2 := box1_0 (w.alloc (.cells #[.slice p a.length cap] 26)) (.func (.func 193) #[] #[.pointer (some ⟨w.heap.size, 0, none⟩)]) 78
    exact ⟨k1.trans q1, q2, q1.cell k2⟩
  rcases HB.out with h0 | ⟨i01, b, off, rfl, hc, hlt⟩
  · have h01 : ¬ (0 : Int) < (a.length : Int) := by omega
    have h02 : ¬ 0 < a.length := by omega
    clear h0
    go_enter Tryz.func85, Tryz.ntmps85
    go_wp2_with fail
    refine HC.out.mono ?_
    rintro e w' ⟨rfl, rfl⟩
    go_wp2_with fail
    refine (has_t _ _ _ _).mono ?_
    rintro e w1 ⟨rfl, hw1⟩
    obtain ⟨k1, k2, k3⟩ := K.out w1 _ rfl hw1
    have HK1 := Lib.hid k1
    have HK2 := Lib.hid k2
    have HK3 := Lib.hid k3
    clear hw1 k1 k2 k3 K
    go_wp2_with fail
    generalize w1.alloc (.cells #[.func (.func 193) #[] #[.pointer (some ⟨w.heap.size, 0, none⟩)]] 78) = w2 at *
    refine (members_t _ _ _ _).mono ?_
    rintro e w3 ⟨rfl, hw3⟩
    obtain ⟨m1, m2, m3⟩ := two_boxes w2 (.int .i64 (N : Int)) (.func (.func 158) #[] #[.pointer (some ⟨w1.heap.size, 0, none⟩)]) 3 78
    rw [← hw3] at m1 m2 m3
    have HU3 : Hid (Up w w3) := HK1.out.trans m1
    have HR := Lib.hid (REST.out w3 _ _ _ HU3.out m2 m3 (m1.cell HK2.out) (m1.cell HK3.out))
    clear hw3 m1 m2 m3 HK1 HK2 HK3
    go_wp2_with fail
    refine HR.out.mono ?_
    rintro e w4 hp
    obtain ⟨u, rfl, h4, h5⟩ := FIN.out w3 e w4 HU3.out hp
    have H4 := Lib.hid h4
    have H5 := Lib.hid h5
    clear hp h4 h5
    go_wp2_with fail
    exact ⟨rfl, .tuple #[_, _], by simp [results, Tryz.results85, go_sem], H4.out, _, rfl, H5.out⟩
  · have i0 : (0 : Int) < (a.length : Int) := by omega
    have i1 : (0 : Int) ≤ (a.length : Int) - 1 := by omega
    have i2 : (a.length : Int) - 1 < (a.length : Int) := by omega
    have i3 : ((a.length : Int) - 1).toNat = a.length - 1 := by omega
    have i4 : wrap64 ((a.length : Int) - 1) = (a.length : Int) - 1 := by unfold wrap64; omega
    have i5 : ¬ (N : Int) ≤ gi a (a.length - 1) := by omega
    clear hlt
    generalize gi a (a.length - 1) = y at *
    go_enter Tryz.func85, Tryz.ntmps85
    go_wp2_with fail
    refine HC.out.mono ?_
    rintro e w' ⟨rfl, rfl⟩
    go_wp2_with fail
    refine (has_t _ _ _ _).mono ?_
    rintro e w1 ⟨rfl, hw1⟩
    obtain ⟨k1, k2, k3⟩ := K.out w1 _ rfl hw1
    have HK1 := Lib.hid k1
    have HK2 := Lib.hid k2
    have HK3 := Lib.hid k3
    clear hw1 k1 k2 k3 K
    go_wp2_with fail
    generalize w1.alloc (.cells #[.func (.func 193) #[] #[.pointer (some ⟨w.heap.size, 0, none⟩)]] 78) = w2 at *
    refine (members_t _ _ _ _).mono ?_
    rintro e w3 ⟨rfl, hw3⟩
    obtain ⟨m1, m2, m3⟩ := two_boxes w2 (.int .i64 (N : Int)) (.func (.func 158) #[] #[.pointer (some ⟨w1.heap.size, 0, none⟩)]) 3 78
    rw [← hw3] at m1 m2 m3
    have HU3 : Hid (Up w w3) := HK1.out.trans m1
    have HR := Lib.hid (REST.out w3 _ _ _ HU3.out m2 m3 (m1.cell HK2.out) (m1.cell HK3.out))
    clear hw3 m1 m2 m3 HK1 HK2 HK3
    go_wp2_with fail
    refine HR.out.mono ?_
    rintro e w4 hp
    obtain ⟨u, rfl, h4, h5⟩ := FIN.out w3 e w4 HU3.out hp
    have H4 := Lib.hid h4
    have H5 := Lib.hid h5
    clear hp h4 h5
    go_wp2_with fail
    exact ⟨rfl, .tuple #[_, _], by simp [results, Tryz.results85, go_sem], H4.out, _, rfl, H5.out⟩
end Go.Proofs.YtpjijbophjdgaaaGreat
namespace Go.Proofs.YtpjijbophjdgaaaGreat
open Go.RowKit Go.Shelf Go.Deep
set_option maxRecDepth 100000 in
set_option maxHeartbeats 1000000 in
theorem combine_t (S : Nat → Prop) (w : World) (v u : Value) (a b : List Int) (h : IntsAt S w v a) (h2 : IntsAt S w u b) (ha : SetOk a) (hb : SetOk b) (hl : a.length ≤ 1000000) (hl2 : b.length ≤ 1000000) :
    Calls Tryz.prog 187 #[v, u, .func (.func 188) #[] #[]] w fun e w' => Up w w' ∧ ∃ u, e = .returned (.tuple #[u, .int .i64 0]) ∧ Owns w.heap.size 3 w' u ((interL a b).map (Value.int .i64)) := by
  have hu0 := Up.alloc w (.cells #[.func (.func 188) #[] #[]] 205)
  have hb0 := box1_0 w (.func (.func 188) #[] #[]) 205
  obtain ⟨p, cap, rfl, -, -⟩ := SlAt.open h
  obtain ⟨p2, cap2, rfl, -, -⟩ := SlAt.open h2
  have H : Hid (IntsAt S w (.slice p a.length cap) a) := h
  have H2 : Hid (IntsAt S w (.slice p2 b.length cap2) b) := h2
  have HA := Lib.hid ha
  have HB := Lib.hid hb
  have HU0 := Lib.hid hu0
  have HB0 := Lib.hid hb0
  have HC1 : Hid (∀ W, Up w W → Calls Tryz.prog 142 #[.slice p a.length cap] W fun e w' => e = .returned (.int .i64 0) ∧ W = w') := fun W hW => by
    have h := setCheck_t S W _ a (IntsAt.keep H.out (hW.kept _)) hl
    rw [setErr_zero.2 ha] at h; exact h
  have HC2 : Hid (∀ W, Up w W → Calls Tryz.prog 142 #[.slice p2 b.length cap2] W fun e w' => e = .returned (.int .i64 0) ∧ W = w') := fun W hW => by
    have h := setCheck_t S W _ b (IntsAt.keep H2.out (hW.kept _)) hl2
    rw [setErr_zero.2 hb] at h; exact h
  have REST : Hid (∀ w3 B1 B2 b5 b8 b9 c1 c2, Up w w3 → w3.cell? ⟨B1, 0, none⟩ = some (.int .i64 64) → w3.cell? ⟨B2, 0, none⟩ = some (.func (.func 217) #[] #[.pointer (some ⟨b5, 0, none⟩), .pointer (some ⟨b8, 0, none⟩), .pointer (some ⟨b9, 0, none⟩)]) → w3.cell? ⟨b5, 0, none⟩ = some (.func (.func 188) #[] #[]) →
      w3.cell? ⟨b8, 0, none⟩ = some (.func (.func 193) #[] #[.pointer (some ⟨c1, 0, none⟩)]) → w3.cell? ⟨b9, 0, none⟩ = some (.func (.func 193) #[] #[.pointer (some ⟨c2, 0, none⟩)]) → w3.cell? ⟨c1, 0, none⟩ = some (.slice p a.length cap) → w3.cell? ⟨c2, 0, none⟩ = some (.slice p2 b.length cap2) →
      Calls Tryz.prog 156 #[.func (.func 196) #[] #[.pointer (some ⟨B1, 0, none⟩), .pointer (some ⟨B2, 0, none⟩)]] w3 (AqPost w3 (interL a b))) := fun w3 B1 B2 b5 b8 b9 c1 c2 hu q1 q2 q5 q8 q9 r1 r2 => by
    have hks : ∀ W', KS (· < w3.heap.size) w3 W' → ∀ b o x, w3.cell? ⟨b, o, none⟩ = some x → W'.cell? ⟨b, o, none⟩ = some x := fun W' hW b o x hc => (hW.cell (p := ⟨b, o, none⟩) (World.block_lt_of_cell? w3 _ hc)).trans hc
    refine collectM_t w3 B1 B2 64 (Nat.le_refl _) (fun x => a.contains x && b.contains x) 217 _ (enters_of Tryz.func217 (by kernel_rfl) rfl) q1 q2 fun k hk W' hW' => ?_
    exact inter1_t (· < w3.heap.size) W' b5 b8 b9 c1 c2 _ _ a b k (hks W' hW' _ _ _ q5) (hks W' hW' _ _ _ q8) (hks W' hW' _ _ _ q9) (hks W' hW' _ _ _ r1) (SlAt.keep (IntsAt.sub (IntsAt.keep H.out (hu.kept _)) fun b _ hb => hb) fun b hb _ => hW' b hb) hl HA.out.asc (hks W' hW' _ _ _ r2) (SlAt.keep (IntsAt.sub (IntsAt.keep H2.out (hu.kept _)) fun b _ hb => hb) fun b hb _ => hW' b hb) hl2 HB.out.asc
  have FIN : Hid (∀ w3 e w', Up w w3 → AqPost w3 (interL a b) e w' → ∃ u, e = .returned u ∧ Up w w' ∧ Owns w.heap.size 3 w' u ((interL a b).map (Value.int .i64))) := fun w3 e w' hu ⟨h1, u, he, h2⟩ => ⟨u, he, hu.trans h1, by
    obtain ⟨hl, h | ⟨g, cap, cur, hv, hg, hc, hr⟩⟩ := h2
    · exact ⟨hl, .inl h⟩
    · exact ⟨hl, .inr ⟨g, cap, cur, hv, Nat.le_trans hu.size hg, hc, hr⟩⟩⟩
  clear h h2 ha hb hu0 hb0
  go_enter Tryz.func187, Tryz.ntmps187
  go_wp2_with fail
  generalize w.alloc (.cells #[.func (.func 188) #[] #[]] 205) = w0 at *
  refine (HC1.out w0 HU0.out).mono ?_
  rintro e w0' ⟨rfl, rfl⟩
  go_wp2_with fail
  refine (HC2.out w0 HU0.out).mono ?_
  rintro e w0' ⟨rfl, rfl⟩
  go_wp2_with fail
  refine (has_t _ _ _ _).mono ?_
  rintro e w1 ⟨rfl, hw1⟩
  have hu1 := Up.alloc w0 (.cells #[.slice p a.length cap] 26)
  have hb1 := box1_0 w0 (.slice p a.length cap) 26
  rw [← hw1] at hu1 hb1
  have HU1 := Lib.hid hu1
  have HB1 := Lib.hid hb1
  clear hw1 hu1 hb1
  go_wp2_with fail
  refine (has_t _ _ _ _).mono ?_
  rintro e w2 ⟨rfl, hw2⟩
  have hu2 := Up.alloc w1 (.cells #[.slice p2 b.length cap2] 26)
  have hb2 := box1_0 w1 (.slice p2 b.length cap2) 26
  rw [← hw2] at hu2 hb2
  have HU2 := Lib.hid hu2
  have HB2 := Lib.hid hb2
  clear hw2 hu2 hb2
  go_wp2_with fail
  obtain ⟨t1, t2, t3⟩ := two_boxes w2 (.func (.func 193) #[] #[.pointer (some ⟨w0.heap.size, 0, none⟩)]) (.func (.func 193) #[] #[.pointer (some ⟨w1.heap.size, 0, none⟩)]) 78 78
  generalize (w2.alloc (.cells #[.func (.func 193) #[] #[.pointer (some ⟨w0.heap.size, 0, none⟩)]] 78)).alloc (.cells #[.func (.func 193) #[] #[.pointer (some ⟨w1.heap.size, 0, none⟩)]] 78) = w3 at *
  refine (members_t _ _ _ _).mono ?_
  rintro e w4 ⟨rfl, hw4⟩
  obtain ⟨m1, m2, m3⟩ := two_boxes w3 (.int .i64 64) (.func (.func 217) #[] #[.pointer (some ⟨w.heap.size, 0, none⟩), .pointer (some ⟨w2.heap.size, 0, none⟩), .pointer (some ⟨w2.heap.size + 1, 0, none⟩)]) 3 78
  rw [← hw4] at m1 m2 m3
  have h24 := t1.trans m1
  have h14 := HU2.out.trans h24
  have h04 := HU1.out.trans h14
  have HU4 : Hid (Up w w4) := HU0.out.trans h04
  have HR := Lib.hid (REST.out w4 _ _ _ _ _ _ _ HU4.out m2 m3 (h04.cell HB0.out) (m1.cell t2) (m1.cell t3) (h14.cell HB1.out) (h24.cell HB2.out))
  clear hw4 m1 m2 m3 t1 t2 t3 h24 h14 h04
  go_wp2_with fail
  refine HR.out.mono ?_
  rintro e w5 hp
  obtain ⟨u, rfl, h4, h5⟩ := FIN.out w4 e w5 HU4.out hp
  have H4 := Lib.hid h4
  have H5 := Lib.hid h5
  clear hp h4 h5
  go_wp2_with fail
  exact ⟨rfl, .tuple #[_, _], by simp [results, Tryz.results187, go_sem], H4.out, _, rfl, H5.out⟩
set_option maxHeartbeats 400000 in
theorem intersect_t (S : Nat → Prop) (w : World) (v u : Value) (a b : List Int) (h : IntsAt S w v a) (h2 : IntsAt S w u b) (ha : SetOk a) (hb : SetOk b) (hl : a.length ≤ 1000000) (hl2 : b.length ≤ 1000000) :
    Calls Tryz.prog 143 #[v, u] w fun e w' => Up w w' ∧ ∃ u, e = .returned (.tuple #[u, .int .i64 0]) ∧ Owns w.heap.size 3 w' u ((interL a b).map (Value.int .i64)) := by
  have HC := Lib.hid (combine_t S w v u a b h h2 ha hb hl hl2)
  obtain ⟨p, cap, rfl, -, -⟩ := SlAt.open h
  obtain ⟨p2, cap2, rfl, -, -⟩ := SlAt.open h2
  clear h h2
  go_enter Tryz.func143, Tryz.ntmps143
  go_wp2_with fail
  refine HC.out.mono ?_
  rintro e w' ⟨h1, u, rfl, h2⟩
  have H1 := Lib.hid h1
  have H2 := Lib.hid h2
  clear h1 h2
  go_wp2_with fail
  exact ⟨rfl, .tuple #[_, _], by simp [results, Tryz.results143, go_sem], H1.out, _, rfl, H2.out⟩
set_option maxRecDepth 100000 in
set_option maxHeartbeats 1000000 in
theorem compat_t (S : Nat → Prop) (w : World) (v u : Value) (a b : List Int) (h : IntsAt S w v a) (h2 : IntsAt S w u b) (ha : SetOk a) (hb : SetOk b) (hl : a.length ≤ 1000000) (hl2 : b.length ≤ 1000000) :
    Calls Tryz.prog 72 #[v, u] w fun e w' => e = .returned (.bool (compB a b)) ∧ Up w w' := by
  have HC := Lib.hid (intersect_t S w v u a b h h2 ha hb hl hl2)
  have HF : Hid (compB a b = (decide ((interL a b).length = 0) || decide ((interL a b).length = a.length) || decide ((interL a b).length = b.length))) := rfl
  obtain ⟨p, cap, rfl, -, -⟩ := SlAt.open h
  obtain ⟨p2, cap2, rfl, -, -⟩ := SlAt.open h2
  have HM : Hid ((interL a b).length ≤ 64) := memK_len _ _
  clear h h2
  go_enter Tryz.func72, Tryz.ntmps72
  go_wp2_with fail
  refine HC.out.mono ?_
  rintro e w' ⟨h1, u, rfl, h2⟩
  obtain ⟨q, c, rfl, _⟩ := h2.form (n := (interL a b).length) (by rw [List.length_map])
  have H1 := Lib.hid h1
  clear h1 h2
  generalize (interL a b).length = m at *
  generalize a.length = x at *
  generalize b.length = y at *
  by_cases e0 : m = 0
  · have d : ((m : Int) == 0) = true := by simpa using e0
    have HE := Lib.hid e0
    clear e0
    go_wp2_with fail
    go_ret
    exact ⟨ret_bool (by rw [HF.out, decide_eq_true HE.out]; rfl), H1.out⟩
  have d0 : ((m : Int) == 0) = false := beq_eq_false_iff_ne.2 (by omega)
  have HE0 := Lib.hid e0
  clear e0
  by_cases e1 : m = x
  · have d1 : ((m : Int) == (x : Int)) = true := by subst e1; simp
    have HE := Lib.hid e1
    clear e1
    go_wp2_with fail
    go_ret
    exact ⟨ret_bool (by rw [HF.out, decide_eq_true HE.out]; simp), H1.out⟩
  have d1 : ((m : Int) == (x : Int)) = false := beq_eq_false_iff_ne.2 (by omega)
  have HE1 := Lib.hid e1
  clear e1
  by_cases e2 : m = y
  · have d2 : ((m : Int) == (y : Int)) = true := by subst e2; simp
    have HE := Lib.hid e2
    clear e2
    go_wp2_with fail
    go_ret
    exact ⟨ret_bool (by rw [HF.out, decide_eq_true HE.out]; simp), H1.out⟩
  · have d2 : ((m : Int) == (y : Int)) = false := beq_eq_false_iff_ne.2 (by omega)
    have HE2 := Lib.hid e2
    clear e2
    go_wp2_with fail
    go_ret
    exact ⟨ret_bool (by rw [HF.out, decide_eq_false HE0.out, decide_eq_false HE1.out, decide_eq_false HE2.out]; rfl), H1.out⟩
end Go.Proofs.YtpjijbophjdgaaaGreat
