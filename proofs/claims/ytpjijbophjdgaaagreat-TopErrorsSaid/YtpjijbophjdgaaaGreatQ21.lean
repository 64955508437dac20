/- Package intset: Complement and Intersect at sets: the contracts. The plain law of SharederrorMembers: what groups hold. The contract of the reference's table. Three lists under way: two of ints, one of strings. -/
import Derived.Test.YtpjijbophjdgaaaGreatQ19
import Derived.Test.YtpjijbophjdgaaaGreatQ18
import Derived.Test.YtpjijbophjdgaaaGreatQ9
import Derived.Test.YtpjijbophjdgaaaGreatQ15
import Derived.Test.YtpjijbophjdgaaaGreatQ7
import Derived.Test.YtpjijbophjdgaaaGreatQ3
import Derived.Test.YtpjijbophjdgaaaGreatQ17
namespace Go.Proofs.YtpjijbophjdgaaaGreat
open Go.RowKit Go.Shelf Go.Deep
theorem two_boxes (w : World) (x y : Value) (T U : TypeId) : Up w ((w.alloc (.cells #[x] T)).alloc (.cells #[y] U)) ∧ ((w.alloc (.cells #[x] T)).alloc (.cells #[y] U)).cell? ⟨w.heap.size, 0, none⟩ = some x ∧ ((w.alloc (.cells #[x] T)).alloc (.cells #[y] U)).cell? ⟨w.heap.size + 1, 0, none⟩ = some y := by
  have hu1 := Up.alloc w (.cells #[x] T)
  have h1 := box1_0 w x T
  have hs : (w.alloc (.cells #[x] T)).heap.size = w.heap.size + 1 := by simp
  have hu2 := Up.alloc (w.alloc (.cells #[x] T)) (.cells #[y] U)
  have h2 := box1_0 (w.alloc (.cells #[x] T)) y U
  rw [hs] at h2
  exact ⟨hu1.trans hu2, hu2.cell h1, h2⟩
set_option maxRecDepth 100000 in
set_option maxHeartbeats 1000000 in
theorem complement_t (S : Nat → Prop) (w : World) (v : Value) (N : Nat) (a : List Int) (hN : N ≤ 64) (h : IntsAt S w v a) (ha : SetOk a) (hb : ∀ x ∈ a, x < (N : Int)) (hl : a.length ≤ 1000000) :
    Calls Tryz.prog 85 #[.int .i64 (N : Int), v] w fun e w' => Up w w' ∧ ∃ u, e = .returned (.tuple #[u, .int .i64 0]) ∧ Owns w.heap.size 3 w' u ((complL N a).map (Value.int .i64)) := by
  have HC := Lib.hid (setCheck_t S w v a h hl)
  rw [setErr_zero.2 ha] at HC
  have HCL : Hid (complL N a = memK (fun x => !a.contains x) N) := by unfold Hid complL; rw [Int.toNat_natCast]
  obtain ⟨p, cap, rfl, -, -⟩ := SlAt.open h
  have H : Hid (IntsAt S w (.slice p a.length cap) a) := h
  have HA := Lib.hid ha
  have n0 : ¬ (N : Int) < 0 := by omega
  have n1 : ¬ (64 : Int) < (N : Int) := by omega
  have hu1 := Up.alloc w (.cells #[.slice p a.length cap] 26)
  have hb1 := box1_0 w (.slice p a.length cap) 26
  have hw1 : (w.alloc (.cells #[.slice p a.length cap] 26)).heap.size = w.heap.size + 1 := by simp
  have HW1 := Lib.hid (⟨hu1, hb1, hw1⟩ : Up w (w.alloc (.cells #[.slice p a.length cap] 26)) ∧ (w.alloc (.cells #[.slice p a.length cap] 26)).cell? ⟨w.heap.size, 0, none⟩ = some (.slice p a.length cap) ∧ (w.alloc (.cells #[.slice p a.length cap] 26)).heap.size = w.heap.size + 1)
  clear h ha hu1 hb1 hw1
  have HB : Hid (a.length = 0 ∨ 0 < a.length ∧ ∃ b off, p = some ⟨b, off, none⟩ ∧ w.cell? ⟨b, off + (a.length - 1), none⟩ = some (.int .i64 (gi a (a.length - 1))) ∧ gi a (a.length - 1) < N) := by
    by_cases h0 : a.length = 0
    · exact .inl h0
    · obtain ⟨b, off, e, hc⟩ := ints_get H.out (show a.length - 1 < a.length by omega)
      exact .inr ⟨by omega, b, off, e, hc, hb _ (gi_in (by omega))⟩
  clear hb
  have REST : Hid (∀ w3 B1 B2 b6, Up w w3 → w3.cell? ⟨B1, 0, none⟩ = some (.int .i64 (N : Int)) → w3.cell? ⟨B2, 0, none⟩ = some (.func (.func 158) #[] #[.pointer (some ⟨b6, 0, none⟩)]) → w3.cell? ⟨b6, 0, none⟩ = some (.func (.func 193) #[] #[.pointer (some ⟨w.heap.size, 0, none⟩)]) → w3.cell? ⟨w.heap.size, 0, none⟩ = some (.slice p a.length cap) →
      Calls Tryz.prog 156 #[.func (.func 196) #[] #[.pointer (some ⟨B1, 0, none⟩), .pointer (some ⟨B2, 0, none⟩)]] w3 (AqPost w3 (complL N a))) := fun w3 B1 B2 b6 hu c1 c2 c6 cw => by
    rw [HCL.out]
    have hks : ∀ W', KS (· < w3.heap.size) w3 W' → ∀ b o x, w3.cell? ⟨b, o, none⟩ = some x → W'.cell? ⟨b, o, none⟩ = some x := fun W' hW b o x hc => (hW.cell (p := ⟨b, o, none⟩) (World.block_lt_of_cell? w3 _ hc)).trans hc
    refine collectM_t w3 B1 B2 N hN (fun x => !a.contains x) 158 _ (enters_of Tryz.func158 (by kernel_rfl) rfl) c1 c2 fun k hk W' hW' => ?_
    refine compl1_t (· < w3.heap.size) W' b6 w.heap.size _ a k (hks W' hW' _ _ _ c6) (hks W' hW' _ _ _ cw) ?_ hl HA.out.asc
    exact SlAt.keep (IntsAt.sub (IntsAt.keep H.out (hu.kept _)) fun b _ hb => hb) fun b hb _ => hW' b hb
  have FIN : Hid (∀ w3 e w', Up w w3 → AqPost w3 (complL N a) e w' → ∃ u, e = .returned u ∧ Up w w' ∧ Owns w.heap.size 3 w' u ((complL N a).map (Value.int .i64))) := fun w3 e w' hu ⟨h1, u, he, h2⟩ => ⟨u, he, hu.trans h1, by
    obtain ⟨hl, h | ⟨g, cap, cur, hv, hg, hc, hr⟩⟩ := h2
    · exact ⟨hl, .inl h⟩
    · exact ⟨hl, .inr ⟨g, cap, cur, hv, Nat.le_trans hu.size hg, hc, hr⟩⟩⟩
  have K : Hid (∀ w1 b1, b1 = w.heap.size → w1 = w.alloc (.cells #[.slice p a.length cap] 26) → Up w (w1.alloc (.cells #[.func (.func 193) #[] #[.pointer (some ⟨b1, 0, none⟩)]] 78)) ∧
      (w1.alloc (.cells #[.func (.func 193) #[] #[.pointer (some ⟨b1, 0, none⟩)]] 78)).cell? ⟨w1.heap.size, 0, none⟩ = some (.func (.func 193) #[] #[.pointer (some ⟨w.heap.size, 0, none⟩)]) ∧
      (w1.alloc (.cells #[.func (.func 193) #[] #[.pointer (some ⟨b1, 0, none⟩)]] 78)).cell? ⟨w.heap.size, 0, none⟩ = some (.slice p a.length cap)) := fun w1 b1 e1 e2 => by
    subst e1
    subst e2
    obtain ⟨k1, k2, k3⟩ := HW1.out
    have q1 := Up.alloc (w.alloc (.cells #[.slice p a.length cap] 26)) (.cells #[.func (.func 193) #[] #[.pointer (some ⟨w.heap.size, 0, none⟩)]] 78)
    have q2 := box1_0 (w.alloc (.cells #[.slice p a.length cap] 26)) (.func (.func 193) #[] #[.pointer (some ⟨w.heap.size, 0, none⟩)]) 78
    exact ⟨k1.trans q1, q2, q1.cell k2⟩
  rcases HB.out with h0 | ⟨i01, b, off, rfl, hc, hlt⟩
  · have h01 : ¬ (0 : Int) < (a.length : Int) := by omega
    have h02 : ¬ 0 < a.length := by omega
    clear h0
    go_enter Tryz.func85, Tryz.ntmps85
    go_wp2_with fail
    refine HC.out.mono ?_
    rintro e w' ⟨rfl, rfl⟩
    go_wp2_with fail
    refine (has_t _ _ _ _).mono ?_
    rintro e w1 ⟨rfl, hw1⟩
    obtain ⟨k1, k2, k3⟩ := K.out w1 _ rfl hw1
    have HK1 := Lib.hid k1
    have HK2 := Lib.hid k2
    have HK3 := Lib.hid k3
    clear hw1 k1 k2 k3 K
    go_wp2_with fail
    generalize w1.alloc (.cells #[.func (.func 193) #[] #[.pointer (some ⟨w.heap.size, 0, none⟩)]] 78) = w2 at *
    refine (members_t _ _ _ _).mono ?_
    rintro e w3 ⟨rfl, hw3⟩
    obtain ⟨m1, m2, m3⟩ := two_boxes w2 (.int .i64 (N : Int)) (.func (.func 158) #[] #[.pointer (some ⟨w1.heap.size, 0, none⟩)]) 3 78
    rw [← hw3] at m1 m2 m3
    have HU3 : Hid (Up w w3) := HK1.out.trans m1
    have HR := Lib.hid (REST.out w3 _ _ _ HU3.out m2 m3 (m1.cell HK2.out) (m1.cell HK3.out))
    clear hw3 m1 m2 m3 HK1 HK2 HK3
    go_wp2_with fail
    refine HR.out.mono ?_
    rintro e w4 hp
    obtain ⟨u, rfl, h4, h5⟩ := FIN.out w3 e w4 HU3.out hp
    have H4 := Lib.hid h4
    have H5 := Lib.hid h5
    clear hp h4 h5
    go_wp2_with fail
    exact ⟨rfl, .tuple #[_, _], by simp [results, Tryz.results85, go_sem], H4.out, _, rfl, H5.out⟩
  · have i0 : (0 : Int) < (a.length : Int) := by omega
    have i1 : (0 : Int) ≤ (a.length : Int) - 1 := by omega
    have i2 : (a.length : Int) - 1 < (a.length : Int) := by omega
    have i3 : ((a.length : Int) - 1).toNat = a.length - 1 := by omega
    have i4 : wrap64 ((a.length : Int) - 1) = (a.length : Int) - 1 := by unfold wrap64; omega
    have i5 : ¬ (N : Int) ≤ gi a (a.length - 1) := by omega
    clear hlt
    generalize gi a (a.length - 1) = y at *
    go_enter Tryz.func85, Tryz.ntmps85
    go_wp2_with fail
    refine HC.out.mono ?_
    rintro e w' ⟨rfl, rfl⟩
    go_wp2_with fail
    refine (has_t _ _ _ _).mono ?_
    rintro e w1 ⟨rfl, hw1⟩
    obtain ⟨k1, k2, k3⟩ := K.out w1 _ rfl hw1
    have HK1 := Lib.hid k1
    have HK2 := Lib.hid k2
    have HK3 := Lib.hid k3
    clear hw1 k1 k2 k3 K
    go_wp2_with fail
    generalize w1.alloc (.cells #[.func (.func 193) #[] #[.pointer (some ⟨w.heap.size, 0, none⟩)]] 78) = w2 at *
    refine (members_t _ _ _ _).mono ?_
    rintro e w3 ⟨rfl, hw3⟩
    obtain ⟨m1, m2, m3⟩ := two_boxes w2 (.int .i64 (N : Int)) (.func (.func 158) #[] #[.pointer (some ⟨w1.heap.size, 0, none⟩)]) 3 78
    rw [← hw3] at m1 m2 m3
    have HU3 : Hid (Up w w3) := HK1.out.trans m1
    have HR := Lib.hid (REST.out w3 _ _ _ HU3.out m2 m3 (m1.cell HK2.out) (m1.cell HK3.out))
    clear hw3 m1 m2 m3 HK1 HK2 HK3
    go_wp2_with fail
    refine HR.out.mono ?_
    rintro e w4 hp
    obtain ⟨u, rfl, h4, h5⟩ := FIN.out w3 e w4 HU3.out hp
    have H4 := Lib.hid h4
    have H5 := Lib.hid h5
    clear hp h4 h5
    go_wp2_with fail
    exact ⟨rfl, .tuple #[_, _], by simp [results, Tryz.results85, go_sem], H4.out, _, rfl, H5.out⟩
end Go.Proofs.YtpjijbophjdgaaaGreat
namespace Go.Proofs.YtpjijbophjdgaaaGreat
structure GrpIs (xs : List (List Int)) (og : List Int) (u s : Nat) (g : Grp) : Prop where
  un : g.un = u
  st : g.st = s
  src : g.src = srcK xs u s xs.length
  u_lt : u < og.length
  s_lt : s < 16
  og0 : 0 ≤ gi og u
  ne : (s : Int) ≠ gi og u
  some : g.src ≠ []
theorem mem_grp1 {xs : List (List Int)} {og : List Int} {u s : Nat} {g : Grp} (h : g ∈ grp1 xs og u s) : g = ⟨u, s, srcK xs u s xs.length⟩ ∧ (s : Int) ≠ gi og u ∧ srcK xs u s xs.length ≠ [] := by
  unfold grp1 at h
  split at h
  · rename_i hc
    exact ⟨by simpa using h, hc.1, hc.2⟩
  · cases h
theorem mem_unK {xs : List (List Int)} {og : List Int} {g : Grp} (h : g ∈ unK xs og og.length) : ∃ u s, GrpIs xs og u s g := by
  unfold unK at h
  obtain ⟨u, hu, h⟩ := List.mem_flatMap.1 h
  unfold unG at h
  split at h
  · cases h
  · rename_i h0
    unfold stK at h
    obtain ⟨s, hs, h⟩ := List.mem_flatMap.1 h
    obtain ⟨rfl, h1, h2⟩ := mem_grp1 h
    exact ⟨u, s, rfl, rfl, rfl, List.mem_range.1 hu, List.mem_range.1 hs, by omega, h1, h2⟩
theorem mem_srcK {xs : List (List Int)} {u : Nat} {s : Int} {k : Nat} {x : Int} : x ∈ srcK xs u s k ↔ ∃ i : Nat, x = i ∧ i < k ∧ gi (gl xs i) u = s := by
  unfold srcK
  rw [List.mem_map]
  constructor
  · rintro ⟨i, hi, rfl⟩
    obtain ⟨h1, h2⟩ := List.mem_filter.1 hi
    exact ⟨i, rfl, List.mem_range.1 h1, by simpa using h2⟩
  · rintro ⟨i, rfl, h1, h2⟩
    exact ⟨i, List.mem_filter.2 ⟨List.mem_range.2 h1, by simpa using h2⟩, rfl⟩
def hasB (p s : Nat) (g : Grp) : Bool := decide (g.un = p) && decide ((s : Int) ∈ g.src)
def cntK (l : List Grp) (p s : Nat) : Nat → Nat
  | 0 => 0
  | k + 1 => cntK l p s k + if hasB p s (gg l k) then 1 else 0
theorem cntK_eq (l : List Grp) (p s : Nat) : ∀ k, k ≤ l.length → cntK l p s k = (l.take k).countP (hasB p s)
  | 0, _ => rfl
  | k + 1, hk => by
    have ih := cntK_eq l p s k (by omega)
    have hl : k < l.length := by omega
    have e : l.take (k + 1) = l.take k ++ [gg l k] := by
      rw [List.take_succ_eq_append_getElem hl]; simp [gg, hl]
    show cntK l p s k + _ = _
    rw [e, List.countP_append, ih]
    congr 1
    simp [List.countP_cons]
theorem cnt_grp1 (xs : List (List Int)) (og : List Int) (u t p s : Nat) (hs : s < xs.length) :
    (grp1 xs og u t).countP (hasB p s) = if u = p ∧ gi (gl xs s) u = t ∧ (t : Int) ≠ gi og u then 1 else 0 := by
  unfold grp1
  by_cases h1 : (t : Int) ≠ gi og u ∧ srcK xs u t xs.length ≠ []
  · rw [if_pos h1]
    have e : hasB p s ⟨u, t, srcK xs u t xs.length⟩ = decide (u = p ∧ gi (gl xs s) u = t ∧ (t : Int) ≠ gi og u) := by
      unfold hasB
      rw [Bool.eq_iff_iff]
      simp only [Bool.and_eq_true, decide_eq_true_eq, mem_srcK]
      constructor
      · rintro ⟨h2, i, h3, h4, h5⟩
        have : s = i := by omega
        subst this
        exact ⟨by omega, h5, h1.1⟩
      · rintro ⟨h2, h3, _⟩
        exact ⟨by omega, s, rfl, hs, h3⟩
    rw [List.countP_cons, List.countP_nil, e]
    by_cases hc : u = p ∧ gi (gl xs s) u = t ∧ (t : Int) ≠ gi og u
    · rw [if_pos hc, decide_eq_true hc]; rfl
    · rw [if_neg hc, decide_eq_false hc]; rfl
  · rw [if_neg h1, if_neg]
    · rfl
    · rintro ⟨_, h3, h4⟩
      refine h1 ⟨h4, fun e => ?_⟩
      have : (s : Int) ∈ srcK xs u t xs.length := mem_srcK.2 ⟨s, rfl, hs, h3⟩
      rw [e] at this; cases this
theorem cnt_stK (xs : List (List Int)) (og : List Int) (u p s : Nat) (hs : s < xs.length) : ∀ t, (stK xs og u t).countP (hasB p s) = if u = p ∧ 0 ≤ gi (gl xs s) u ∧ gi (gl xs s) u < t ∧ gi (gl xs s) u ≠ gi og u then 1 else 0
  | 0 => by
    rw [if_neg (by rintro ⟨_, h1, h2, _⟩; omega)]; rfl
  | t + 1 => by
    rw [stK_succ, List.countP_append, cnt_stK xs og u p s hs t, cnt_grp1 xs og u t p s hs]
    by_cases h1 : u = p
    · by_cases h2 : gi (gl xs s) u = t
      · by_cases h3 : (t : Int) ≠ gi og u
        · rw [if_neg (by omega), if_pos ⟨h1, h2, h3⟩, if_pos ⟨h1, by omega, by omega, by omega⟩]
        · rw [if_neg (by omega), if_neg (by omega), if_neg (by omega)]
      · rw [if_neg (c := u = p ∧ gi (gl xs s) u = t ∧ (t : Int) ≠ gi og u) (by omega), Nat.add_zero]
        by_cases h4 : 0 ≤ gi (gl xs s) u ∧ gi (gl xs s) u < t ∧ gi (gl xs s) u ≠ gi og u
        · rw [if_pos ⟨h1, h4⟩, if_pos ⟨h1, by omega, by omega, by omega⟩]
        · rw [if_neg (by omega), if_neg (by omega)]
    · rw [if_neg (by omega), if_neg (by omega), if_neg (by omega)]
theorem cnt_unK (xs : List (List Int)) (og : List Int) (p s : Nat) (hs : s < xs.length) : ∀ k, (unK xs og k).countP (hasB p s) = if p < k ∧ 0 ≤ gi og p ∧ 0 ≤ gi (gl xs s) p ∧ gi (gl xs s) p < 16 ∧ gi (gl xs s) p ≠ gi og p then 1 else 0
  | 0 => by rw [if_neg (by omega)]; rfl
  | k + 1 => by
    rw [unK_succ, List.countP_append, cnt_unK xs og p s hs k]
    have hG : (unG xs og k).countP (hasB p s) = if k = p ∧ 0 ≤ gi og k ∧ 0 ≤ gi (gl xs s) k ∧ gi (gl xs s) k < 16 ∧ gi (gl xs s) k ≠ gi og k then 1 else 0 := by
      unfold unG
      by_cases h0 : gi og k < 0
      · rw [if_pos h0, if_neg (by omega)]; rfl
      · rw [if_neg h0, cnt_stK xs og k p s hs 16]
        by_cases h1 : k = p ∧ 0 ≤ gi (gl xs s) k ∧ gi (gl xs s) k < (16 : Nat) ∧ gi (gl xs s) k ≠ gi og k
        · rw [if_pos h1, if_pos (by omega)]
        · rw [if_neg h1, if_neg (by omega)]
    rw [hG]
    by_cases h1 : p = k
    · subst h1
      rw [if_neg (by omega), Nat.zero_add]
      by_cases h2 : 0 ≤ gi og p ∧ 0 ≤ gi (gl xs s) p ∧ gi (gl xs s) p < 16 ∧ gi (gl xs s) p ≠ gi og p
      · rw [if_pos ⟨rfl, h2⟩, if_pos ⟨by omega, h2⟩]
      · rw [if_neg (fun h => h2 h.2), if_neg (fun h => h2 h.2)]
    · rw [if_neg (c := k = p ∧ _) (fun h => h1 h.1.symm), Nat.add_zero]
      by_cases h2 : p < k ∧ 0 ≤ gi og p ∧ 0 ≤ gi (gl xs s) p ∧ gi (gl xs s) p < 16 ∧ gi (gl xs s) p ≠ gi og p
      · rw [if_pos h2, if_pos ⟨by omega, h2.2⟩]
      · rw [if_neg h2, if_neg (fun h => h2 ⟨by omega, h.2⟩)]
theorem gi_range {st : List Int} {lo hi : Int} (h : stBad st lo hi = false) {k : Nat} (hk : k < st.length) : lo ≤ gi st k ∧ gi st k < hi := by
  have := any_false (p := fun k => decide (gi st k < lo) || decide (hi ≤ gi st k)) h hk
  simp only [Bool.or_eq_false_iff, decide_eq_false_iff_not] at this
  omega
theorem agRow_ok {xs : List (List Int)} (h : agErr xs = 0) {k : Nat} (hk : k < xs.length) : stBad (gl xs k) (-1) 16 = false := by
  unfold agErr at h
  split at h
  · cases h
  · split at h
    · cases h
    · have h1 := firstNZ_eq_zero h k hk
      unfold agRow at h1
      split at h1
      · cases h1
      · split at h1
        · cases h1
        · rename_i h2; simpa using h2
theorem grErr_zero {xs : List (List Int)} {og : List Int} (h : grErr xs og = 0) : agErr xs = 0 ∧ og.length = plN xs ∧ stBad og (-1) 16 = false := by
  unfold grErr at h
  split at h
  · omega
  · split at h
    · cases h
    · split at h
      · cases h
      · rename_i h1 h2 h3
        exact ⟨by omega, by omega, by simpa using h3⟩
theorem members {xs : List (List Int)} {og : List Int} (h : grErr xs og = 0) {s p : Nat} (hs : s < xs.length) (hp : p < (gl xs s).length) :
    cntK (groupsN xs og) p s (groupsN xs og).length = if 0 ≤ gi (gl xs s) p ∧ 0 ≤ gi og p ∧ gi (gl xs s) p ≠ gi og p then 1 else 0 := by
  obtain ⟨ha, hl, hb⟩ := grErr_zero h
  have h1 := gi_range (agRow_ok ha hs) hp
  have h2 := agRow_len ha hs
  rw [cntK_eq _ _ _ _ (Nat.le_refl _), List.take_length]
  unfold groupsN
  rw [if_pos h, cnt_unK xs og p s hs og.length]
  have h3 : p < og.length := by rw [hl]; unfold plN; omega
  by_cases hc : 0 ≤ gi (gl xs s) p ∧ 0 ≤ gi og p ∧ gi (gl xs s) p ≠ gi og p
  · rw [if_pos hc, if_pos ⟨h3, hc.2.1, hc.1, h1.2, hc.2.2⟩]
  · rw [if_neg hc, if_neg (fun e => hc ⟨e.2.2.1, e.2.1, e.2.2.2.2⟩)]
end Go.Proofs.YtpjijbophjdgaaaGreat
namespace Go.Proofs.YtpjijbophjdgaaaGreat
open Go.RowKit Go.Deep
end Go.Proofs.YtpjijbophjdgaaaGreat
namespace Go.Proofs.YtpjijbophjdgaaaGreat
open Go.RowKit Go.Deep
section
variable {B : Nat} {W W' : World} {s f n : Value} {S F : List Int} {L : List ByteArray} {g cap k : Nat}
end
end Go.Proofs.YtpjijbophjdgaaaGreat
