/- The helpers of the statements on layer 32: GreatNames, GreatTree, Great, small, four. Contracts: equal lists of lists. The order in which split.Build takes the splits: its closure. split.leafName; the closure of split.Build that adds a node. The closure of split.Build that finds the least set that holds a leaf. -/
import Derived.Test.YtcbmbhghmfehpaaGreatQ25
import Derived.Test.YtcbmbhghmfehpaaGreatQ20
import Derived.Test.YtcbmbhghmfehpaaGreatQ12
import Derived.Test.YtcbmbhghmfehpaaGreatQ31
import Derived.Test.YtcbmbhghmfehpaaGreatQ3
import Derived.Test.YtcbmbhghmfehpaaGreatQ29
import Derived.Test.YtcbmbhghmfehpaaGreatQ21
import Derived.Test.YtcbmbhghmfehpaaGreatQ1
namespace Go.Proofs.YtcbmbhghmfehpaaGreat
open Go.RowKit Go.Deep
set_option maxRecDepth 100000 in
set_option maxHeartbeats 400000 in
theorem great04_t (S : Nat → Prop) (w : World) (v : Value) (xs : List Int) (h : IntsAt S w v xs) (hn : xs.length ≤ 9223372036854775807) :
    Calls Tryz.prog 46 #[v] w fun e w' => e = .returned (.bool (decide (12 < xs.length))) ∧ w = w' := by
  obtain ⟨p, cap, rfl, hcap, _⟩ := SlAt.open h
  clear h
  go_enter Tryz.func46, Tryz.ntmps46
  go_wp2_with fail
  go_ret
  exact ⟨ret_bool (by rw [Bool.eq_iff_iff, decide_eq_true_eq, decide_eq_true_eq]; omega), rfl⟩
theorem great04_d (S : Nat → Prop) (w : World) (v : Value) (xs : List Int) (h : IntsAt S w v xs) (hn : xs.length ≤ 9223372036854775807) : FnD 46 #[] #[v] (.bool (decide (12 < xs.length))) w := by
  intro m
  refine (great04_t S (w.drewN m) v xs (IntsAt.keep h ((Up.drewN w m).kept _)) hn).mono ?_
  rintro e w' ⟨rfl, rfl⟩
  exact ⟨rfl, m, rfl⟩
def grL (l : List (List Int)) : Bool := (List.range l.length).any fun k => decide (12 < (gl l k).length)
theorem grL_small {l : List (List Int)} (h : grL l = false) (k : Nat) : (gl l k).length ≤ 12 := by
  by_cases hk : k < l.length
  · have := of_decide_eq_false (any_false h hk); omega
  · have : gl l k = [] := by simp [gl, show l.length ≤ k by omega]
    rw [this]; decide
theorem great04_has (S : Nat → Prop) (w : World) (v : Value) (l : List (List Int)) (h : RowsAt S w v l) (hn : l.length ≤ 1000000) (hr : ∀ k, (gl l k).length ≤ 9223372036854775807) :
    Calls Tryz.prog 20 #[v, .func (.func 46) #[] #[]] w fun e w' => e = .returned (.bool (grL l)) ∧ ∃ q, w' = w.drewN q := by
  obtain ⟨f, hf1, hf2⟩ := h
  exact rows_has_d 46 #[] (enters_of Tryz.func46 (by kernel_rfl) rfl) S w v l.length f (fun k => decide (12 < (gl l k).length)) hf1 hn fun k hk => great04_d S w _ _ (hf2 k hk) (hr k)
def FourPost (w : World) (e : Ending) (w' : World) : Prop := Up w w' ∧ ∃ v, e = .returned v ∧ StrsAt Any w' v fourX
set_option maxRecDepth 100000 in
set_option maxHeartbeats 400000 in
theorem four_t (w : World) : Calls Tryz.prog 109 #[] w (FourPost w) := by
  have HU := Lib.hid (Up.alloc w (.cells #[.string ⟨#[65]⟩, .string ⟨#[66]⟩, .string ⟨#[67]⟩, .string ⟨#[68]⟩] 9))
  have HS := Lib.hid (lit_strs w #[.string ⟨#[65]⟩, .string ⟨#[66]⟩, .string ⟨#[67]⟩, .string ⟨#[68]⟩] 9 fourX rfl 4 rfl)
  go_enter Tryz.func109, Tryz.ntmps109
  go_wp2_with fail
  go_ret
  exact ⟨HU.out, _, rfl, HS.out⟩
end Go.Proofs.YtcbmbhghmfehpaaGreat
namespace Go.Proofs.YtcbmbhghmfehpaaGreat
open Go.RowKit Go.Deep
set_option maxRecDepth 100000 in
set_option maxHeartbeats 400000 in
theorem same04_t (S T : Nat → Prop) (w : World) (v u : Value) (xs ys : List Int) (h : IntsAt S w v xs) (h2 : IntsAt T w u ys) (hn : xs.length ≤ 1000000) (hn2 : ys.length ≤ 1000000) :
    Calls Tryz.prog 116 #[v, u] w (EqPost w (decide (xs = ys))) := by
  obtain ⟨p, cap, rfl, hcap, _⟩ := SlAt.open h
  obtain ⟨q, cap2, rfl, hcap2, _⟩ := SlAt.open h2
  have HX : Hid (IntsAt S w (.slice p xs.length cap) xs) := h
  have HY : Hid (IntsAt T w (.slice q ys.length cap2) ys) := h2
  clear h h2
  by_cases hl : xs.length = ys.length
  · have hl1 : ((xs.length : Int) != ys.length) = false := by simp [hl]
    have HL := Lib.hid hl
    clear hl
    go_enter Tryz.func116, Tryz.ntmps116
    go_wp2_with fail
    go_loopw [5] (fun i wr => ∃ k n : Nat, k ≤ xs.length ∧ i = .int .i64 k ∧ wr = w.drewN n ∧ Hid (∀ j, j < k → gi xs j = gi ys j)) (fun i _ => xs.length - (intOf i).toNat)
    case atStart => exact ⟨0, 0, Nat.zero_le _, rfl, rfl, fun j hj => absurd hj (Nat.not_lt_zero _)⟩
    case round =>
      obtain ⟨k, n, hk, rfl, rfl, hd⟩ := hrel
      by_cases hlt : k < xs.length
      · have hlt2 : k < ys.length := by rw [← HL.out]; exact hlt
        obtain ⟨b, off, rfl, hc⟩ := ints_get HX.out hlt
        obtain ⟨b2, off2, rfl, hc2⟩ := ints_get HY.out hlt2
        have i1 : (0 : Int) ≤ (k : Int) := by omega
        have i2 : (k : Int) < (xs.length : Int) := by omega
        have i3 : (k : Int) < (ys.length : Int) := by omega
        generalize hx : gi xs k = x at *
        generalize hy : gi ys k = y at *
        have HXX := Lib.hid hx
        have HYY := Lib.hid hy
        clear hx hy
        by_cases hxy : x = y
        · have hxy1 : (x != y) = false := by simp [hxy]
          have HXY := Lib.hid hxy
          clear hxy
          go_wp2_with fail
          go_quiet (fail)
          go_wp2_with fail
          go_roundw
          case rel => exact ⟨k + 1, n + nq, by omega, by go_num, rfl, fun j hj => if e : j = k then by subst e; rw [HXX.out, HYY.out, HXY.out] else hd.out j (by omega)⟩
          case measure => simp [intOf]; omega
        · have hxy1 : (x != y) = true := by simpa using hxy
          have HXY := Lib.hid hxy
          clear hxy
          go_wp2_with fail
          go_quiet (fail)
          go_wp2_with fail
          go_ret
          refine ⟨ret_bool ?_, n + nq, by rw [World.drewN_drewN]⟩
          rw [eq_comm, decide_eq_false_iff_not]
          rintro rfl
          exact HXY.out (by rw [← HXX.out, ← HYY.out])
      · obtain rfl : k = xs.length := by omega
        clear hlt hk
        have hex : xs = ys := ints_ext HL.out hd.out
        have HEX : Hid (decide (xs = ys) = true) := decide_eq_true hex
        clear hex
        go_wp2_with fail
        go_ret
        exact ⟨ret_bool (by rw [HEX.out]), n, rfl⟩
  · have hl1 : ((xs.length : Int) != ys.length) = true := by simp; omega
    have HL := Lib.hid hl
    clear hl
    go_enter Tryz.func116, Tryz.ntmps116
    go_wp2_with fail
    go_ret
    refine ⟨ret_bool ?_, 0, rfl⟩
    rw [eq_comm, decide_eq_false_iff_not]
    rintro rfl
    exact HL.out rfl

set_option maxRecDepth 100000 in
set_option maxHeartbeats 800000 in
theorem sameLists_t (S T : Nat → Prop) (w : World) (v u : Value) (xs ys : List (List Int)) (h : RowsAt S w v xs) (h2 : RowsAt T w u ys) (hn : xs.length ≤ 1000000) (hn2 : ys.length ≤ 1000000) (hr : ∀ k, (gl xs k).length ≤ 1000000) (hr2 : ∀ k, (gl ys k).length ≤ 1000000) :
    Calls Tryz.prog 50 #[v, u] w (EqPost w (decide (xs = ys))) := by
  obtain ⟨p, cap, rfl, hcap, _⟩ := rows_open h
  obtain ⟨q, cap2, rfl, hcap2, _⟩ := rows_open h2
  have HX := Lib.hid h
  have HY := Lib.hid h2
  have HR := Lib.hid hr
  have HR2 := Lib.hid hr2
  clear h h2 hr hr2
  by_cases hl : xs.length = ys.length
  · have hl1 : ((xs.length : Int) != ys.length) = false := by simp [hl]
    have HL := Lib.hid hl
    clear hl
    go_enter Tryz.func50, Tryz.ntmps50
    go_wp2_with fail
    go_loopw [5] (fun i wr => ∃ k : Nat, k ≤ xs.length ∧ i = .int .i64 k ∧ Hid (QD w wr) ∧ Hid (∀ j, j < k → gl xs j = gl ys j)) (fun i _ => xs.length - (intOf i).toNat)
    case atStart => exact ⟨0, Nat.zero_le _, rfl, QD.refl _, fun j hj => absurd hj (Nat.not_lt_zero _)⟩
    case round =>
      obtain ⟨k, hk, rfl, hQ, hd⟩ := hrel
      by_cases hlt : k < xs.length
      · have hlt2 : k < ys.length := by rw [← HL.out]; exact hlt
        obtain ⟨b, off, rq, rc, rfl, hc, hri⟩ := rows_get (HX.out.keep (hQ.out.kept S)) hlt
        obtain ⟨b2, off2, rq2, rc2, rfl, hc2, hri2⟩ := rows_get (HY.out.keep (hQ.out.kept T)) hlt2
        have i1 : (0 : Int) ≤ (k : Int) := by omega
        have i2 : (k : Int) < (xs.length : Int) := by omega
        have i3 : (k : Int) < (ys.length : Int) := by omega
        have hsame := fun m => same04_t S T (wr.drewN m) _ _ _ _ (IntsAt.keep hri (kept_drewN S wr m)) (IntsAt.keep hri2 (kept_drewN T wr m)) (HR.out k) (HR2.out k)
        clear hri hri2
        by_cases hxy : gl xs k = gl ys k
        · have hb : decide (gl xs k = gl ys k) = true := decide_eq_true hxy
          simp only [hb] at hsame
          have HS := Lib.hid hsame
          have HXY := Lib.hid hxy
          clear hxy hb hsame
          go_wp2_with fail
          go_quiet (exact eq_quiet (HS.out _))
          go_wp2_with fail
          go_roundw
          case rel => exact ⟨k + 1, by omega, by go_num, hQ.out.drewN nq, fun j hj => if e : j = k then by subst e; exact HXY.out else hd.out j (by omega)⟩
          case measure => simp [intOf]; omega
        · have hb : decide (gl xs k = gl ys k) = false := decide_eq_false hxy
          simp only [hb] at hsame
          have HS := Lib.hid hsame
          have HXY := Lib.hid hxy
          clear hxy hb hsame
          go_wp2_with fail
          go_quiet (exact eq_quiet (HS.out _))
          go_wp2_with fail
          go_ret
          refine ⟨ret_bool ?_, hQ.out.drewN nq⟩
          rw [eq_comm, decide_eq_false_iff_not]
          rintro rfl
          exact HXY.out rfl
      · obtain rfl : k = xs.length := by omega
        clear hlt hk
        have hex : xs = ys := rows_ext HL.out hd.out
        have HEX : Hid (decide (xs = ys) = true) := decide_eq_true hex
        clear hex
        go_wp2_with fail
        go_ret
        exact ⟨ret_bool (by rw [HEX.out]), hQ.out⟩
  · have hl1 : ((xs.length : Int) != ys.length) = true := by simp; omega
    have HL := Lib.hid hl
    clear hl
    go_enter Tryz.func50, Tryz.ntmps50
    go_wp2_with fail
    go_ret
    refine ⟨ret_bool ?_, 0, rfl⟩
    rw [eq_comm, decide_eq_false_iff_not]
    rintro rfl
    exact HL.out rfl
end Go.Proofs.YtcbmbhghmfehpaaGreat
namespace Go.Proofs.YtcbmbhghmfehpaaGreat
open Go.RowKit Go.Deep Go.Sort
def orI (x y : Int) : Int := if x ≠ 0 then x else y
set_option maxHeartbeats 1000000 in
theorem or_t (w : World) (b : Nat) (x y : Int) (h0 : w.cell? ⟨b, 0, none⟩ = some (.int .i64 x)) (h1 : w.cell? ⟨b, 1, none⟩ = some (.int .i64 y)) :
    Calls Tryz.prog 101 #[.slice (some ⟨b, 0, none⟩) 2 2] w fun e w' => e = .returned (.int .i64 (orI x y)) ∧ w = w' := by
  have HO : Hid (orI x y = if x ≠ 0 then x else y) := rfl
  have H0 := Lib.hid h0
  have H1 := Lib.hid h1
  clear h0 h1
  go_enter Tryz.func101, Tryz.ntmps101
  go_wp2_with fail
  go_loop [5, 8] (fun _ i => ∃ k : Nat, k ≤ 2 ∧ i = .int .i64 k ∧ Hid (0 < k → x = 0) ∧ Hid (1 < k → y = 0)) (fun _ i => 2 - (intOf i).toNat)
  case atStart => exact ⟨0, Nat.zero_le _, rfl, fun h => absurd h (Nat.lt_irrefl _), fun h => absurd h (by omega)⟩
  case round =>
    obtain ⟨k, hk, rfl, hd, hd2⟩ := hrel
    have c0 := H0.out
    have c1 := H1.out
    by_cases k0 : k = 0
    · subst k0
      by_cases hx : x = 0
      · have HX := Lib.hid hx
        subst hx
        go_wp2_with fail
        go_round
        case rel => exact ⟨1, by omega, by go_num, fun _ => (by first | rfl | trivial), fun h => absurd h (by omega)⟩
        case measure => simp [intOf]
      · have HX := Lib.hid hx
        have d1 : (x == 0) = false := by simpa using hx
        have d2 : (x != 0) = true := by simpa using hx
        clear hx
        go_wp2_with fail
        go_ret
        exact ⟨ret_int (by rw [HO.out, if_pos HX.out]), rfl⟩
    by_cases k1 : k = 1
    · subst k1
      have HX := Lib.hid (hd.out (by omega))
      by_cases hy : y = 0
      · subst hy
        go_wp2_with fail
        go_round
        case rel => exact ⟨2, by omega, by go_num, fun _ => HX.out, fun _ => (by first | rfl | trivial)⟩
        case measure => simp [intOf]
      · have d1 : (y == 0) = false := by simpa using hy
        have d2 : (y != 0) = true := by simpa using hy
        clear hy
        go_wp2_with fail
        go_ret
        exact ⟨ret_int (by rw [HO.out, if_neg (fun e => e HX.out)]), rfl⟩
    · obtain rfl : k = 2 := by omega
      have HX := Lib.hid (hd.out (by omega))
      have HY := Lib.hid (hd2.out (by omega))
      go_wp2_with fail
      go_ret
      exact ⟨ret_int (by rw [HO.out, if_neg (fun e => e HX.out), HY.out]), rfl⟩
theorem orQ (a b : List Int) : orI (cmpI (b.length : Int) (a.length : Int)) (cmpL a b) = cmpQ a b := by
  unfold orI cmpI cmpQ
  by_cases h1 : b.length < a.length
  · rw [if_pos (show (b.length : Int) < (a.length : Int) by omega), if_pos (by decide), if_pos h1]
  · rw [if_neg (show ¬ (b.length : Int) < (a.length : Int) by omega), if_neg h1]
    by_cases h2 : a.length < b.length
    · rw [if_pos (show (a.length : Int) < (b.length : Int) by omega), if_pos (by decide), if_pos h2]
    · rw [if_neg (show ¬ (a.length : Int) < (b.length : Int) by omega), if_neg h2, if_neg (fun e => e rfl)]
set_option maxRecDepth 100000 in
set_option maxHeartbeats 1000000 in
theorem cmpQ_t (S T : Nat → Prop) (w : World) (v u : Value) (a b : List Int) (h : IntsAt S w v a) (h2 : IntsAt T w u b) (hn : a.length ≤ 1000000) (hm : b.length ≤ 1000000) :
    Calls Tryz.prog 100 #[v, u] w fun e w' => e = .returned (.int .i64 (cmpQ a b)) ∧ ∃ n os, w' = grow (w.drewN n) os := by
  have HC := Lib.hid (cmpI_t (b.length : Int) (a.length : Int) w)
  have HL := Lib.hid (cmpL_t S T w v u a b h h2 hn hm)
  have HQ := Lib.hid (orQ a b)
  obtain ⟨p, cap, rfl, -, -⟩ := SlAt.open h
  obtain ⟨q, caq, rfl, -, -⟩ := SlAt.open h2
  have HOR : Hid (Calls Tryz.prog 101 #[.slice (some ⟨w.heap.size, 0, none⟩) 2 2] (w.alloc (.cells #[.int .i64 (cmpI (b.length : Int) (a.length : Int)), .int .i64 (cmpL a b)] 3)) fun e w' => e = .returned (.int .i64 (cmpQ a b)) ∧ w.alloc (.cells #[.int .i64 (cmpI (b.length : Int) (a.length : Int)), .int .i64 (cmpL a b)] 3) = w') := by
    have h := or_t (w.alloc (.cells #[.int .i64 (cmpI (b.length : Int) (a.length : Int)), .int .i64 (cmpL a b)] 3)) w.heap.size _ _ (box2_0 w _ _ _) (box2_1 w _ _ _)
    rw [HQ.out] at h; exact h
  have HGR : Hid (∃ n os, w.alloc (.cells #[.int .i64 (cmpI (b.length : Int) (a.length : Int)), .int .i64 (cmpL a b)] 3) = grow (w.drewN n) os) := ⟨0, #[_], alloc_eq_grow w _⟩
  clear h h2
  go_enter Tryz.func100, Tryz.ntmps100
  go_wp2_with fail
  refine HC.out.mono ?_
  rintro e w' ⟨rfl, rfl⟩
  go_wp2_with fail
  refine HL.out.mono ?_
  rintro e w' ⟨rfl, rfl⟩
  go_wp2_with fail
  refine HOR.out.mono ?_
  rintro e w' ⟨rfl, rfl⟩
  go_wp2_with fail
  go_ret
  exact ⟨rfl, HGR.out⟩
end Go.Proofs.YtcbmbhghmfehpaaGreat
namespace Go.Proofs.YtcbmbhghmfehpaaGreat
open Go.RowKit Go.Deep
theorem named_starF (s : ByteArray) (h : s.size - 1 < s.size) (h16 : 16 < s.size) (h42 : ((s[s.size - 1].toNat : Int) == 42) = true) : namedB s.data.toList = false := by
  have hl := size_data s
  have h2 : s[s.size - 1] = 42 := by
    have h3 : (s[s.size - 1].toNat : Int) = 42 := by simpa using h42
    have h4 : s[s.size - 1].toNat = 42 := by omega
    exact UInt8.toNat_inj.1 h4
  unfold namedB
  rw [last_get s h, h2, if_pos rfl, hl, decide_eq_false (by omega), Bool.and_false]
set_option maxRecDepth 100000 in
set_option maxHeartbeats 400000 in
theorem leafName_t (s : ByteArray) (hs : s.size ≤ 70000) (w : World) : Calls Tryz.prog 98 #[.string s] w fun e w' => e = .returned (.bool (namedB s.data.toList)) ∧ w = w' := by
  go_enter Tryz.func98, Tryz.ntmps98
  go_wp2_with fail
  · have hf := Lib.hid (named_star s (by omega) (by omega) ‹_›)
    refine (isName_t _ (by simp; omega) _).mono ?_
    rintro e w1 ⟨rfl, rfl⟩
    rw [← hf.out]
    go_wp2_with fail
    go_ret
    exact ⟨rfl, rfl⟩
  · have hf := Lib.hid (named_starF s (by omega) (by omega) ‹_›)
    go_ret
    exact ⟨ret_bool hf.out.symm, rfl⟩
  · have hf := Lib.hid (named_plain s (by omega) ‹_›)
    refine (isName_t _ hs _).mono ?_
    rintro e w1 ⟨rfl, rfl⟩
    rw [← hf.out]
    go_wp2_with fail
    go_ret
    exact ⟨rfl, rfl⟩
  · have hf := Lib.hid (named_one s (by omega))
    refine (isName_t _ hs _).mono ?_
    rintro e w1 ⟨rfl, rfl⟩
    rw [← hf.out]
    go_wp2_with fail
    go_ret
    exact ⟨rfl, rfl⟩
set_option maxRecDepth 100000 in
set_option maxHeartbeats 4000000 in
theorem add_t (tb B0 : Nat) (t : Tre) (z : Int) (nm : ByteArray) (w : World) (P N : Value) (hG : GS tb B0 w P N t) (hns : t.ns.length = t.ps.length) (hl : t.ps.length + 1 ≤ 1000000) :
    Calls Tryz.prog 99 #[.int .i64 z, .string nm, .pointer (some ⟨tb, 0, none⟩)] w fun e w' => e = .returned (.int .i64 (t.ps.length : Int)) ∧ ∃ P' N', GS tb B0 w' P' N' (t.push z nm) ∧ GK tb w w' P N P' N' := by
  obtain ⟨hc0, hc1, _, _⟩ := hG.cells
  obtain ⟨pp, pc, rfl, _⟩ := hG.tl.pown.form (n := t.ps.length) (by simp)
  obtain ⟨np, nc, rfl, _⟩ := hG.tl.nown.form (n := t.ps.length) (by simp [hns])
  have HG := Lib.hid hG
  have HNS := Lib.hid hns
  clear hG hns
  go_enter Tryz.func99, Tryz.ntmps99
  go_wp2_with fail
  go_cut [] from 6 to 17 (fun wx => ∃ P' N', GS tb B0 wx P' N' (t.push z nm) ∧ GK tb w wx (.slice pp t.ps.length pc) (.slice np t.ps.length nc) P' N')
  case first =>
    have hd := Up.drewN w 1
    have HGS := Lib.hid HG.out
    have HBX := Lib.hid HG.out.box
    have HRd : Hid (RS tb B0 w w.drew (.slice pp t.ps.length pc) (.slice np t.ps.length nc) (.slice pp t.ps.length pc) (.slice np t.ps.length nc) t.ps t.ns) := (RS.start HG.out.tl HG.out.lo).up hd
    have HPL : Hid (t.ps.length ≤ 1000000 ∧ t.ns.length ≤ 1000000) := ⟨by omega, by rw [HNS.out]; omega⟩
    refine region_T (by kernel_rfl) 10 (fun w' => w'.cell? ⟨tb, 0, none⟩ = some (.slice pp t.ps.length pc) ∧ w'.cell? ⟨tb, 1, none⟩ = some (.slice np t.ps.length nc)) (HRd.out.cells HBX.out) (fun hS => ?_)
    simp only [List.size_toArray, List.length_cons, List.length_nil, Nat.reduceAdd, Array.replicate_succ, Array.replicate_zero, List.push_toArray, List.nil_append, List.cons_append]
    generalize w.drew = Wd at *
    refine anyT.take (i := 0) (v := ?gv0) rfl (by kernel_rfl) (fun _ _ _ h => h) (by rfl) (fun w hSw => ?gy0) hS ?gr0
    case gy0 =>
      (try dsimp only at hSw)
      go_simp
      try with_reducible rfl
    try simp only [Act.put, List.setIfInBounds_toArray, List.set_cons_zero, List.set_cons_succ]
    refine anyT.take (i := 1) (v := ?gv1) rfl (by kernel_rfl) (fun _ _ _ h => h) (by rfl) (fun w hSw => ?gy1) hS ?gr1
    case gy1 =>
      (try dsimp only at hSw)
      go_simp
      try with_reducible rfl
    try simp only [Act.put, List.setIfInBounds_toArray, List.set_cons_zero, List.set_cons_succ]
    refine anyT.take (i := 2) (v := ?gv2) rfl (by kernel_rfl) (fun _ _ _ h => h) (by rfl) (fun w hSw => ?gy2) hS ?gr2
    case gy2 =>
      (try dsimp only at hSw)
      go_simp
      try with_reducible rfl
    try simp only [Act.put, List.setIfInBounds_toArray, List.set_cons_zero, List.set_cons_succ]
    refine anyT.take (i := 5) (v := ?gv5) rfl (by kernel_rfl) (fun _ _ _ h => h) (by rfl) (fun w hSw => ?gy5) hS ?gr5
    case gy5 =>
      (try dsimp only at hSw)
      go_simp
      try with_reducible rfl
    try simp only [Act.put, List.setIfInBounds_toArray, List.set_cons_zero, List.set_cons_succ]
    refine anyT.take (i := 6) (v := ?gv6) rfl (by kernel_rfl) (fun _ _ _ h => h) (by rfl) (fun w hSw => ?gy6) hS ?gr6
    case gy6 =>
      (try dsimp only at hSw)
      go_simp
      try with_reducible rfl
    try simp only [Act.put, List.setIfInBounds_toArray, List.set_cons_zero, List.set_cons_succ]
    refine anyT.take (i := 7) (v := ?gv7) rfl (by kernel_rfl) (fun _ _ _ h => h) (by rfl) (fun w hSw => ?gy7) hS ?gr7
    case gy7 =>
      (try dsimp only at hSw)
      go_simp
      try with_reducible rfl
    try simp only [Act.put, List.setIfInBounds_toArray, List.set_cons_zero, List.set_cons_succ]
    refine anyT.step2 (i := 3) (i2 := 8) rfl rfl (by kernel_rfl) (fun K' hK => ?_) (fun K' hK => ?_)
    · go_simp
      have HRa : Hid (RS tb B0 _ (Wd.alloc (.cells #[.int .i64 z] 3)) _ _ _ _ _ _) := HRd.out.up (Up.alloc _ _)
      refine hK.out _ _ (fun _ => HRa.out.cells HBX.out) (fun _ => ?_)
      try simp only [List.setIfInBounds_toArray, List.set_cons_zero, List.set_cons_succ]
      refine anyT.step2 (i := 4) (i2 := 8) rfl rfl (by kernel_rfl) (fun K' hK => ?_) (fun K' hK => ?_)
      · refine step_app1 (by rfl) _ _ _ (by rfl) B0 3 _ 8 Tryz.underlying26 Tryz.infoI (by rfl) (by decide) (by rfl) HRa.out.tl.pown (.int .i64 z) Wd.heap.size (by rfl) (cell_at_new Wd #[.int .i64 z] 3 0) (by rfl) (by rw [List.length_map]; exact HPL.out.1) (Nat.le_trans HRa.out.lo.2 HRa.out.gk.size) ?_
        intro g1 g1c We1 hog1 hgg1 hrg1 _
        have HRb : Hid (RS tb B0 _ We1 _ _ _ _ _ _) := HRa.out.appP hog1 hgg1 (hrg1.imp id (fun e => Nat.le_of_eq e.symm))
        refine hK.out _ _ (fun _ => HRb.out.cells HBX.out) (fun _ => ?_)
        try simp only [Act.put, List.setIfInBounds_toArray, List.set_cons_zero, List.set_cons_succ]
        refine anyT.free (i := 10) (v := ?gv10a) rfl (by kernel_rfl) (fun _ _ _ h => h) (by rfl) (fun w => ?gy10a) (fun _ => HRb.out.cells HBX.out) ?gr10a
        case gy10a =>
          go_simp
          try with_reducible rfl
        try simp only [Act.put, List.setIfInBounds_toArray, List.set_cons_zero, List.set_cons_succ]
        refine anyT.step (i := 8) rfl (by kernel_rfl) (fun K' hK => ?_)
        go_simp
        have HRc : Hid (RS tb B0 _ (We1.alloc (.cells #[.string nm] 9)) _ _ _ _ _ _) := HRb.out.up (Up.alloc _ _)
        refine hK.out _ _ (fun _ => HRc.out.cells HBX.out) (fun _ => ?_)
        try simp only [List.setIfInBounds_toArray, List.set_cons_zero, List.set_cons_succ]
        refine anyT.step (i := 9) rfl (by kernel_rfl) (fun K' hK => ?_)
        refine step_app1 (by rfl) _ _ _ (by rfl) B0 9 _ 16 Tryz.underlying43 Tryz.infoStr2 (by rfl) (by decide) (by rfl) HRc.out.tl.nown (.string nm) We1.heap.size (by rfl) (cell_at_new We1 #[.string nm] 9 0) (by rfl) (by rw [List.length_map]; exact HPL.out.2) (Nat.le_trans HRc.out.lo.2 HRc.out.gk.size) ?_
        intro g2 g2c We2 hog2 hgg2 hrg2 _
        have HRf : Hid (RS tb B0 _ We2 _ _ _ _ _ _) := HRc.out.appN hog2 hgg2 (hrg2.imp id (fun e => Nat.le_of_eq e.symm))
        refine hK.out _ _ (fun _ => HRf.out.cells HBX.out) (fun _ => ?_)
        try simp only [Act.put, List.setIfInBounds_toArray, List.set_cons_zero, List.set_cons_succ]
        obtain ⟨hbe, hbe1⟩ := HRf.out.cells HBX.out
        have hfe := HRf.out.frozen HBX.out 0
        have hfe1 := HRf.out.frozen HBX.out 1
        have HFIN := Lib.hid (HRf.out.store HGS.out)
        refine anyT.step (i := 11) rfl (by kernel_rfl) (fun K' hK => ?_)
        go_simp
        refine hK.out _ _ (not_more (by kernel_rfl)) (fun _ => ?_)
        try simp only [List.setIfInBounds_toArray, List.set_cons_zero, List.set_cons_succ]
        refine anyT.free (i := 12) (v := ?gv12a) rfl (by kernel_rfl) (fun _ _ _ h => h) (by rfl) (fun w => ?gy12a) (not_more (by kernel_rfl)) ?gr12a
        case gy12a =>
          go_simp
          try with_reducible rfl
        try simp only [Act.put, List.setIfInBounds_toArray, List.set_cons_zero, List.set_cons_succ]
        refine anyT.step (i := 13) rfl (by kernel_rfl) (fun K' hK => ?_)
        go_simp
        refine hK.out _ _ (not_more (by kernel_rfl)) (fun _ => ?_)
        refine anyT.done (by kernel_rfl) ?_
        go_wp2_with fail
        go_meet
        case rel =>
          have hfin := HFIN.out
          simp only [List.length_map] at hfin
          exact ⟨_, _, hfin.1, hfin.2⟩
      · go_simp
        have HRb : Hid (RS tb B0 _ ((Wd.alloc (.cells #[.int .i64 z] 3)).alloc (.cells #[.string nm] 9)) _ _ _ _ _ _) := HRa.out.up (Up.alloc _ _)
        refine hK.out _ _ (fun _ => HRb.out.cells HBX.out) (fun _ => ?_)
        try simp only [List.setIfInBounds_toArray, List.set_cons_zero, List.set_cons_succ]
        have hcN := cell_at_new (Wd.alloc (.cells #[.int .i64 z] 3)) #[.string nm] 9 0
        have hcP := (Up.alloc (Wd.alloc (.cells #[.int .i64 z] 3)) (.cells #[.string nm] 9)).cell (cell_at_new Wd #[.int .i64 z] 3 0)
        rw [World.size_alloc] at hcN
        refine anyT.step (i := 4) rfl (by kernel_rfl) (fun K' hK => ?_)
        refine step_app1 (by rfl) _ _ _ (by rfl) B0 3 _ 8 Tryz.underlying26 Tryz.infoI (by rfl) (by decide) (by rfl) HRb.out.tl.pown (.int .i64 z) Wd.heap.size (by rfl) hcP (by rfl) (by rw [List.length_map]; exact HPL.out.1) (Nat.le_trans HRb.out.lo.2 HRb.out.gk.size) ?_
        intro g1 g1c We1 hog1 hgg1 hrg1 _
        have HRc : Hid (RS tb B0 _ We1 _ _ _ _ _ _) := HRb.out.appP hog1 hgg1 (hrg1.imp id (fun e => Nat.le_of_eq e.symm))
        have hcN1 : We1.cell? ⟨Wd.heap.size + 1, 0, none⟩ = some (.string nm) := by
          rw [hgg1.cell_far ⟨Wd.heap.size + 1, 0, none⟩ (by simp) (fun e => absurd (ownBlock_lt HRd.out.tl.pown e.symm).2 (by show ¬ (Wd.heap.size + 1 < Wd.heap.size); omega))]; exact hcN
        refine hK.out _ _ (fun _ => HRc.out.cells HBX.out) (fun _ => ?_)
        try simp only [Act.put, List.setIfInBounds_toArray, List.set_cons_zero, List.set_cons_succ]
        refine anyT.free (i := 10) (v := ?gv10b) rfl (by kernel_rfl) (fun _ _ _ h => h) (by rfl) (fun w => ?gy10b) (fun _ => HRc.out.cells HBX.out) ?gr10b
        case gy10b =>
          go_simp
          try with_reducible rfl
        try simp only [Act.put, List.setIfInBounds_toArray, List.set_cons_zero, List.set_cons_succ]
        refine anyT.step (i := 9) rfl (by kernel_rfl) (fun K' hK => ?_)
        refine step_app1 (by rfl) _ _ _ (by rfl) B0 9 _ 16 Tryz.underlying43 Tryz.infoStr2 (by rfl) (by decide) (by rfl) HRc.out.tl.nown (.string nm) (Wd.heap.size + 1) (by rfl) hcN1 (by rfl) (by rw [List.length_map]; exact HPL.out.2) (Nat.le_trans HRc.out.lo.2 HRc.out.gk.size) ?_
        intro g2 g2c We2 hog2 hgg2 hrg2 _
        have HRf : Hid (RS tb B0 _ We2 _ _ _ _ _ _) := HRc.out.appN hog2 hgg2 (hrg2.imp id (fun e => Nat.le_of_eq e.symm))
        refine hK.out _ _ (fun _ => HRf.out.cells HBX.out) (fun _ => ?_)
        try simp only [Act.put, List.setIfInBounds_toArray, List.set_cons_zero, List.set_cons_succ]
        obtain ⟨hbe, hbe1⟩ := HRf.out.cells HBX.out
        have hfe := HRf.out.frozen HBX.out 0
        have hfe1 := HRf.out.frozen HBX.out 1
        have HFIN := Lib.hid (HRf.out.store HGS.out)
        refine anyT.step (i := 11) rfl (by kernel_rfl) (fun K' hK => ?_)
        go_simp
        refine hK.out _ _ (not_more (by kernel_rfl)) (fun _ => ?_)
        try simp only [List.setIfInBounds_toArray, List.set_cons_zero, List.set_cons_succ]
        refine anyT.free (i := 12) (v := ?gv12b) rfl (by kernel_rfl) (fun _ _ _ h => h) (by rfl) (fun w => ?gy12b) (not_more (by kernel_rfl)) ?gr12b
        case gy12b =>
          go_simp
          try with_reducible rfl
        try simp only [Act.put, List.setIfInBounds_toArray, List.set_cons_zero, List.set_cons_succ]
        refine anyT.step (i := 13) rfl (by kernel_rfl) (fun K' hK => ?_)
        go_simp
        refine hK.out _ _ (not_more (by kernel_rfl)) (fun _ => ?_)
        refine anyT.done (by kernel_rfl) ?_
        go_wp2_with fail
        go_meet
        case rel =>
          have hfin := HFIN.out
          simp only [List.length_map] at hfin
          exact ⟨_, _, hfin.1, hfin.2⟩
    · go_simp
      have HRa : Hid (RS tb B0 _ (Wd.alloc (.cells #[.string nm] 9)) _ _ _ _ _ _) := HRd.out.up (Up.alloc _ _)
      refine hK.out _ _ (fun _ => HRa.out.cells HBX.out) (fun _ => ?_)
      try simp only [List.setIfInBounds_toArray, List.set_cons_zero, List.set_cons_succ]
      refine anyT.step (i := 3) rfl (by kernel_rfl) (fun K' hK => ?_)
      go_simp
      have HRb : Hid (RS tb B0 _ ((Wd.alloc (.cells #[.string nm] 9)).alloc (.cells #[.int .i64 z] 3)) _ _ _ _ _ _) := HRa.out.up (Up.alloc _ _)
      refine hK.out _ _ (fun _ => HRb.out.cells HBX.out) (fun _ => ?_)
      try simp only [List.setIfInBounds_toArray, List.set_cons_zero, List.set_cons_succ]
      have hcP := cell_at_new (Wd.alloc (.cells #[.string nm] 9)) #[.int .i64 z] 3 0
      have hcN := (Up.alloc (Wd.alloc (.cells #[.string nm] 9)) (.cells #[.int .i64 z] 3)).cell (cell_at_new Wd #[.string nm] 9 0)
      rw [World.size_alloc] at hcP
      refine anyT.step (i := 4) rfl (by kernel_rfl) (fun K' hK => ?_)
      refine step_app1 (by rfl) _ _ _ (by rfl) B0 3 _ 8 Tryz.underlying26 Tryz.infoI (by rfl) (by decide) (by rfl) HRb.out.tl.pown (.int .i64 z) (Wd.heap.size + 1) (by rfl) hcP (by rfl) (by rw [List.length_map]; exact HPL.out.1) (Nat.le_trans HRb.out.lo.2 HRb.out.gk.size) ?_
      intro g1 g1c We1 hog1 hgg1 hrg1 _
      have HRc : Hid (RS tb B0 _ We1 _ _ _ _ _ _) := HRb.out.appP hog1 hgg1 (hrg1.imp id (fun e => Nat.le_of_eq e.symm))
      have hcN1 : We1.cell? ⟨Wd.heap.size, 0, none⟩ = some (.string nm) := by
        rw [hgg1.cell_far ⟨Wd.heap.size, 0, none⟩ (by simp; omega) (fun e => absurd (ownBlock_lt HRd.out.tl.pown e.symm).2 (by show ¬ (Wd.heap.size < Wd.heap.size); omega))]; exact hcN
      refine hK.out _ _ (fun _ => HRc.out.cells HBX.out) (fun _ => ?_)
      try simp only [Act.put, List.setIfInBounds_toArray, List.set_cons_zero, List.set_cons_succ]
      refine anyT.free (i := 10) (v := ?gv10c) rfl (by kernel_rfl) (fun _ _ _ h => h) (by rfl) (fun w => ?gy10c) (fun _ => HRc.out.cells HBX.out) ?gr10c
      case gy10c =>
        go_simp
        try with_reducible rfl
      try simp only [Act.put, List.setIfInBounds_toArray, List.set_cons_zero, List.set_cons_succ]
      refine anyT.step (i := 9) rfl (by kernel_rfl) (fun K' hK => ?_)
      refine step_app1 (by rfl) _ _ _ (by rfl) B0 9 _ 16 Tryz.underlying43 Tryz.infoStr2 (by rfl) (by decide) (by rfl) HRc.out.tl.nown (.string nm) Wd.heap.size (by rfl) hcN1 (by rfl) (by rw [List.length_map]; exact HPL.out.2) (Nat.le_trans HRc.out.lo.2 HRc.out.gk.size) ?_
      intro g2 g2c We2 hog2 hgg2 hrg2 _
      have HRf : Hid (RS tb B0 _ We2 _ _ _ _ _ _) := HRc.out.appN hog2 hgg2 (hrg2.imp id (fun e => Nat.le_of_eq e.symm))
      refine hK.out _ _ (fun _ => HRf.out.cells HBX.out) (fun _ => ?_)
      try simp only [Act.put, List.setIfInBounds_toArray, List.set_cons_zero, List.set_cons_succ]
      obtain ⟨hbe, hbe1⟩ := HRf.out.cells HBX.out
      have hfe := HRf.out.frozen HBX.out 0
      have hfe1 := HRf.out.frozen HBX.out 1
      have HFIN := Lib.hid (HRf.out.store HGS.out)
      refine anyT.step (i := 11) rfl (by kernel_rfl) (fun K' hK => ?_)
      go_simp
      refine hK.out _ _ (not_more (by kernel_rfl)) (fun _ => ?_)
      try simp only [List.setIfInBounds_toArray, List.set_cons_zero, List.set_cons_succ]
      refine anyT.free (i := 12) (v := ?gv12c) rfl (by kernel_rfl) (fun _ _ _ h => h) (by rfl) (fun w => ?gy12c) (not_more (by kernel_rfl)) ?gr12c
      case gy12c =>
        go_simp
        try with_reducible rfl
      try simp only [Act.put, List.setIfInBounds_toArray, List.set_cons_zero, List.set_cons_succ]
      refine anyT.step (i := 13) rfl (by kernel_rfl) (fun K' hK => ?_)
      go_simp
      refine hK.out _ _ (not_more (by kernel_rfl)) (fun _ => ?_)
      refine anyT.done (by kernel_rfl) ?_
      go_wp2_with fail
      go_meet
      case rel =>
        have hfin := HFIN.out
        simp only [List.length_map] at hfin
        exact ⟨_, _, hfin.1, hfin.2⟩
  case rest =>
    obtain ⟨P2, N2, hG2, hK2⟩ := hcut
    obtain ⟨d0, d1, _, _⟩ := hG2.cells
    have e1 : (t.push z nm).ps.length = t.ps.length + 1 := by simp [Tre.push]
    obtain ⟨pp2, pc2, rfl, _⟩ := hG2.tl.pown.form (n := t.ps.length + 1) (by simp [e1])
    have HF := Lib.hid (⟨_, _, hG2, hK2⟩ : ∃ P' N', GS tb B0 wc P' N' (t.push z nm) ∧ GK tb w wc (.slice pp t.ps.length pc) (.slice np t.ps.length nc) P' N')
    have i1 : wrap64 ((((t.ps.length + 1 : Nat)) : Int) - 1) = (t.ps.length : Int) := by unfold wrap64; omega
    have i2 : wrap64 ((t.ps.length : Int) + 1 - 1) = (t.ps.length : Int) := by unfold wrap64; omega
    clear hG2 hK2 e1 hc0 hc1
    go_wp2_with fail
    go_ret
    exact ⟨ret_int (by first | rfl | omega | simp), HF.out⟩
end Go.Proofs.YtcbmbhghmfehpaaGreat
namespace Go.Proofs.YtcbmbhghmfehpaaGreat
open Go.RowKit Go.Deep
set_option maxRecDepth 100000 in
set_option maxHeartbeats 1000000 in
theorem least32_t (S : Nat → Prop) (w : World) (bo bn br : Nat) (ov nv : Value) (own : List (List Int)) (nds : List Int) (x : Int) (m : Nat) (ho : w.cell? ⟨bo, 0, none⟩ = some ov) (hO : RowsAt S w ov own) (hn : w.cell? ⟨bn, 0, none⟩ = some nv) (hN : IntsAt S w nv nds) (hr : w.cell? ⟨br, 0, none⟩ = some (.int .i64 2))
    (hm : m ≤ own.length) (hm2 : m ≤ nds.length) (hnd : ∀ k, k < m → gi nds k = ((3 + k : Nat) : Int)) (hol : own.length ≤ 1000) (hl : ∀ k, (gl own k).length ≤ 1000000) :
    Calls Tryz.prog 102 #[.int .i64 x, .int .i64 (m : Int), .pointer (some ⟨bo, 0, none⟩), .pointer (some ⟨bn, 0, none⟩), .pointer (some ⟨br, 0, none⟩)] w fun e w' => e = .returned (.int .i64 (lastQ own x m)) ∧ w = w' := by
  obtain ⟨op, oc, rfl, -, -⟩ := rows_open hO
  obtain ⟨np, nc, rfl, -, -⟩ := SlAt.open hN
  have HO : Hid (RowsAt S w (.slice op own.length oc) own) := hO
  have HN : Hid (IntsAt S w (.slice np nds.length nc) nds) := hN
  have HND := Lib.hid hnd
  have HL := Lib.hid hl
  have m1 : wrap64 ((m : Int) - 1) = (m : Int) - 1 := by unfold wrap64; omega
  clear hO hN hnd hl
  go_enter Tryz.func102, Tryz.ntmps102
  go_wp2_with fail
  clear m1
  go_loop [8] (fun i => ∃ k : Nat, k ≤ m ∧ i = .int .i64 ((k : Int) - 1) ∧ Hid (lastQ own x m = lastQ own x k)) (fun i => (intOf i + 1).toNat)
  case atStart => exact ⟨m, Nat.le_refl _, rfl, rfl⟩
  case round =>
    obtain ⟨k, hk, rfl, hd⟩ := hrel
    cases k with
    | zero =>
      have i0 : ¬ (0 : Int) ≤ ((0 : Nat) : Int) - 1 := by decide
      go_wp2_with fail
      go_ret
      exact ⟨ret_int hd.out.symm, rfl⟩
    | succ k =>
      obtain ⟨b, off, q, c, rfl, hc, hi⟩ := rows_get HO.out (show k < own.length by omega)
      obtain ⟨b2, off2, rfl, hc2⟩ := ints_get HN.out (show k < nds.length by omega)
      rw [HND.out k (by omega)] at hc2
      have HCT : Hid (Calls Tryz.prog 60 #[.slice q (gl own k).length c, .int .i64 x] w fun e w' => e = .returned (.bool ((gl own k).contains x)) ∧ w = w') := by
        have h := contains_int_t S w _ (gl own k) x hi (HL.out k)
        rw [any_contains] at h; exact h
      have HQ : Hid (lastQ own x (k + 1) = if (gl own k).contains x then ((3 + k : Nat) : Int) else lastQ own x k) := rfl
      have e1 : ((k + 1 : Nat) : Int) - 1 = (k : Int) := by omega
      rw [e1]
      have k1 : (0 : Int) ≤ (k : Int) := Int.natCast_nonneg _
      have k2 : (k : Int) < (own.length : Int) := by omega
      have k3 : (k : Int) < (nds.length : Int) := by omega
      have k4 : wrap64 ((k : Int) - 1) = (k : Int) - 1 := by unfold wrap64; omega
      clear hi e1
      cases hct : (gl own k).contains x
      · rw [hct] at HCT HQ
        have HQ2 : Hid (lastQ own x m = lastQ own x k) := by unfold Hid; rw [hd.out, HQ.out, if_neg (by decide)]
        clear hct
        go_wp2_with fail
        refine HCT.out.mono ?_
        rintro e w' ⟨rfl, rfl⟩
        go_wp2_with fail
        go_round
        case rel => exact ⟨k, by omega, rfl, HQ2⟩
        case measure => clear k4; simp [intOf]
      · rw [hct] at HCT HQ
        have HQ2 : Hid (lastQ own x m = ((3 + k : Nat) : Int)) := by unfold Hid; rw [hd.out, HQ.out, if_pos rfl]
        clear hct k4
        go_wp2_with fail
        refine HCT.out.mono ?_
        rintro e w' ⟨rfl, rfl⟩
        go_wp2_with fail
        go_ret
        exact ⟨ret_int (by rw [HQ2.out]; omega), rfl⟩
end Go.Proofs.YtcbmbhghmfehpaaGreat
