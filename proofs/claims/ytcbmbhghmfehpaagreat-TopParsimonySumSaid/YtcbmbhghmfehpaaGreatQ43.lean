/- The tree of the splits of a tree is this tree, rerooted: plain. split.Distance. The example of chapter 32: what each function answers. The helpers of the statements on layer 32: GreatNames, GreatTree, Great, small, four. Contracts: equal lists of lists. The order in which split.Build takes the splits: its closure. split.leafName; the closure of split.Build that adds a node. -/
import Derived.Test.YtcbmbhghmfehpaaGreatQ29
import Derived.Test.YtcbmbhghmfehpaaGreatQ26
import Derived.Test.YtcbmbhghmfehpaaGreatQ9
import Derived.Test.YtcbmbhghmfehpaaGreatQ35
import Derived.Test.YtcbmbhghmfehpaaGreatQ42
import Derived.Test.YtcbmbhghmfehpaaGreatQ31
import Derived.Test.YtcbmbhghmfehpaaGreatQ20
import Derived.Test.YtcbmbhghmfehpaaGreatQ28
import Derived.Test.YtcbmbhghmfehpaaGreatQ25
import Derived.Test.YtcbmbhghmfehpaaGreatQ22
import Derived.Test.YtcbmbhghmfehpaaGreatQ40
import Derived.Test.YtcbmbhghmfehpaaGreatQ2
namespace Go.Proofs.YtcbmbhghmfehpaaGreat
section
variable {names : List ByteArray} {t : Tre} {S : Nat → List Int} {l : List (List Int)} {la : Nat}
end
end Go.Proofs.YtcbmbhghmfehpaaGreat
namespace Go.Proofs.YtcbmbhghmfehpaaGreat
open Go.RowKit Go.Deep
end Go.Proofs.YtcbmbhghmfehpaaGreat
namespace Go.Proofs.YtcbmbhghmfehpaaGreat
def tX : Tre := ⟨[-1, 0, 1, 1, 0, 4, 4], [⟨#[]⟩, ⟨#[]⟩, ⟨#[65]⟩, ⟨#[66]⟩, ⟨#[]⟩, ⟨#[67]⟩, ⟨#[68]⟩]⟩
def fourX : List ByteArray := [⟨#[65]⟩, ⟨#[66]⟩, ⟨#[67]⟩, ⟨#[68]⟩]
theorem tX_of : splOErr tX fourX = 0 ∧ splO tX fourX = [[2, 3]] := by decide +kernel
end Go.Proofs.YtcbmbhghmfehpaaGreat
namespace Go.Proofs.YtcbmbhghmfehpaaGreat
open Go.RowKit Go.Deep
end Go.Proofs.YtcbmbhghmfehpaaGreat
namespace Go.Proofs.YtcbmbhghmfehpaaGreat
open Go.RowKit Go.Deep
end Go.Proofs.YtcbmbhghmfehpaaGreat
namespace Go.Proofs.YtcbmbhghmfehpaaGreat
open Go.RowKit Go.Deep Go.Sort
def orI (x y : Int) : Int := if x ≠ 0 then x else y
set_option maxHeartbeats 1000000 in
theorem or_t (w : World) (b : Nat) (x y : Int) (h0 : w.cell? ⟨b, 0, none⟩ = some (.int .i64 x)) (h1 : w.cell? ⟨b, 1, none⟩ = some (.int .i64 y)) :
    Calls Tryz.prog 101 #[.slice (some ⟨b, 0, none⟩) 2 2] w fun e w' => e = .returned (.int .i64 (orI x y)) ∧ w = w' := by
  have HO : Hid (orI x y = if x ≠ 0 then x else y) := rfl
  have H0 := Lib.hid h0
  have H1 := Lib.hid h1
  clear h0 h1
  go_enter Tryz.func101, Tryz.ntmps101
  go_wp2_with fail
  go_loop [5, 8] (fun _ i => ∃ k : Nat, k ≤ 2 ∧ i = .int .i64 k ∧ Hid (0 < k → x = 0) ∧ Hid (1 < k → y = 0)) (fun _ i => 2 - (intOf i).toNat)
  case atStart => exact ⟨0, Nat.zero_le _, rfl, fun h => absurd h (Nat.lt_irrefl _), fun h => absurd h (by omega)⟩
  case round =>
    obtain ⟨k, hk, rfl, hd, hd2⟩ := hrel
    have c0 := H0.out
    have c1 := H1.out
    by_cases k0 : k = 0
    · subst k0
      by_cases hx : x = 0
      · have HX := Lib.hid hx
        subst hx
        go_wp2_with fail
        go_round
        case rel => exact ⟨1, by omega, by go_num, fun _ => (by first | rfl | trivial), fun h => absurd h (by omega)⟩
        case measure => simp [intOf]
      · have HX := Lib.hid hx
        have d1 : (x == 0) = false := by simpa using hx
        have d2 : (x != 0) = true := by simpa using hx
        clear hx
        go_wp2_with fail
        go_ret
        exact ⟨ret_int (by rw [HO.out, if_pos HX.out]), rfl⟩
    by_cases k1 : k = 1
    · subst k1
      have HX := Lib.hid (hd.out (by omega))
      by_cases hy : y = 0
      · subst hy
        go_wp2_with fail
        go_round
        case rel => exact ⟨2, by omega, by go_num, fun _ => HX.out, fun _ => (by first | rfl | trivial)⟩
        case measure => simp [intOf]
      · have d1 : (y == 0) = false := by simpa using hy
        have d2 : (y != 0) = true := by simpa using hy
        clear hy
        go_wp2_with fail
        go_ret
        exact ⟨ret_int (by rw [HO.out, if_neg (fun e => e HX.out)]), rfl⟩
    · obtain rfl : k = 2 := by omega
      have HX := Lib.hid (hd.out (by omega))
      have HY := Lib.hid (hd2.out (by omega))
      go_wp2_with fail
      go_ret
      exact ⟨ret_int (by rw [HO.out, if_neg (fun e => e HX.out), HY.out]), rfl⟩
theorem orQ (a b : List Int) : orI (cmpI (b.length : Int) (a.length : Int)) (cmpL a b) = cmpQ a b := by
  unfold orI cmpI cmpQ
  by_cases h1 : b.length < a.length
  · rw [if_pos (show (b.length : Int) < (a.length : Int) by omega), if_pos (by decide), if_pos h1]
  · rw [if_neg (show ¬ (b.length : Int) < (a.length : Int) by omega), if_neg h1]
    by_cases h2 : a.length < b.length
    · rw [if_pos (show (a.length : Int) < (b.length : Int) by omega), if_pos (by decide), if_pos h2]
    · rw [if_neg (show ¬ (a.length : Int) < (b.length : Int) by omega), if_neg h2, if_neg (fun e => e rfl)]
set_option maxRecDepth 100000 in
set_option maxHeartbeats 1000000 in
theorem cmpQ_t (S T : Nat → Prop) (w : World) (v u : Value) (a b : List Int) (h : IntsAt S w v a) (h2 : IntsAt T w u b) (hn : a.length ≤ 1000000) (hm : b.length ≤ 1000000) :
    Calls Tryz.prog 100 #[v, u] w fun e w' => e = .returned (.int .i64 (cmpQ a b)) ∧ ∃ n os, w' = grow (w.drewN n) os := by
  have HC := Lib.hid (cmpI_t (b.length : Int) (a.length : Int) w)
  have HL := Lib.hid (cmpL_t S T w v u a b h h2 hn hm)
  have HQ := Lib.hid (orQ a b)
  obtain ⟨p, cap, rfl, -, -⟩ := SlAt.open h
  obtain ⟨q, caq, rfl, -, -⟩ := SlAt.open h2
  have HOR : Hid (Calls Tryz.prog 101 #[.slice (some ⟨w.heap.size, 0, none⟩) 2 2] (w.alloc (.cells #[.int .i64 (cmpI (b.length : Int) (a.length : Int)), .int .i64 (cmpL a b)] 3)) fun e w' => e = .returned (.int .i64 (cmpQ a b)) ∧ w.alloc (.cells #[.int .i64 (cmpI (b.length : Int) (a.length : Int)), .int .i64 (cmpL a b)] 3) = w') := by
    have h := or_t (w.alloc (.cells #[.int .i64 (cmpI (b.length : Int) (a.length : Int)), .int .i64 (cmpL a b)] 3)) w.heap.size _ _ (box2_0 w _ _ _) (box2_1 w _ _ _)
    rw [HQ.out] at h; exact h
  have HGR : Hid (∃ n os, w.alloc (.cells #[.int .i64 (cmpI (b.length : Int) (a.length : Int)), .int .i64 (cmpL a b)] 3) = grow (w.drewN n) os) := ⟨0, #[_], alloc_eq_grow w _⟩
  clear h h2
  go_enter Tryz.func100, Tryz.ntmps100
  go_wp2_with fail
  refine HC.out.mono ?_
  rintro e w' ⟨rfl, rfl⟩
  go_wp2_with fail
  refine HL.out.mono ?_
  rintro e w' ⟨rfl, rfl⟩
  go_wp2_with fail
  refine HOR.out.mono ?_
  rintro e w' ⟨rfl, rfl⟩
  go_wp2_with fail
  go_ret
  exact ⟨rfl, HGR.out⟩
end Go.Proofs.YtcbmbhghmfehpaaGreat
namespace Go.Proofs.YtcbmbhghmfehpaaGreat
open Go.RowKit Go.Deep
theorem named_starF (s : ByteArray) (h : s.size - 1 < s.size) (h16 : 16 < s.size) (h42 : ((s[s.size - 1].toNat : Int) == 42) = true) : namedB s.data.toList = false := by
  have hl := size_data s
  have h2 : s[s.size - 1] = 42 := by
    have h3 : (s[s.size - 1].toNat : Int) = 42 := by simpa using h42
    have h4 : s[s.size - 1].toNat = 42 := by omega
    exact UInt8.toNat_inj.1 h4
  unfold namedB
  rw [last_get s h, h2, if_pos rfl, hl, decide_eq_false (by omega), Bool.and_false]
set_option maxRecDepth 100000 in
set_option maxHeartbeats 400000 in
theorem leafName_t (s : ByteArray) (hs : s.size ≤ 70000) (w : World) : Calls Tryz.prog 98 #[.string s] w fun e w' => e = .returned (.bool (namedB s.data.toList)) ∧ w = w' := by
  go_enter Tryz.func98, Tryz.ntmps98
  go_wp2_with fail
  · have hf := Lib.hid (named_star s (by omega) (by omega) ‹_›)
    refine (isName_t _ (by simp; omega) _).mono ?_
    rintro e w1 ⟨rfl, rfl⟩
    rw [← hf.out]
    go_wp2_with fail
    go_ret
    exact ⟨rfl, rfl⟩
  · have hf := Lib.hid (named_starF s (by omega) (by omega) ‹_›)
    go_ret
    exact ⟨ret_bool hf.out.symm, rfl⟩
  · have hf := Lib.hid (named_plain s (by omega) ‹_›)
    refine (isName_t _ hs _).mono ?_
    rintro e w1 ⟨rfl, rfl⟩
    rw [← hf.out]
    go_wp2_with fail
    go_ret
    exact ⟨rfl, rfl⟩
  · have hf := Lib.hid (named_one s (by omega))
    refine (isName_t _ hs _).mono ?_
    rintro e w1 ⟨rfl, rfl⟩
    rw [← hf.out]
    go_wp2_with fail
    go_ret
    exact ⟨rfl, rfl⟩
set_option maxRecDepth 100000 in
set_option maxHeartbeats 4000000 in
theorem add_t (tb B0 : Nat) (t : Tre) (z : Int) (nm : ByteArray) (w : World) (P N : Value) (hG : GS tb B0 w P N t) (hns : t.ns.length = t.ps.length) (hl : t.ps.length + 1 ≤ 1000000) :
    Calls Tryz.prog 99 #[.int .i64 z, .string nm, .pointer (some ⟨tb, 0, none⟩)] w fun e w' => e = .returned (.int .i64 (t.ps.length : Int)) ∧ ∃ P' N', GS tb B0 w' P' N' (t.push z nm) ∧ GK tb w w' P N P' N' := by
  obtain ⟨hc0, hc1, _, _⟩ := hG.cells
  obtain ⟨pp, pc, rfl, _⟩ := hG.tl.pown.form (n := t.ps.length) (by simp)
  obtain ⟨np, nc, rfl, _⟩ := hG.tl.nown.form (n := t.ps.length) (by simp [hns])
  have HG := Lib.hid hG
  have HNS := Lib.hid hns
  clear hG hns
  go_enter Tryz.func99, Tryz.ntmps99
  go_wp2_with fail
  go_cut [] from 6 to 17 (fun wx => ∃ P' N', GS tb B0 wx P' N' (t.push z nm) ∧ GK tb w wx (.slice pp t.ps.length pc) (.slice np t.ps.length nc) P' N')
  case first =>
    have hd := Up.drewN w 1
    have HGS := Lib.hid HG.out
    have HBX := Lib.hid HG.out.box
    have HRd : Hid (RS tb B0 w w.drew (.slice pp t.ps.length pc) (.slice np t.ps.length nc) (.slice pp t.ps.length pc) (.slice np t.ps.length nc) t.ps t.ns) := (RS.start HG.out.tl HG.out.lo).up hd
    have HPL : Hid (t.ps.length ≤ 1000000 ∧ t.ns.length ≤ 1000000) := ⟨by omega, by rw [HNS.out]; omega⟩
    refine region_T (by kernel_rfl) 10 (fun w' => w'.cell? ⟨tb, 0, none⟩ = some (.slice pp t.ps.length pc) ∧ w'.cell? ⟨tb, 1, none⟩ = some (.slice np t.ps.length nc)) (HRd.out.cells HBX.out) (fun hS => ?_)
    simp only [List.size_toArray, List.length_cons, List.length_nil, Nat.reduceAdd, Array.replicate_succ, Array.replicate_zero, List.push_toArray, List.nil_append, List.cons_append]
    generalize w.drew = Wd at *
    refine anyT.take (i := 0) (v := ?gv0) rfl (by kernel_rfl) (fun _ _ _ h => h) (by rfl) (fun w hSw => ?gy0) hS ?gr0
    case gy0 =>
      (try dsimp only at hSw)
      go_simp
      try with_reducible rfl
    try simp only [Act.put, List.setIfInBounds_toArray, List.set_cons_zero, List.set_cons_succ]
    refine anyT.take (i := 1) (v := ?gv1) rfl (by kernel_rfl) (fun _ _ _ h => h) (by rfl) (fun w hSw => ?gy1) hS ?gr1
    case gy1 =>
      (try dsimp only at hSw)
      go_simp
      try with_reducible rfl
    try simp only [Act.put, List.setIfInBounds_toArray, List.set_cons_zero, List.set_cons_succ]
    refine anyT.take (i := 2) (v := ?gv2) rfl (by kernel_rfl) (fun _ _ _ h => h) (by rfl) (fun w hSw => ?gy2) hS ?gr2
    case gy2 =>
      (try dsimp only at hSw)
      go_simp
      try with_reducible rfl
    try simp only [Act.put, List.setIfInBounds_toArray, List.set_cons_zero, List.set_cons_succ]
    refine anyT.take (i := 5) (v := ?gv5) rfl (by kernel_rfl) (fun _ _ _ h => h) (by rfl) (fun w hSw => ?gy5) hS ?gr5
    case gy5 =>
      (try dsimp only at hSw)
      go_simp
      try with_reducible rfl
    try simp only [Act.put, List.setIfInBounds_toArray, List.set_cons_zero, List.set_cons_succ]
    refine anyT.take (i := 6) (v := ?gv6) rfl (by kernel_rfl) (fun _ _ _ h => h) (by rfl) (fun w hSw => ?gy6) hS ?gr6
    case gy6 =>
      (try dsimp only at hSw)
      go_simp
      try with_reducible rfl
    try simp only [Act.put, List.setIfInBounds_toArray, List.set_cons_zero, List.set_cons_succ]
    refine anyT.take (i := 7) (v := ?gv7) rfl (by kernel_rfl) (fun _ _ _ h => h) (by rfl) (fun w hSw => ?gy7) hS ?gr7
    case gy7 =>
      (try dsimp only at hSw)
      go_simp
      try with_reducible rfl
    try simp only [Act.put, List.setIfInBounds_toArray, List.set_cons_zero, List.set_cons_succ]
    refine anyT.step2 (i := 3) (i2 := 8) rfl rfl (by kernel_rfl) (fun K' hK => ?_) (fun K' hK => ?_)
    · go_simp
      have HRa : Hid (RS tb B0 _ (Wd.alloc (.cells #[.int .i64 z] 3)) _ _ _ _ _ _) := HRd.out.up (Up.alloc _ _)
      refine hK.out _ _ (fun _ => HRa.out.cells HBX.out) (fun _ => ?_)
      try simp only [List.setIfInBounds_toArray, List.set_cons_zero, List.set_cons_succ]
      refine anyT.step2 (i := 4) (i2 := 8) rfl rfl (by kernel_rfl) (fun K' hK => ?_) (fun K' hK => ?_)
      · refine step_app1 (by rfl) _ _ _ (by rfl) B0 3 _ 8 Tryz.underlying26 Tryz.infoI (by rfl) (by decide) (by rfl) HRa.out.tl.pown (.int .i64 z) Wd.heap.size (by rfl) (cell_at_new Wd #[.int .i64 z] 3 0) (by rfl) (by rw [List.length_map]; exact HPL.out.1) (Nat.le_trans HRa.out.lo.2 HRa.out.gk.size) ?_
        intro g1 g1c We1 hog1 hgg1 hrg1 _
        have HRb : Hid (RS tb B0 _ We1 _ _ _ _ _ _) := HRa.out.appP hog1 hgg1 (hrg1.imp id (fun e => Nat.le_of_eq e.symm))
        refine hK.out _ _ (fun _ => HRb.out.cells HBX.out) (fun _ => ?_)
        try simp only [Act.put, List.setIfInBounds_toArray, List.set_cons_zero, List.set_cons_succ]
        refine anyT.free (i := 10) (v := ?gv10a) rfl (by kernel_rfl) (fun _ _ _ h => h) (by rfl) (fun w => ?gy10a) (fun _ => HRb.out.cells HBX.out) ?gr10a
        case gy10a =>
          go_simp
          try with_reducible rfl
        try simp only [Act.put, List.setIfInBounds_toArray, List.set_cons_zero, List.set_cons_succ]
        refine anyT.step (i := 8) rfl (by kernel_rfl) (fun K' hK => ?_)
        go_simp
        have HRc : Hid (RS tb B0 _ (We1.alloc (.cells #[.string nm] 9)) _ _ _ _ _ _) := HRb.out.up (Up.alloc _ _)
        refine hK.out _ _ (fun _ => HRc.out.cells HBX.out) (fun _ => ?_)
        try simp only [List.setIfInBounds_toArray, List.set_cons_zero, List.set_cons_succ]
        refine anyT.step (i := 9) rfl (by kernel_rfl) (fun K' hK => ?_)
        refine step_app1 (by rfl) _ _ _ (by rfl) B0 9 _ 16 Tryz.underlying43 Tryz.infoStr2 (by rfl) (by decide) (by rfl) HRc.out.tl.nown (.string nm) We1.heap.size (by rfl) (cell_at_new We1 #[.string nm] 9 0) (by rfl) (by rw [List.length_map]; exact HPL.out.2) (Nat.le_trans HRc.out.lo.2 HRc.out.gk.size) ?_
        intro g2 g2c We2 hog2 hgg2 hrg2 _
        have HRf : Hid (RS tb B0 _ We2 _ _ _ _ _ _) := HRc.out.appN hog2 hgg2 (hrg2.imp id (fun e => Nat.le_of_eq e.symm))
        refine hK.out _ _ (fun _ => HRf.out.cells HBX.out) (fun _ => ?_)
        try simp only [Act.put, List.setIfInBounds_toArray, List.set_cons_zero, List.set_cons_succ]
        obtain ⟨hbe, hbe1⟩ := HRf.out.cells HBX.out
        have hfe := HRf.out.frozen HBX.out 0
        have hfe1 := HRf.out.frozen HBX.out 1
        have HFIN := Lib.hid (HRf.out.store HGS.out)
        refine anyT.step (i := 11) rfl (by kernel_rfl) (fun K' hK => ?_)
        go_simp
        refine hK.out _ _ (not_more (by kernel_rfl)) (fun _ => ?_)
        try simp only [List.setIfInBounds_toArray, List.set_cons_zero, List.set_cons_succ]
        refine anyT.free (i := 12) (v := ?gv12a) rfl (by kernel_rfl) (fun _ _ _ h => h) (by rfl) (fun w => ?gy12a) (not_more (by kernel_rfl)) ?gr12a
        case gy12a =>
          go_simp
          try with_reducible rfl
        try simp only [Act.put, List.setIfInBounds_toArray, List.set_cons_zero, List.set_cons_succ]
        refine anyT.step (i := 13) rfl (by kernel_rfl) (fun K' hK => ?_)
        go_simp
        refine hK.out _ _ (not_more (by kernel_rfl)) (fun _ => ?_)
        refine anyT.done (by kernel_rfl) ?_
        go_wp2_with fail
        go_meet
        case rel =>
          have hfin := HFIN.out
          simp only [List.length_map] at hfin
          exact ⟨_, _, hfin.1, hfin.2⟩
      · go_simp
        have HRb : Hid (RS tb B0 _ ((Wd.alloc (.cells #[.int .i64 z] 3)).alloc (.cells #[.string nm] 9)) _ _ _ _ _ _) := HRa.out.up (Up.alloc _ _)
        refine hK.out _ _ (fun _ => HRb.out.cells HBX.out) (fun _ => ?_)
        try simp only [List.setIfInBounds_toArray, List.set_cons_zero, List.set_cons_succ]
        have hcN := cell_at_new (Wd.alloc (.cells #[.int .i64 z] 3)) #[.string nm] 9 0
        have hcP := (Up.alloc (Wd.alloc (.cells #[.int .i64 z] 3)) (.cells #[.string nm] 9)).cell (cell_at_new Wd #[.int .i64 z] 3 0)
        rw [World.size_alloc] at hcN
        refine anyT.step (i := 4) rfl (by kernel_rfl) (fun K' hK => ?_)
        refine step_app1 (by rfl) _ _ _ (by rfl) B0 3 _ 8 Tryz.underlying26 Tryz.infoI (by rfl) (by decide) (by rfl) HRb.out.tl.pown (.int .i64 z) Wd.heap.size (by rfl) hcP (by rfl) (by rw [List.length_map]; exact HPL.out.1) (Nat.le_trans HRb.out.lo.2 HRb.out.gk.size) ?_
        intro g1 g1c We1 hog1 hgg1 hrg1 _
        have HRc : Hid (RS tb B0 _ We1 _ _ _ _ _ _) := HRb.out.appP hog1 hgg1 (hrg1.imp id (fun e => Nat.le_of_eq e.symm))
        have hcN1 : We1.cell? ⟨Wd.heap.size + 1, 0, none⟩ = some (.string nm) := by
          rw [hgg1.cell_far ⟨Wd.heap.size + 1, 0, none⟩ (by simp) (fun e => absurd (ownBlock_lt HRd.out.tl.pown e.symm).2 (by show ¬ (Wd.heap.size + 1 < Wd.heap.size); omega))]; exact hcN
        refine hK.out _ _ (fun _ => HRc.out.cells HBX.out) (fun _ => ?_)
        try simp only [Act.put, List.setIfInBounds_toArray, List.set_cons_zero, List.set_cons_succ]
        refine anyT.free (i := 10) (v := ?gv10b) rfl (by kernel_rfl) (fun _ _ _ h => h) (by rfl) (fun w => ?gy10b) (fun _ => HRc.out.cells HBX.out) ?gr10b
        case gy10b =>
          go_simp
          try with_reducible rfl
        try simp only [Act.put, List.setIfInBounds_toArray, List.set_cons_zero, List.set_cons_succ]
        refine anyT.step (i := 9) rfl (by kernel_rfl) (fun K' hK => ?_)
        refine step_app1 (by rfl) _ _ _ (by rfl) B0 9 _ 16 Tryz.underlying43 Tryz.infoStr2 (by rfl) (by decide) (by rfl) HRc.out.tl.nown (.string nm) (Wd.heap.size + 1) (by rfl) hcN1 (by rfl) (by rw [List.length_map]; exact HPL.out.2) (Nat.le_trans HRc.out.lo.2 HRc.out.gk.size) ?_
        intro g2 g2c We2 hog2 hgg2 hrg2 _
        have HRf : Hid (RS tb B0 _ We2 _ _ _ _ _ _) := HRc.out.appN hog2 hgg2 (hrg2.imp id (fun e => Nat.le_of_eq e.symm))
        refine hK.out _ _ (fun _ => HRf.out.cells HBX.out) (fun _ => ?_)
        try simp only [Act.put, List.setIfInBounds_toArray, List.set_cons_zero, List.set_cons_succ]
        obtain ⟨hbe, hbe1⟩ := HRf.out.cells HBX.out
        have hfe := HRf.out.frozen HBX.out 0
        have hfe1 := HRf.out.frozen HBX.out 1
        have HFIN := Lib.hid (HRf.out.store HGS.out)
        refine anyT.step (i := 11) rfl (by kernel_rfl) (fun K' hK => ?_)
        go_simp
        refine hK.out _ _ (not_more (by kernel_rfl)) (fun _ => ?_)
        try simp only [List.setIfInBounds_toArray, List.set_cons_zero, List.set_cons_succ]
        refine anyT.free (i := 12) (v := ?gv12b) rfl (by kernel_rfl) (fun _ _ _ h => h) (by rfl) (fun w => ?gy12b) (not_more (by kernel_rfl)) ?gr12b
        case gy12b =>
          go_simp
          try with_reducible rfl
        try simp only [Act.put, List.setIfInBounds_toArray, List.set_cons_zero, List.set_cons_succ]
        refine anyT.step (i := 13) rfl (by kernel_rfl) (fun K' hK => ?_)
        go_simp
        refine hK.out _ _ (not_more (by kernel_rfl)) (fun _ => ?_)
        refine anyT.done (by kernel_rfl) ?_
        go_wp2_with fail
        go_meet
        case rel =>
          have hfin := HFIN.out
          simp only [List.length_map] at hfin
          exact ⟨_, _, hfin.1, hfin.2⟩
    · go_simp
      have HRa : Hid (RS tb B0 _ (Wd.alloc (.cells #[.string nm] 9)) _ _ _ _ _ _) := HRd.out.up (Up.alloc _ _)
      refine hK.out _ _ (fun _ => HRa.out.cells HBX.out) (fun _ => ?_)
      try simp only [List.setIfInBounds_toArray, List.set_cons_zero, List.set_cons_succ]
      refine anyT.step (i := 3) rfl (by kernel_rfl) (fun K' hK => ?_)
      go_simp
      have HRb : Hid (RS tb B0 _ ((Wd.alloc (.cells #[.string nm] 9)).alloc (.cells #[.int .i64 z] 3)) _ _ _ _ _ _) := HRa.out.up (Up.alloc _ _)
      refine hK.out _ _ (fun _ => HRb.out.cells HBX.out) (fun _ => ?_)
      try simp only [List.setIfInBounds_toArray, List.set_cons_zero, List.set_cons_succ]
      have hcP := cell_at_new (Wd.alloc (.cells #[.string nm] 9)) #[.int .i64 z] 3 0
      have hcN := (Up.alloc (Wd.alloc (.cells #[.string nm] 9)) (.cells #[.int .i64 z] 3)).cell (cell_at_new Wd #[.string nm] 9 0)
      rw [World.size_alloc] at hcP
      refine anyT.step (i := 4) rfl (by kernel_rfl) (fun K' hK => ?_)
      refine step_app1 (by rfl) _ _ _ (by rfl) B0 3 _ 8 Tryz.underlying26 Tryz.infoI (by rfl) (by decide) (by rfl) HRb.out.tl.pown (.int .i64 z) (Wd.heap.size + 1) (by rfl) hcP (by rfl) (by rw [List.length_map]; exact HPL.out.1) (Nat.le_trans HRb.out.lo.2 HRb.out.gk.size) ?_
      intro g1 g1c We1 hog1 hgg1 hrg1 _
      have HRc : Hid (RS tb B0 _ We1 _ _ _ _ _ _) := HRb.out.appP hog1 hgg1 (hrg1.imp id (fun e => Nat.le_of_eq e.symm))
      have hcN1 : We1.cell? ⟨Wd.heap.size, 0, none⟩ = some (.string nm) := by
        rw [hgg1.cell_far ⟨Wd.heap.size, 0, none⟩ (by simp; omega) (fun e => absurd (ownBlock_lt HRd.out.tl.pown e.symm).2 (by show ¬ (Wd.heap.size < Wd.heap.size); omega))]; exact hcN
      refine hK.out _ _ (fun _ => HRc.out.cells HBX.out) (fun _ => ?_)
      try simp only [Act.put, List.setIfInBounds_toArray, List.set_cons_zero, List.set_cons_succ]
      refine anyT.free (i := 10) (v := ?gv10c) rfl (by kernel_rfl) (fun _ _ _ h => h) (by rfl) (fun w => ?gy10c) (fun _ => HRc.out.cells HBX.out) ?gr10c
      case gy10c =>
        go_simp
        try with_reducible rfl
      try simp only [Act.put, List.setIfInBounds_toArray, List.set_cons_zero, List.set_cons_succ]
      refine anyT.step (i := 9) rfl (by kernel_rfl) (fun K' hK => ?_)
      refine step_app1 (by rfl) _ _ _ (by rfl) B0 9 _ 16 Tryz.underlying43 Tryz.infoStr2 (by rfl) (by decide) (by rfl) HRc.out.tl.nown (.string nm) Wd.heap.size (by rfl) hcN1 (by rfl) (by rw [List.length_map]; exact HPL.out.2) (Nat.le_trans HRc.out.lo.2 HRc.out.gk.size) ?_
      intro g2 g2c We2 hog2 hgg2 hrg2 _
      have HRf : Hid (RS tb B0 _ We2 _ _ _ _ _ _) := HRc.out.appN hog2 hgg2 (hrg2.imp id (fun e => Nat.le_of_eq e.symm))
      refine hK.out _ _ (fun _ => HRf.out.cells HBX.out) (fun _ => ?_)
      try simp only [Act.put, List.setIfInBounds_toArray, List.set_cons_zero, List.set_cons_succ]
      obtain ⟨hbe, hbe1⟩ := HRf.out.cells HBX.out
      have hfe := HRf.out.frozen HBX.out 0
      have hfe1 := HRf.out.frozen HBX.out 1
      have HFIN := Lib.hid (HRf.out.store HGS.out)
      refine anyT.step (i := 11) rfl (by kernel_rfl) (fun K' hK => ?_)
      go_simp
      refine hK.out _ _ (not_more (by kernel_rfl)) (fun _ => ?_)
      try simp only [List.setIfInBounds_toArray, List.set_cons_zero, List.set_cons_succ]
      refine anyT.free (i := 12) (v := ?gv12c) rfl (by kernel_rfl) (fun _ _ _ h => h) (by rfl) (fun w => ?gy12c) (not_more (by kernel_rfl)) ?gr12c
      case gy12c =>
        go_simp
        try with_reducible rfl
      try simp only [Act.put, List.setIfInBounds_toArray, List.set_cons_zero, List.set_cons_succ]
      refine anyT.step (i := 13) rfl (by kernel_rfl) (fun K' hK => ?_)
      go_simp
      refine hK.out _ _ (not_more (by kernel_rfl)) (fun _ => ?_)
      refine anyT.done (by kernel_rfl) ?_
      go_wp2_with fail
      go_meet
      case rel =>
        have hfin := HFIN.out
        simp only [List.length_map] at hfin
        exact ⟨_, _, hfin.1, hfin.2⟩
  case rest =>
    obtain ⟨P2, N2, hG2, hK2⟩ := hcut
    obtain ⟨d0, d1, _, _⟩ := hG2.cells
    have e1 : (t.push z nm).ps.length = t.ps.length + 1 := by simp [Tre.push]
    obtain ⟨pp2, pc2, rfl, _⟩ := hG2.tl.pown.form (n := t.ps.length + 1) (by simp [e1])
    have HF := Lib.hid (⟨_, _, hG2, hK2⟩ : ∃ P' N', GS tb B0 wc P' N' (t.push z nm) ∧ GK tb w wc (.slice pp t.ps.length pc) (.slice np t.ps.length nc) P' N')
    have i1 : wrap64 ((((t.ps.length + 1 : Nat)) : Int) - 1) = (t.ps.length : Int) := by unfold wrap64; omega
    have i2 : wrap64 ((t.ps.length : Int) + 1 - 1) = (t.ps.length : Int) := by unfold wrap64; omega
    clear hG2 hK2 e1 hc0 hc1
    go_wp2_with fail
    go_ret
    exact ⟨ret_int (by first | rfl | omega | simp), HF.out⟩
end Go.Proofs.YtcbmbhghmfehpaaGreat
