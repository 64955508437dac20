/- split.leafName; the closure of split.Build that adds a node. The closure of split.Build that finds the least set that holds a leaf. A copy of a list of lists; the law's closure. -/
import Derived.Test.YtpjijbophjdgaaaGreatQ14
import Derived.Test.YtpjijbophjdgaaaGreatQ16
import Derived.Test.YtpjijbophjdgaaaGreatQ2
import Derived.Test.YtpjijbophjdgaaaGreatQ15
import Derived.Test.YtpjijbophjdgaaaGreatQ47
import Derived.Test.YtpjijbophjdgaaaGreatQ38
import Derived.Test.YtpjijbophjdgaaaGreatQ4
import Derived.Test.YtpjijbophjdgaaaGreatQ3
namespace Go.Proofs.YtpjijbophjdgaaaGreat
open Go.RowKit Go.Deep
theorem named_starF (s : ByteArray) (h : s.size - 1 < s.size) (h16 : 16 < s.size) (h42 : ((s[s.size - 1].toNat : Int) == 42) = true) : namedB s.data.toList = false := by
  have hl := size_data s
  have h2 : s[s.size - 1] = 42 := by
    have h3 : (s[s.size - 1].toNat : Int) = 42 := by simpa using h42
    have h4 : s[s.size - 1].toNat = 42 := by omega
    exact UInt8.toNat_inj.1 h4
  unfold namedB
  rw [last_get s h, h2, if_pos rfl, hl, decide_eq_false (by omega), Bool.and_false]
set_option maxRecDepth 100000 in
set_option maxHeartbeats 400000 in
theorem leafName_t (s : ByteArray) (hs : s.size ≤ 70000) (w : World) : Calls Tryz.prog 127 #[.string s] w fun e w' => e = .returned (.bool (namedB s.data.toList)) ∧ w = w' := by
  go_enter Tryz.func127, Tryz.ntmps127
  go_wp2_with fail
  · have hf := Lib.hid (named_star s (by omega) (by omega) ‹_›)
    refine (isName_t _ (by simp; omega) _).mono ?_
    rintro e w1 ⟨rfl, rfl⟩
    rw [← hf.out]
    go_wp2_with fail
    go_ret
    exact ⟨rfl, rfl⟩
  · have hf := Lib.hid (named_starF s (by omega) (by omega) ‹_›)
    go_ret
    exact ⟨ret_bool hf.out.symm, rfl⟩
  · have hf := Lib.hid (named_plain s (by omega) ‹_›)
    refine (isName_t _ hs _).mono ?_
    rintro e w1 ⟨rfl, rfl⟩
    rw [← hf.out]
    go_wp2_with fail
    go_ret
    exact ⟨rfl, rfl⟩
  · have hf := Lib.hid (named_one s (by omega))
    refine (isName_t _ hs _).mono ?_
    rintro e w1 ⟨rfl, rfl⟩
    rw [← hf.out]
    go_wp2_with fail
    go_ret
    exact ⟨rfl, rfl⟩
set_option maxRecDepth 100000 in
set_option maxHeartbeats 4000000 in
theorem add_t (tb B0 : Nat) (t : Tre) (z : Int) (nm : ByteArray) (w : World) (P N : Value) (hG : GS tb B0 w P N t) (hns : t.ns.length = t.ps.length) (hl : t.ps.length + 1 ≤ 1000000) :
    Calls Tryz.prog 129 #[.int .i64 z, .string nm, .pointer (some ⟨tb, 0, none⟩)] w fun e w' => e = .returned (.int .i64 (t.ps.length : Int)) ∧ ∃ P' N', GS tb B0 w' P' N' (t.push z nm) ∧ GK tb w w' P N P' N' := by
  obtain ⟨hc0, hc1, _, _⟩ := hG.cells
  obtain ⟨pp, pc, rfl, _⟩ := hG.tl.pown.form (n := t.ps.length) (by simp)
  obtain ⟨np, nc, rfl, _⟩ := hG.tl.nown.form (n := t.ps.length) (by simp [hns])
  have HG := Lib.hid hG
  have HNS := Lib.hid hns
  clear hG hns
  go_enter Tryz.func129, Tryz.ntmps129
  go_wp2_with fail
  go_cut [] from 6 to 17 (fun wx => ∃ P' N', GS tb B0 wx P' N' (t.push z nm) ∧ GK tb w wx (.slice pp t.ps.length pc) (.slice np t.ps.length nc) P' N')
  case first =>
    have hd := Up.drewN w 1
    have HGS := Lib.hid HG.out
    have HBX := Lib.hid HG.out.box
    have HRd : Hid (RS tb B0 w w.drew (.slice pp t.ps.length pc) (.slice np t.ps.length nc) (.slice pp t.ps.length pc) (.slice np t.ps.length nc) t.ps t.ns) := (RS.start HG.out.tl HG.out.lo).up hd
    have HPL : Hid (t.ps.length ≤ 1000000 ∧ t.ns.length ≤ 1000000) := ⟨by omega, by rw [HNS.out]; omega⟩
    refine region_T (by kernel_rfl) 10 (fun w' => w'.cell? ⟨tb, 0, none⟩ = some (.slice pp t.ps.length pc) ∧ w'.cell? ⟨tb, 1, none⟩ = some (.slice np t.ps.length nc)) (HRd.out.cells HBX.out) (fun hS => ?_)
    simp only [List.size_toArray, List.length_cons, List.length_nil, Nat.reduceAdd, Array.replicate_succ, Array.replicate_zero, List.push_toArray, List.nil_append, List.cons_append]
    generalize w.drew = Wd at *
    refine anyT.take (i := 0) (v := ?gv0) rfl (by kernel_rfl) (fun _ _ _ h => h) (by rfl) (fun w hSw => ?gy0) hS ?gr0
    case gy0 =>
      (try dsimp only at hSw)
      go_simp
      try with_reducible rfl
    try simp only [Act.put, List.setIfInBounds_toArray, List.set_cons_zero, List.set_cons_succ]
    refine anyT.take (i := 1) (v := ?gv1) rfl (by kernel_rfl) (fun _ _ _ h => h) (by rfl) (fun w hSw => ?gy1) hS ?gr1
    case gy1 =>
      (try dsimp only at hSw)
      go_simp
      try with_reducible rfl
    try simp only [Act.put, List.setIfInBounds_toArray, List.set_cons_zero, List.set_cons_succ]
    refine anyT.take (i := 2) (v := ?gv2) rfl (by kernel_rfl) (fun _ _ _ h => h) (by rfl) (fun w hSw => ?gy2) hS ?gr2
    case gy2 =>
      (try dsimp only at hSw)
      go_simp
      try with_reducible rfl
    try simp only [Act.put, List.setIfInBounds_toArray, List.set_cons_zero, List.set_cons_succ]
    refine anyT.take (i := 5) (v := ?gv5) rfl (by kernel_rfl) (fun _ _ _ h => h) (by rfl) (fun w hSw => ?gy5) hS ?gr5
    case gy5 =>
      (try dsimp only at hSw)
      go_simp
      try with_reducible rfl
    try simp only [Act.put, List.setIfInBounds_toArray, List.set_cons_zero, List.set_cons_succ]
    refine anyT.take (i := 6) (v := ?gv6) rfl (by kernel_rfl) (fun _ _ _ h => h) (by rfl) (fun w hSw => ?gy6) hS ?gr6
    case gy6 =>
      (try dsimp only at hSw)
      go_simp
      try with_reducible rfl
    try simp only [Act.put, List.setIfInBounds_toArray, List.set_cons_zero, List.set_cons_succ]
    refine anyT.take (i := 7) (v := ?gv7) rfl (by kernel_rfl) (fun _ _ _ h => h) (by rfl) (fun w hSw => ?gy7) hS ?gr7
    case gy7 =>
      (try dsimp only at hSw)
      go_simp
      try with_reducible rfl
    try simp only [Act.put, List.setIfInBounds_toArray, List.set_cons_zero, List.set_cons_succ]
    refine anyT.step2 (i := 3) (i2 := 8) rfl rfl (by kernel_rfl) (fun K' hK => ?_) (fun K' hK => ?_)
    · go_simp
      have HRa : Hid (RS tb B0 _ (Wd.alloc (.cells #[.int .i64 z] 3)) _ _ _ _ _ _) := HRd.out.up (Up.alloc _ _)
      refine hK.out _ _ (fun _ => HRa.out.cells HBX.out) (fun _ => ?_)
      try simp only [List.setIfInBounds_toArray, List.set_cons_zero, List.set_cons_succ]
      refine anyT.step2 (i := 4) (i2 := 8) rfl rfl (by kernel_rfl) (fun K' hK => ?_) (fun K' hK => ?_)
      · refine step_app1 (by rfl) _ _ _ (by rfl) B0 3 _ 8 Tryz.underlying26 Tryz.infoI (by rfl) (by decide) (by rfl) HRa.out.tl.pown (.int .i64 z) Wd.heap.size (by rfl) (cell_at_new Wd #[.int .i64 z] 3 0) (by rfl) (by rw [List.length_map]; exact HPL.out.1) (Nat.le_trans HRa.out.lo.2 HRa.out.gk.size) ?_
        intro g1 g1c We1 hog1 hgg1 hrg1 _
        have HRb : Hid (RS tb B0 _ We1 _ _ _ _ _ _) := HRa.out.appP hog1 hgg1 (hrg1.imp id (fun e => Nat.le_of_eq e.symm))
        refine hK.out _ _ (fun _ => HRb.out.cells HBX.out) (fun _ => ?_)
        try simp only [Act.put, List.setIfInBounds_toArray, List.set_cons_zero, List.set_cons_succ]
        refine anyT.free (i := 10) (v := ?gv10a) rfl (by kernel_rfl) (fun _ _ _ h => h) (by rfl) (fun w => ?gy10a) (fun _ => HRb.out.cells HBX.out) ?gr10a
        case gy10a =>
          go_simp
          try with_reducible rfl
        try simp only [Act.put, List.setIfInBounds_toArray, List.set_cons_zero, List.set_cons_succ]
        refine anyT.step (i := 8) rfl (by kernel_rfl) (fun K' hK => ?_)
        go_simp
        have HRc : Hid (RS tb B0 _ (We1.alloc (.cells #[.string nm] 9)) _ _ _ _ _ _) := HRb.out.up (Up.alloc _ _)
        refine hK.out _ _ (fun _ => HRc.out.cells HBX.out) (fun _ => ?_)
        try simp only [List.setIfInBounds_toArray, List.set_cons_zero, List.set_cons_succ]
        refine anyT.step (i := 9) rfl (by kernel_rfl) (fun K' hK => ?_)
        refine step_app1 (by rfl) _ _ _ (by rfl) B0 9 _ 16 Tryz.underlying43 Tryz.infoStr2 (by rfl) (by decide) (by rfl) HRc.out.tl.nown (.string nm) We1.heap.size (by rfl) (cell_at_new We1 #[.string nm] 9 0) (by rfl) (by rw [List.length_map]; exact HPL.out.2) (Nat.le_trans HRc.out.lo.2 HRc.out.gk.size) ?_
        intro g2 g2c We2 hog2 hgg2 hrg2 _
        have HRf : Hid (RS tb B0 _ We2 _ _ _ _ _ _) := HRc.out.appN hog2 hgg2 (hrg2.imp id (fun e => Nat.le_of_eq e.symm))
        refine hK.out _ _ (fun _ => HRf.out.cells HBX.out) (fun _ => ?_)
        try simp only [Act.put, List.setIfInBounds_toArray, List.set_cons_zero, List.set_cons_succ]
        obtain ⟨hbe, hbe1⟩ := HRf.out.cells HBX.out
        have hfe := HRf.out.frozen HBX.out 0
        have hfe1 := HRf.out.frozen HBX.out 1
        have HFIN := Lib.hid (HRf.out.store HGS.out)
        refine anyT.step (i := 11) rfl (by kernel_rfl) (fun K' hK => ?_)
        go_simp
        refine hK.out _ _ (not_more (by kernel_rfl)) (fun _ => ?_)
        try simp only [List.setIfInBounds_toArray, List.set_cons_zero, List.set_cons_succ]
        refine anyT.free (i := 12) (v := ?gv12a) rfl (by kernel_rfl) (fun _ _ _ h => h) (by rfl) (fun w => ?gy12a) (not_more (by kernel_rfl)) ?gr12a
        case gy12a =>
          go_simp
          try with_reducible rfl
        try simp only [Act.put, List.setIfInBounds_toArray, List.set_cons_zero, List.set_cons_succ]
        refine anyT.step (i := 13) rfl (by kernel_rfl) (fun K' hK => ?_)
        go_simp
        refine hK.out _ _ (not_more (by kernel_rfl)) (fun _ => ?_)
        refine anyT.done (by kernel_rfl) ?_
        go_wp2_with fail
        go_meet
        case rel =>
          have hfin := HFIN.out
          simp only [List.length_map] at hfin
          exact ⟨_, _, hfin.1, hfin.2⟩
      · go_simp
        have HRb : Hid (RS tb B0 _ ((Wd.alloc (.cells #[.int .i64 z] 3)).alloc (.cells #[.string nm] 9)) _ _ _ _ _ _) := HRa.out.up (Up.alloc _ _)
        refine hK.out _ _ (fun _ => HRb.out.cells HBX.out) (fun _ => ?_)
        try simp only [List.setIfInBounds_toArray, List.set_cons_zero, List.set_cons_succ]
        have hcN := cell_at_new (Wd.alloc (.cells #[.int .i64 z] 3)) #[.string nm] 9 0
        have hcP := (Up.alloc (Wd.alloc (.cells #[.int .i64 z] 3)) (.cells #[.string nm] 9)).cell (cell_at_new Wd #[.int .i64 z] 3 0)
        rw [World.size_alloc] at hcN
        refine anyT.step (i := 4) rfl (by kernel_rfl) (fun K' hK => ?_)
        refine step_app1 (by rfl) _ _ _ (by rfl) B0 3 _ 8 Tryz.underlying26 Tryz.infoI (by rfl) (by decide) (by rfl) HRb.out.tl.pown (.int .i64 z) Wd.heap.size (by rfl) hcP (by rfl) (by rw [List.length_map]; exact HPL.out.1) (Nat.le_trans HRb.out.lo.2 HRb.out.gk.size) ?_
        intro g1 g1c We1 hog1 hgg1 hrg1 _
        have HRc : Hid (RS tb B0 _ We1 _ _ _ _ _ _) := HRb.out.appP hog1 hgg1 (hrg1.imp id (fun e => Nat.le_of_eq e.symm))
        have hcN1 : We1.cell? ⟨Wd.heap.size + 1, 0, none⟩ = some (.string nm) := by
          rw [hgg1.cell_far ⟨Wd.heap.size + 1, 0, none⟩ (by simp) (fun e => absurd (ownBlock_lt HRd.out.tl.pown e.symm).2 (by show ¬ (Wd.heap.size + 1 < Wd.heap.size); omega))]; exact hcN
        refine hK.out _ _ (fun _ => HRc.out.cells HBX.out) (fun _ => ?_)
        try simp only [Act.put, List.setIfInBounds_toArray, List.set_cons_zero, List.set_cons_succ]
        refine anyT.free (i := 10) (v := ?gv10b) rfl (by kernel_rfl) (fun _ _ _ h => h) (by rfl) (fun w => ?gy10b) (fun _ => HRc.out.cells HBX.out) ?gr10b
        case gy10b =>
          go_simp
          try with_reducible rfl
        try simp only [Act.put, List.setIfInBounds_toArray, List.set_cons_zero, List.set_cons_succ]
        refine anyT.step (i := 9) rfl (by kernel_rfl) (fun K' hK => ?_)
        refine step_app1 (by rfl) _ _ _ (by rfl) B0 9 _ 16 Tryz.underlying43 Tryz.infoStr2 (by rfl) (by decide) (by rfl) HRc.out.tl.nown (.string nm) (Wd.heap.size + 1) (by rfl) hcN1 (by rfl) (by rw [List.length_map]; exact HPL.out.2) (Nat.le_trans HRc.out.lo.2 HRc.out.gk.size) ?_
        intro g2 g2c We2 hog2 hgg2 hrg2 _
        have HRf : Hid (RS tb B0 _ We2 _ _ _ _ _ _) := HRc.out.appN hog2 hgg2 (hrg2.imp id (fun e => Nat.le_of_eq e.symm))
        refine hK.out _ _ (fun _ => HRf.out.cells HBX.out) (fun _ => ?_)
        try simp only [Act.put, List.setIfInBounds_toArray, List.set_cons_zero, List.set_cons_succ]
        obtain ⟨hbe, hbe1⟩ := HRf.out.cells HBX.out
        have hfe := HRf.out.frozen HBX.out 0
        have hfe1 := HRf.out.frozen HBX.out 1
        have HFIN := Lib.hid (HRf.out.store HGS.out)
        refine anyT.step (i := 11) rfl (by kernel_rfl) (fun K' hK => ?_)
        go_simp
        refine hK.out _ _ (not_more (by kernel_rfl)) (fun _ => ?_)
        try simp only [List.setIfInBounds_toArray, List.set_cons_zero, List.set_cons_succ]
        refine anyT.free (i := 12) (v := ?gv12b) rfl (by kernel_rfl) (fun _ _ _ h => h) (by rfl) (fun w => ?gy12b) (not_more (by kernel_rfl)) ?gr12b
        case gy12b =>
          go_simp
          try with_reducible rfl
        try simp only [Act.put, List.setIfInBounds_toArray, List.set_cons_zero, List.set_cons_succ]
        refine anyT.step (i := 13) rfl (by kernel_rfl) (fun K' hK => ?_)
        go_simp
        refine hK.out _ _ (not_more (by kernel_rfl)) (fun _ => ?_)
        refine anyT.done (by kernel_rfl) ?_
        go_wp2_with fail
        go_meet
        case rel =>
          have hfin := HFIN.out
          simp only [List.length_map] at hfin
          exact ⟨_, _, hfin.1, hfin.2⟩
    · go_simp
      have HRa : Hid (RS tb B0 _ (Wd.alloc (.cells #[.string nm] 9)) _ _ _ _ _ _) := HRd.out.up (Up.alloc _ _)
      refine hK.out _ _ (fun _ => HRa.out.cells HBX.out) (fun _ => ?_)
      try simp only [List.setIfInBounds_toArray, List.set_cons_zero, List.set_cons_succ]
      refine anyT.step (i := 3) rfl (by kernel_rfl) (fun K' hK => ?_)
      go_simp
      have HRb : Hid (RS tb B0 _ ((Wd.alloc (.cells #[.string nm] 9)).alloc (.cells #[.int .i64 z] 3)) _ _ _ _ _ _) := HRa.out.up (Up.alloc _ _)
      refine hK.out _ _ (fun _ => HRb.out.cells HBX.out) (fun _ => ?_)
      try simp only [List.setIfInBounds_toArray, List.set_cons_zero, List.set_cons_succ]
      have hcP := cell_at_new (Wd.alloc (.cells #[.string nm] 9)) #[.int .i64 z] 3 0
      have hcN := (Up.alloc (Wd.alloc (.cells #[.string nm] 9)) (.cells #[.int .i64 z] 3)).cell (cell_at_new Wd #[.string nm] 9 0)
      rw [World.size_alloc] at hcP
      refine anyT.step (i := 4) rfl (by kernel_rfl) (fun K' hK => ?_)
      refine step_app1 (by rfl) _ _ _ (by rfl) B0 3 _ 8 Tryz.underlying26 Tryz.infoI (by rfl) (by decide) (by rfl) HRb.out.tl.pown (.int .i64 z) (Wd.heap.size + 1) (by rfl) hcP (by rfl) (by rw [List.length_map]; exact HPL.out.1) (Nat.le_trans HRb.out.lo.2 HRb.out.gk.size) ?_
      intro g1 g1c We1 hog1 hgg1 hrg1 _
      have HRc : Hid (RS tb B0 _ We1 _ _ _ _ _ _) := HRb.out.appP hog1 hgg1 (hrg1.imp id (fun e => Nat.le_of_eq e.symm))
      have hcN1 : We1.cell? ⟨Wd.heap.size, 0, none⟩ = some (.string nm) := by
        rw [hgg1.cell_far ⟨Wd.heap.size, 0, none⟩ (by simp; omega) (fun e => absurd (ownBlock_lt HRd.out.tl.pown e.symm).2 (by show ¬ (Wd.heap.size < Wd.heap.size); omega))]; exact hcN
      refine hK.out _ _ (fun _ => HRc.out.cells HBX.out) (fun _ => ?_)
      try simp only [Act.put, List.setIfInBounds_toArray, List.set_cons_zero, List.set_cons_succ]
      refine anyT.free (i := 10) (v := ?gv10c) rfl (by kernel_rfl) (fun _ _ _ h => h) (by rfl) (fun w => ?gy10c) (fun _ => HRc.out.cells HBX.out) ?gr10c
      case gy10c =>
        go_simp
        try with_reducible rfl
      try simp only [Act.put, List.setIfInBounds_toArray, List.set_cons_zero, List.set_cons_succ]
      refine anyT.step (i := 9) rfl (by kernel_rfl) (fun K' hK => ?_)
      refine step_app1 (by rfl) _ _ _ (by rfl) B0 9 _ 16 Tryz.underlying43 Tryz.infoStr2 (by rfl) (by decide) (by rfl) HRc.out.tl.nown (.string nm) Wd.heap.size (by rfl) hcN1 (by rfl) (by rw [List.length_map]; exact HPL.out.2) (Nat.le_trans HRc.out.lo.2 HRc.out.gk.size) ?_
      intro g2 g2c We2 hog2 hgg2 hrg2 _
      have HRf : Hid (RS tb B0 _ We2 _ _ _ _ _ _) := HRc.out.appN hog2 hgg2 (hrg2.imp id (fun e => Nat.le_of_eq e.symm))
      refine hK.out _ _ (fun _ => HRf.out.cells HBX.out) (fun _ => ?_)
      try simp only [Act.put, List.setIfInBounds_toArray, List.set_cons_zero, List.set_cons_succ]
      obtain ⟨hbe, hbe1⟩ := HRf.out.cells HBX.out
      have hfe := HRf.out.frozen HBX.out 0
      have hfe1 := HRf.out.frozen HBX.out 1
      have HFIN := Lib.hid (HRf.out.store HGS.out)
      refine anyT.step (i := 11) rfl (by kernel_rfl) (fun K' hK => ?_)
      go_simp
      refine hK.out _ _ (not_more (by kernel_rfl)) (fun _ => ?_)
      try simp only [List.setIfInBounds_toArray, List.set_cons_zero, List.set_cons_succ]
      refine anyT.free (i := 12) (v := ?gv12c) rfl (by kernel_rfl) (fun _ _ _ h => h) (by rfl) (fun w => ?gy12c) (not_more (by kernel_rfl)) ?gr12c
      case gy12c =>
        go_simp
        try with_reducible rfl
      try simp only [Act.put, List.setIfInBounds_toArray, List.set_cons_zero, List.set_cons_succ]
      refine anyT.step (i := 13) rfl (by kernel_rfl) (fun K' hK => ?_)
      go_simp
      refine hK.out _ _ (not_more (by kernel_rfl)) (fun _ => ?_)
      refine anyT.done (by kernel_rfl) ?_
      go_wp2_with fail
      go_meet
      case rel =>
        have hfin := HFIN.out
        simp only [List.length_map] at hfin
        exact ⟨_, _, hfin.1, hfin.2⟩
  case rest =>
    obtain ⟨P2, N2, hG2, hK2⟩ := hcut
    obtain ⟨d0, d1, _, _⟩ := hG2.cells
    have e1 : (t.push z nm).ps.length = t.ps.length + 1 := by simp [Tre.push]
    obtain ⟨pp2, pc2, rfl, _⟩ := hG2.tl.pown.form (n := t.ps.length + 1) (by simp [e1])
    have HF := Lib.hid (⟨_, _, hG2, hK2⟩ : ∃ P' N', GS tb B0 wc P' N' (t.push z nm) ∧ GK tb w wc (.slice pp t.ps.length pc) (.slice np t.ps.length nc) P' N')
    have i1 : wrap64 ((((t.ps.length + 1 : Nat)) : Int) - 1) = (t.ps.length : Int) := by unfold wrap64; omega
    have i2 : wrap64 ((t.ps.length : Int) + 1 - 1) = (t.ps.length : Int) := by unfold wrap64; omega
    clear hG2 hK2 e1 hc0 hc1
    go_wp2_with fail
    go_ret
    exact ⟨ret_int (by first | rfl | omega | simp), HF.out⟩
end Go.Proofs.YtpjijbophjdgaaaGreat
namespace Go.Proofs.YtpjijbophjdgaaaGreat
open Go.RowKit Go.Deep
set_option maxRecDepth 100000 in
set_option maxHeartbeats 1000000 in
theorem least32_t (S : Nat → Prop) (w : World) (bo bn br : Nat) (ov nv : Value) (own : List (List Int)) (nds : List Int) (x : Int) (m : Nat) (ho : w.cell? ⟨bo, 0, none⟩ = some ov) (hO : RowsAt S w ov own) (hn : w.cell? ⟨bn, 0, none⟩ = some nv) (hN : IntsAt S w nv nds) (hr : w.cell? ⟨br, 0, none⟩ = some (.int .i64 2))
    (hm : m ≤ own.length) (hm2 : m ≤ nds.length) (hnd : ∀ k, k < m → gi nds k = ((3 + k : Nat) : Int)) (hol : own.length ≤ 1000) (hl : ∀ k, (gl own k).length ≤ 1000000) :
    Calls Tryz.prog 132 #[.int .i64 x, .int .i64 (m : Int), .pointer (some ⟨bo, 0, none⟩), .pointer (some ⟨bn, 0, none⟩), .pointer (some ⟨br, 0, none⟩)] w fun e w' => e = .returned (.int .i64 (lastQ own x m)) ∧ w = w' := by
  obtain ⟨op, oc, rfl, -, -⟩ := rows_open hO
  obtain ⟨np, nc, rfl, -, -⟩ := SlAt.open hN
  have HO : Hid (RowsAt S w (.slice op own.length oc) own) := hO
  have HN : Hid (IntsAt S w (.slice np nds.length nc) nds) := hN
  have HND := Lib.hid hnd
  have HL := Lib.hid hl
  have m1 : wrap64 ((m : Int) - 1) = (m : Int) - 1 := by unfold wrap64; omega
  clear hO hN hnd hl
  go_enter Tryz.func132, Tryz.ntmps132
  go_wp2_with fail
  clear m1
  go_loop [8] (fun i => ∃ k : Nat, k ≤ m ∧ i = .int .i64 ((k : Int) - 1) ∧ Hid (lastQ own x m = lastQ own x k)) (fun i => (intOf i + 1).toNat)
  case atStart => exact ⟨m, Nat.le_refl _, rfl, rfl⟩
  case round =>
    obtain ⟨k, hk, rfl, hd⟩ := hrel
    cases k with
    | zero =>
      have i0 : ¬ (0 : Int) ≤ ((0 : Nat) : Int) - 1 := by decide
      go_wp2_with fail
      go_ret
      exact ⟨ret_int hd.out.symm, rfl⟩
    | succ k =>
      obtain ⟨b, off, q, c, rfl, hc, hi⟩ := rows_get HO.out (show k < own.length by omega)
      obtain ⟨b2, off2, rfl, hc2⟩ := ints_get HN.out (show k < nds.length by omega)
      rw [HND.out k (by omega)] at hc2
      have HCT : Hid (Calls Tryz.prog 84 #[.slice q (gl own k).length c, .int .i64 x] w fun e w' => e = .returned (.bool ((gl own k).contains x)) ∧ w = w') := by
        have h := contains_int_t S w _ (gl own k) x hi (HL.out k)
        rw [any_contains] at h; exact h
      have HQ : Hid (lastQ own x (k + 1) = if (gl own k).contains x then ((3 + k : Nat) : Int) else lastQ own x k) := rfl
      have e1 : ((k + 1 : Nat) : Int) - 1 = (k : Int) := by omega
      rw [e1]
      have k1 : (0 : Int) ≤ (k : Int) := Int.natCast_nonneg _
      have k2 : (k : Int) < (own.length : Int) := by omega
      have k3 : (k : Int) < (nds.length : Int) := by omega
      have k4 : wrap64 ((k : Int) - 1) = (k : Int) - 1 := by unfold wrap64; omega
      clear hi e1
      cases hct : (gl own k).contains x
      · rw [hct] at HCT HQ
        have HQ2 : Hid (lastQ own x m = lastQ own x k) := by unfold Hid; rw [hd.out, HQ.out, if_neg (by decide)]
        clear hct
        go_wp2_with fail
        refine HCT.out.mono ?_
        rintro e w' ⟨rfl, rfl⟩
        go_wp2_with fail
        go_round
        case rel => exact ⟨k, by omega, rfl, HQ2⟩
        case measure => clear k4; simp [intOf]
      · rw [hct] at HCT HQ
        have HQ2 : Hid (lastQ own x m = ((3 + k : Nat) : Int)) := by unfold Hid; rw [hd.out, HQ.out, if_pos rfl]
        clear hct k4
        go_wp2_with fail
        refine HCT.out.mono ?_
        rintro e w' ⟨rfl, rfl⟩
        go_wp2_with fail
        go_ret
        exact ⟨ret_int (by rw [HQ2.out]; omega), rfl⟩
end Go.Proofs.YtpjijbophjdgaaaGreat
namespace Go.Proofs.YtpjijbophjdgaaaGreat
open Go.RowKit Go.Deep
theorem Tryz.infoSIc : (Tryz.prog.info? 26).map (fun i => (i.zero, i.size, i.bytes)) = some (some (.slice none 0 0), 1, 24) := by kernel_rfl
def ClrPost (S : Nat → Prop) (w : World) (T : TypeId) (xs : List (List Int)) (en : Ending) (w' : World) : Prop :=
  Up w w' ∧ ∃ u vals, en = .returned u ∧ vals.length = xs.length ∧ Owns w.heap.size T w' u vals ∧ ∀ i, i < xs.length → IntsAt S w' (vals.getD i undef) (gl xs i)
theorem nil_rows {S : Nat → Prop} {w : World} {n cap : Nat} {xs : List (List Int)} (h : RowsAt S w (.slice none n cap) xs) : xs = [] := by
  obtain ⟨f, ⟨q, c, e, _, h⟩, _⟩ := h
  injection e with e1 e2 e3
  rcases h with h | ⟨b, off, h, _⟩
  · exact List.eq_nil_of_length_eq_zero h
  · rw [← e1] at h; cases h
theorem slice_one {u : Value} (h : ∃ p n c, u = .slice p n c) : u.oneCell' = true := by obtain ⟨_, _, _, rfl⟩ := h; rfl
set_option maxRecDepth 100000 in
set_option maxHeartbeats 400000 in
theorem clone_rows_t (S : Nat → Prop) (w : World) (v : Value) (xs : List (List Int)) (h : RowsAt S w v xs) (hn : xs.length ≤ 1000000) :
    Calls Tryz.prog 25 #[v] w (ClrPost S w 26 xs) := by
  obtain ⟨p, cap, rfl, hcap, _⟩ := rows_open h
  cases p with
  | none =>
    obtain rfl := nil_rows h
    have heq := fun (w : World) => Lib.run_eql_slice_nil (P := Tryz.prog) w 22 26 none 0 cap 0 0 Tryz.underlying22
    clear h
    go_enter Tryz.func25, Tryz.ntmps25
    go_wp2_with fail
    go_ret
    exact ⟨Up.refl _, _, [], rfl, rfl, Owns.nil _ _ _, fun i hi => absurd hi (Nat.not_lt_zero _)⟩
  | some p =>
    have heq := fun (w : World) => Lib.run_eql_slice_nil (P := Tryz.prog) w 22 26 (some p) xs.length cap 0 0 Tryz.underlying22
    have hu := Up.alloc w (.cells #[] 26)
    obtain ⟨f, hsl, hr⟩ := h
    obtain ⟨q, c, e, _, H⟩ := SlAt.open (SlAt.keep hsl (hu.kept S))
    injection e with e1 e2 e3
    subst e1
    have hnl : ((List.range xs.length).map f).length = xs.length := by simp
    have hnews : ∀ j u, ((List.range xs.length).map f)[j]? = some u → (w.alloc (.cells #[] 26)).cell? (p.add j) = some u := fun j u hj => by
      have hj2 : j < xs.length := by
        have := (List.getElem?_eq_some_iff.1 hj).1
        simpa using this
      obtain ⟨b, off, e, hc⟩ := H j hj2
      injection e with e
      subst e
      have hadd : (⟨b, off, none⟩ : Addr).add j = ⟨b, off + j, none⟩ := by unfold Addr.add; split <;> simp_all
      rw [hadd, hc]
      simp [hj2] at hj; rw [hj]
    have hone : ∀ u ∈ (List.range xs.length).map f, u.oneCell' = true := fun u hu2 => by
      obtain ⟨k, hk, rfl⟩ := List.mem_map.1 hu2
      obtain ⟨p', c', e', _⟩ := hr k (List.mem_range.1 hk)
      exact slice_one ⟨_, _, _, e'⟩
    have HU := Lib.hid hu
    have HN := Lib.hid hnews
    have HO := Lib.hid hone
    have HNL := Lib.hid hnl
    have HR := Lib.hid hr
    have HM := Lib.hid (Owns.made w 26)
    clear hsl hr H hnews hu hone hnl e2 e3
    go_enter Tryz.func25, Tryz.ntmps25
    go_wp2_with (at_builtin; refine wpList_appS _ rfl _ _ 22 rfl w.heap.size 26 (.slice none 0 0) 24 Tryz.underlying22 Tryz.infoSIc rfl (by decide) HM.out rfl p cap ((List.range xs.length).map f) (by rw [HNL.out]; rfl) HN.out HO.out (by rw [HNL.out]; simp; omega) (by simp) ?_; intro v' w' hown' hgrow hbel)
    go_ret
    have hup : Up w w' := Below.trans HU.out hbel
    refine ⟨hup, _, (List.range xs.length).map f, rfl, HNL.out, by simpa using hown', fun i hi => ?_⟩
    have e : ((List.range xs.length).map f).getD i undef = f i := by simp [hi]
    rw [e]; exact (HR.out i hi).keep (hup.kept S)
end Go.Proofs.YtpjijbophjdgaaaGreat
