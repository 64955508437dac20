/- The walk of TopErrors. -/
import Derived.Test.YtpjijbophjdgaaaGreatQ48
import Derived.Test.YtpjijbophjdgaaaGreatQ49
import Derived.Test.YtpjijbophjdgaaaGreatQ15
import Derived.Test.YtpjijbophjdgaaaGreatQ35
namespace Go.Proofs.YtpjijbophjdgaaaGreat
open Go.RowKit Go.Deep Go.Sort
set_option maxRecDepth 100000 in
set_option maxHeartbeats 16000000 in
theorem terr_law (w : World) (v : Value) (xs : List (List Int)) (h : RowsAt Any w v xs) (hn : xs.length ≤ 9223372036854775807) (hr : ∀ k, (gl xs k).length ≤ 9223372036854775807) :
    Calls Tryz.prog 3 #[v] w fun e w' => e = .returned (.bool true) ∧ Up w w' := by
  have HGT := Lib.hid (great30_t Any w v xs h hn hr)
  have HAW := Lib.hid awake35T_t
  obtain ⟨p, cap, rfl, hcap, _⟩ := rows_open h
  cases hg : great30B xs
  case true =>
    rw [hg] at HGT
    clear hg h hn hr hcap
    go_enter Tryz.func3, Tryz.ntmps3
    go_wp2_with (first | (go_at_call 8; refine HGT.out.mono ?_; rintro e w' ⟨rfl, rfl⟩) | (go_at_call 10; refine (HAW.out _).mono ?_; rintro e w' ⟨rfl, hu⟩))
    go_ret
    exact ⟨rfl, hu⟩
  obtain ⟨hn2, hr2⟩ := great30_small hg
  rw [hg] at HGT
  have HAC := Lib.hid (agcheck_t Any w _ xs h (by omega) (fun k => by have := hr2 k; omega))
  clear hg hn hr
  by_cases hag : agErr xs = 0
  case neg =>
    have d0 : (agErr xs != 0) = true := by simpa using hag
    clear hag h hcap hn2 hr2
    generalize agErr xs = z at *
    go_enter Tryz.func3, Tryz.ntmps3
    go_wp2_with (first | (go_at_call 8; refine HGT.out.mono ?_; rintro e w' ⟨rfl, rfl⟩) | (go_at_call 9; refine HAC.out.mono ?_; rintro e w' ⟨rfl, rfl⟩) | (go_at_call 10; refine (HAW.out _).mono ?_; rintro e w' ⟨rfl, hu⟩))
    go_ret
    exact ⟨rfl, hu⟩
  rw [hag] at HAC
  by_cases q1 : xs.length < 2
  case pos =>
    have d1 : decide ((xs.length : Int) < 2) = true := decide_eq_true (by omega)
    clear hag h hcap hn2 hr2 q1
    go_enter Tryz.func3, Tryz.ntmps3
    go_wp2_with (first | (go_at_call 8; refine HGT.out.mono ?_; rintro e w' ⟨rfl, rfl⟩) | (go_at_call 9; refine HAC.out.mono ?_; rintro e w' ⟨rfl, rfl⟩) | (go_at_call 10; refine (HAW.out _).mono ?_; rintro e w' ⟨rfl, hu⟩))
    go_ret
    exact ⟨rfl, hu⟩
  have d1 : decide ((xs.length : Int) < 2) = false := decide_eq_false (by omega)
  by_cases q2 : 8 < xs.length
  case pos =>
    have d2 : decide ((8 : Int) < (xs.length : Int)) = true := decide_eq_true (by omega)
    clear hag h hcap hn2 hr2 q1 q2
    go_enter Tryz.func3, Tryz.ntmps3
    go_wp2_with (first | (go_at_call 8; refine HGT.out.mono ?_; rintro e w' ⟨rfl, rfl⟩) | (go_at_call 9; refine HAC.out.mono ?_; rintro e w' ⟨rfl, rfl⟩) | (go_at_call 10; refine (HAW.out _).mono ?_; rintro e w' ⟨rfl, hu⟩))
    go_ret
    exact ⟨rfl, hu⟩
  have d2 : decide ((8 : Int) < (xs.length : Int)) = false := decide_eq_false (by omega)
  have h2 : 2 ≤ xs.length := by omega
  have h8 : xs.length ≤ 8 := by omega
  obtain ⟨b, off, q, c, rfl, hc0, _⟩ := rows_get h (show 0 < xs.length by omega)
  rw [Nat.add_zero] at hc0
  have i0 : (0 : Int) < (xs.length : Int) := by omega
  have i0n : 0 < xs.length := by omega
  clear q1 q2
  by_cases q3 : 6 < (gl xs 0).length
  case pos =>
    have d3 : decide ((6 : Int) < ((gl xs 0).length : Int)) = true := decide_eq_true (by omega)
    clear hag h hcap hn2 hr2 q3
    generalize (gl xs 0).length = m at *
    go_enter Tryz.func3, Tryz.ntmps3
    go_wp2_with (first | (go_at_call 8; refine HGT.out.mono ?_; rintro e w' ⟨rfl, rfl⟩) | (go_at_call 9; refine HAC.out.mono ?_; rintro e w' ⟨rfl, rfl⟩) | (go_at_call 10; refine (HAW.out _).mono ?_; rintro e w' ⟨rfl, hu⟩))
    go_ret
    exact ⟨rfl, hu⟩
  have d3 : decide ((6 : Int) < ((gl xs 0).length : Int)) = false := decide_eq_false (by omega)
  have hnl : (namesA xs.length).length = xs.length := namesA_len _
  obtain ⟨nmo, nds⟩ := nm35_ok h2 h8
  obtain ⟨e1, e2, e3, e4, hT⟩ := te_groups hag h2 h8 (by omega) hnl (fun k hk => nmo k (by omega)) (fun j k hj hk => nds k (by omega) j hj)
  have hrB : ∀ k, (gl xs k).length ≤ 1000000 := fun k => by have := hr2 k; omega
  have HOR := Lib.hid (original_t Any w _ xs 0 h (by omega) hrB)
  have HX := Lib.hid h
  have HRB := Lib.hid hrB
  have HTE := Lib.hid hT
  have HE := Lib.hid (⟨e1, e2, e3, e4⟩ : orErr xs 0 = 0 ∧ orN xs 0 = gl xs 0 ∧ grErr xs (gl xs 0) = 0 ∧ (groupsN xs (gl xs 0)).length ≤ 96)
  have HQ3 : Hid ((gl xs 0).length ≤ 6) := by unfold Hid; omega
  have HD := Lib.hid d3
  have HNL := Lib.hid hnl
  unfold OrPost at HOR
  clear hag h hcap hn2 hr2 q3 nmo nds e1 e2 e3 e4 hT hrB hnl
  go_enter Tryz.func3, Tryz.ntmps3
  go_wp2_with (first | (go_at_call 8; refine HGT.out.mono ?_; rintro e w' ⟨rfl, rfl⟩) | (go_at_call 9; refine HAC.out.mono ?_; rintro e w' ⟨rfl, rfl⟩) | fail)
  refine HOR.out.mono ?_
  rintro e w1 ⟨hu1, ov, rfl, ho⟩
  rw [HE.out.1]
  rw [HE.out.2.1] at ho
  obtain ⟨op, oc, rfl, _, _⟩ := SlAt.open ho
  have HU1 := Lib.hid hu1
  have HO1 : Hid (IntsAt Any w1 (.slice op (gl xs 0).length oc) (gl xs 0)) := ho
  have HX1 := Lib.hid (HX.out.keep (hu1.kept _))
  have HGR := Lib.hid (groups_t Any w1 _ _ xs (gl xs 0) HX1.out HO1.out (by omega) HRB.out (by have := HQ3.out; omega))
  unfold GrPost at HGR
  clear hu1 ho HOR HX hc0 d3 HD
  go_wp2_with fail
  refine HGR.out.mono ?_
  rintro e w2 ⟨hu2, gv, rfl, hg2⟩
  rw [HE.out.2.2.1]
  obtain ⟨gp, gc, rfl, _⟩ := grps_open hg2
  have HU2 := Lib.hid (HU1.out.trans hu2)
  have HG2 := Lib.hid hg2
  have HSG := Lib.hid (significant_t Any w2 _ _ hg2 (by have := HE.out.2.2.2; omega))
  have HSL := Lib.hid (sigK_len (groupsN xs (gl xs 0)) (groupsN xs (gl xs 0)).length)
  have hl96 := HE.out.2.2.2
  unfold SgPost at HSG
  clear hu2 hg2 HU1 HO1 HX1 HGR HQ3
  generalize sigK (groupsN xs (gl xs 0)) (groupsN xs (gl xs 0)).length = l at *
  have HLL : Hid (l.length ≤ 96) := Nat.le_trans HSL.out hl96
  have HSM : Hid (∀ k, (gg l k).src.length ≤ 1000000) := fun k => by
    by_cases hk : k < l.length
    · have hset := src_set (HTE.out.src hk)
      have hnd : ((gg l k).src).Nodup := hset.asc.imp fun h => by omega
      have := hnd.length_le_of_subset (l₂ := (List.range 64).map fun (i : Nat) => (i : Int)) fun x hx => by
        have := hset.bd x hx
        exact List.mem_map.2 ⟨x.toNat, List.mem_range.2 (by omega), by omega⟩
      simp at this; omega
    · have : (gg l k).src = [] := by simp [gg, show l.length ≤ k by omega]
      rw [this]; decide
  clear hl96 HSL HE HRB
  go_wp2_with fail
  refine HSG.out.mono ?_
  rintro e w3 ⟨hu3, lv, rfl, hg3⟩
  obtain ⟨lp, lc, rfl, _⟩ := grps_open hg3
  have HU3 := Lib.hid (HU2.out.trans hu3)
  have HG3 := Lib.hid hg3
  have HCF := Lib.hid (conflicts_t Any w3 _ l hg3 (by have := HLL.out; omega) HSM.out)
  unfold CfPost at HCF
  rw [HTE.out.gc] at HCF
  clear hu3 hg3 HU2 HG2 HSG
  go_wp2_with fail
  refine HCF.out.mono ?_
  rintro e w4 ⟨hu4, bv, rfl, hb4⟩
  obtain ⟨bp, bc, rfl, _, _⟩ := rows_open hb4
  have HU4 := Lib.hid (HU3.out.trans hu4)
  have HB4 := Lib.hid hb4
  have HBL : Hid ((cfL l).length ≤ 1000000) := by
    unfold Hid; rw [HTE.out.cfL_eq]
    have h1 := cfK_len l l.length
    have h2 : l.length * l.length ≤ 96 * 96 := Nat.mul_le_mul HLL.out HLL.out
    omega
  have HG4 := Lib.hid ((HG3.out.keep (hu4.kept _)).sub (T := fun b => b < w4.heap.size) fun b _ hb => hb)
  clear hu4 hb4 HU3 HG3 HCF
  go_wp2_with fail
  go_loopw [11, 12, 13, 14, 15, 16, 17, 78] (fun kv d _ _ _ _ _ i wr => ∃ k : Nat, k ≤ l.length ∧ i = .int .i64 k ∧ kv = .int .i64 ((cfK l k).length : Nat) ∧ Hid (WnAt w4.heap.size wr d (wnK (xs.length : Int) l k)) ∧ Hid (Up w4 wr)) (fun _ _ _ _ _ _ _ i _ => l.length - (intOf i).toNat)
  case atStart => exact ⟨0, Nat.zero_le _, rfl, rfl, WnAt.start _ _, Up.refl _⟩
  case round =>
    obtain ⟨k, hk, rfl, rfl, hW, hUr⟩ := hrel
    obtain ⟨wo, rfl⟩ : ∃ wo : World, wo = wr := ⟨_, rfl⟩
    by_cases hlt : k < l.length
    · obtain ⟨gb, go, rq, rc, rfl, g0, g1, g2, gr⟩ := grps_get (HG4.out.keep (hUr.out.kept _)) hlt
      have i1 : (0 : Int) ≤ (k : Int) := Int.natCast_nonneg _
      have i2 : (k : Int) < (l.length : Int) := Int.ofNat_lt.2 hlt
      have i3 : (k : Int) < 128 := by have := HLL.out; omega
      have HGR := Lib.hid gr
      have HLT := Lib.hid hlt
      have HUo := Lib.hid hUr.out
      have HWo := Lib.hid hW.out
      clear gr hlt hk hUr hW
      have hUA : Up wo ((wo.alloc (.cells #[.int .i64 k] 3)).alloc (.cells #[.int .i64 (gg l k).un, .int .i64 (gg l k).st, .slice rq (gg l k).src.length rc] 37)) := (Up.alloc _ _).trans (Up.alloc _ _)
      have b13 : ((wo.alloc (.cells #[.int .i64 k] 3)).alloc (.cells #[.int .i64 (gg l k).un, .int .i64 (gg l k).st, .slice rq (gg l k).src.length rc] 37)).cell? ⟨wo.heap.size, 0, none⟩ = some (.int .i64 k) := (Up.alloc _ _).cell (box1_0 wo (.int .i64 k) 3)
      have b14 : ((wo.alloc (.cells #[.int .i64 k] 3)).alloc (.cells #[.int .i64 (gg l k).un, .int .i64 (gg l k).st, .slice rq (gg l k).src.length rc] 37)).cell? ⟨wo.heap.size + 1, 2, none⟩ = some (.slice rq (gg l k).src.length rc) := by
        have h := (box3 (wo.alloc (.cells #[.int .i64 k] 3)) (.int .i64 (gg l k).un) (.int .i64 (gg l k).st) (.slice rq (gg l k).src.length rc) 37).2.2
        rw [World.size_alloc] at h; exact h
      have HB13 := Lib.hid b13
      have HB14 := Lib.hid b14
      have HUA := Lib.hid hUA
      have HKS : Hid (cfK l (k + 1) = cfK l k ++ cfRow l k l.length) := cfK_succ l k
      clear hUA b13 b14
      by_cases q5 : (xs.length : Int) - 2 < ((gg l k).src.length : Int)
      · have d5 : decide ((xs.length : Int) - 2 < ((gg l k).src.length : Int)) = true := decide_eq_true q5
        have q5n : ((namesA xs.length).length : Int) - 2 < ((gg l k).src.length : Int) := by rw [HNL.out]; exact q5
        have HWS : Hid (wnK (xs.length : Int) l (k + 1) = wnK (xs.length : Int) l k) := by unfold Hid; rw [wnK, if_pos q5]
        have HR0 : Hid (cfRow l k l.length = []) := HTE.out.row0 HLT.out q5n _ (Nat.le_refl _)
        obtain ⟨f, hf1, hf2⟩ := HB4.out.keep ((HUo.out.trans HUA.out).kept _)
        have HOFF := Lib.hid (rows_has_d 16 #[.pointer (some ⟨wo.heap.size, 0, none⟩)] (enters_of Tryz.func16 (by kernel_rfl) rfl) Any _ (.slice bp (cfL l).length bc) (cfL l).length f (fun _ => false) hf1 (HBL.out) fun m hm => by
          obtain ⟨a, b, e, h1, h2⟩ := HTE.out.off HLT.out q5n hm
          have hi := hf2 m hm
          rw [e] at hi
          exact teOff_d Any _ wo.heap.size _ k a b HB13.out hi h1 h2)
        rw [any_none (p := fun _ => false) (fun _ _ => rfl)] at HOFF
        clear q5 q5n hf1 hf2 HB14 HB13 HGR
        go_wp2_with fail
        refine HOFF.out.mono ?_
        rintro e w7 ⟨rfl, n7, rfl⟩
        have HU7 := Lib.hid (HUA.out.trans (Up.drewN _ n7))
        clear HOFF HUA
        go_wp2_with fail
        go_roundw
        case rel => exact ⟨k + 1, HLT.out, by go_num, by rw [HKS.out, HR0.out, List.append_nil], by unfold Hid; rw [HWS.out]; exact HWo.out.up HU7.out, HUo.out.trans HU7.out⟩
        case measure => have := HLT.out; simp [intOf]; omega
      · have d5 : decide ((xs.length : Int) - 2 < ((gg l k).src.length : Int)) = false := decide_eq_false q5
        have q5k := Lib.hid q5
        obtain ⟨cv, ho, hcv, hrw⟩ := HWo.out
        obtain ⟨dp, dc, rfl, _⟩ := ho.form (n := (wnK (xs.length : Int) l k).length) hcv
        have HHAS : Hid (Calls Tryz.prog 15 #[.slice dp (wnK (xs.length : Int) l k).length dc, .func (.func 17) #[] #[.pointer (some ⟨wo.heap.size + 1, 0, none⟩)]] ((wo.alloc (.cells #[.int .i64 k] 3)).alloc (.cells #[.int .i64 (gg l k).un, .int .i64 (gg l k).st, .slice rq (gg l k).src.length rc] 37)) fun e w' => e = .returned (.bool (inW (wnK (xs.length : Int) l k) (gg l k).src)) ∧ ∃ q, w' = World.drewN ((wo.alloc (.cells #[.int .i64 k] 3)).alloc (.cells #[.int .i64 (gg l k).un, .int .i64 (gg l k).st, .slice rq (gg l k).src.length rc] 37)) q) := by
          obtain ⟨f, hf1, hf2⟩ := (HWo.out.up HUA.out).rows
          have hwl := wnK_len (xs.length : Int) l k
          exact rows_has_d 17 #[.pointer (some ⟨wo.heap.size + 1, 0, none⟩)] (enters_of Tryz.func17 (by kernel_rfl) rfl) Any _ _ _ f (fun j => decide (gl (wnK (xs.length : Int) l k) j = (gg l k).src)) hf1 (by have := HLL.out; have := HLT.out; omega) fun m hm =>
            teHas_d (fun b => b < w4.heap.size) Any _ (wo.heap.size + 1) _ _ _ _ HB14.out (IntsAt.keep HGR.out (HUA.out.kept _)) (hf2 m hm) (by
              obtain ⟨j, hj, e, _⟩ := mem_wnK.1 (gl_in hm)
              rw [← e]; exact HSM.out j) (HSM.out k)
        have HLC : Hid (cv.length = (wnK (xs.length : Int) l k).length ∧ (wnK (xs.length : Int) l k).length ≤ 1000000) := ⟨hcv, by have := wnK_len (xs.length : Int) l k; have := HLL.out; have := HLT.out; omega⟩
        have HOW := Lib.hid ho
        have HRW := Lib.hid hrw
        clear ho hcv hrw
        cases hin : inW (wnK (xs.length : Int) l k) (gg l k).src
        · have HWS : Hid (wnK (xs.length : Int) l (k + 1) = wnK (xs.length : Int) l k ++ [(gg l k).src]) := by
            unfold Hid
            rw [wnK, if_neg q5, if_neg (fun q => by rw [inW_iff.2 q] at hin; cases hin)]
          rw [hin] at HHAS
          have hZ : w4.heap.size ≤ wo.heap.size := HUo.out.size
          have HZ := Lib.hid hZ
          have HRO := Lib.hid HGR.out
          clear hin hZ q5
          have b14 := HB14.out
          go_wp2_with fail
          refine HHAS.out.mono ?_
          rintro e w7 ⟨rfl, n7, rfl⟩
          have hU7 := HUA.out.trans (Up.drewN _ n7)
          have HU7 := Lib.hid hU7
          have b13 := (Up.drewN _ n7).cell HB13.out
          have b14 := (Up.drewN _ n7).cell HB14.out
          have HB13a := Lib.hid b13
          have HB14a := Lib.hid b14
          have HO7 : Hid (Owns w4.heap.size 26 (World.drewN ((wo.alloc (.cells #[.int .i64 k] 3)).alloc (.cells #[.int .i64 (gg l k).un, .int .i64 (gg l k).st, .slice rq (gg l k).src.length rc] 37)) n7) (.slice dp (wnK (xs.length : Int) l k).length dc) cv) := HOW.out.same2 fun b hb => Below.block hU7 b (ownBlock_lt HOW.out hb).2
          have HR7 : Hid (∀ i, i < (wnK (xs.length : Int) l k).length → IntsAt (fun b => b < w4.heap.size) (World.drewN ((wo.alloc (.cells #[.int .i64 k] 3)).alloc (.cells #[.int .i64 (gg l k).un, .int .i64 (gg l k).st, .slice rq (gg l k).src.length rc] 37)) n7) (cv.getD i undef) (gl (wnK (xs.length : Int) l k) i)) := fun i hi => IntsAt.keep (HRW.out i hi) (hU7.kept _)
          have HRO7 := Lib.hid (IntsAt.keep HRO.out (hU7.kept _))
          have HNE : Hid (∀ b, wo.heap.size ≤ b → (Value.slice dp (wnK (xs.length : Int) l k).length dc).ownBlock ≠ some b) := fun b hb e => by have := (ownBlock_lt HOW.out e).2; omega
          clear hU7 HHAS HB13 HB14 HUA b13 HOW HRW HRO
          generalize World.drewN ((wo.alloc (.cells #[.int .i64 k] 3)).alloc (.cells #[.int .i64 (gg l k).un, .int .i64 (gg l k).st, .slice rq (gg l k).src.length rc] 37)) n7 = w7 at *
          go_wp2_with (at_builtin; refine wpList_appM w7 rfl _ _ 22 rfl w4.heap.size 26 (.slice none 0 0) 24 Tryz.underlying22 Tryz.infoSI3 rfl (by decide) HO7.out rfl (.slice rq (gg l k).src.length rc) _ rfl rfl rfl _ HLC.out.1 HLC.out.2 (Nat.le_trans HZ.out HU7.out.size) ?_; intro g8 cap8 wq hown8 hgr8 hbe8; have b13 := grown_cell hgr8 HB13a.out (HNE.out _ (Nat.le_refl _)); have b14 := grown_cell hgr8 HB14a.out (HNE.out _ (Nat.le_succ _)); have HB13q := Lib.hid b13; have HB14q := Lib.hid b14; have HUq : Hid (Up w4 wq) := Below.trans (HUo.out.trans HU7.out) hbe8; have HGRq : Hid (IntsAt (fun b => b < w4.heap.size) wq (.slice rq (gg l k).src.length rc) (gg l k).src) := IntsAt.keep HRO7.out (fun b hb _ => Below.block hbe8 b hb); have HWq : Hid (WnAt w4.heap.size wq (.slice (some ⟨g8, 0, none⟩) ((wnK (xs.length : Int) l k).length + 1) cap8) (wnK (xs.length : Int) l (k + 1))) := (by unfold Hid; rw [HWS.out]; exact WnAt.app HLC.out.1 HR7.out HRO7.out hown8 hbe8); clear hown8 hgr8 hbe8)
          go_loopw [11, 15, 16, 17] (fun kv jv _ _ wr => ∃ j : Nat, k + 1 ≤ j ∧ j ≤ l.length ∧ jv = .int .i64 j ∧ kv = .int .i64 (((cfK l k).length + (cfRow l k j).length : Nat) : Int) ∧ Hid (Up wq wr)) (fun _ jv _ _ _ => l.length - (intOf jv).toNat)
          case atStart => exact ⟨k + 1, Nat.le_refl _, HLT.out, by go_num, by rw [cfRow_start]; rfl, Up.refl _⟩
          case round =>
            obtain ⟨j, hkj, hj, rfl, rfl, hUr⟩ := hrel
            obtain ⟨wr2, rfl⟩ : ∃ wr2 : World, wr2 = wr := ⟨_, rfl⟩
            by_cases hjl : j < l.length
            · obtain ⟨gb2, go2, jq, jc, e9, _, _, g2, gr2⟩ := grps_get (HG4.out.keep ((HUq.out.trans hUr.out).kept _)) hjl
              injection e9 with e9
              injection e9 with e10 e11
              subst e10; subst e11
              have j1 : (0 : Int) ≤ (j : Int) := Int.natCast_nonneg _
              have j2 : (j : Int) < (l.length : Int) := Int.ofNat_lt.2 hjl
              have j3 : (j : Int) < 128 := by have := HLL.out; omega
              have b13 := hUr.out.cell HB13q.out
              have b14 := hUr.out.cell HB14q.out
              have HJL := Lib.hid hjl
              have HKJ := Lib.hid hkj
              have HUR := Lib.hid hUr.out
              have HGR2 := Lib.hid gr2
              by_cases q6 : (xs.length : Int) - 2 < ((gg l j).src.length : Int)
              · have d6 : decide ((xs.length : Int) - 2 < ((gg l j).src.length : Int)) = true := decide_eq_true q6
                have HRF : Hid (cfRow l k (j + 1) = cfRow l k j) := HTE.out.rowF HLT.out HJL.out (by rw [HNL.out]; exact q6)
                clear q6 gr2 hjl hj hkj hUr
                go_wp2_with fail
                go_roundw
                case rel => exact ⟨j + 1, Nat.le_succ_of_le HKJ.out, HJL.out, by go_num, by rw [HRF.out], HUR.out⟩
                case measure => have := HJL.out; simp [intOf]; omega
              · have d6 : decide ((xs.length : Int) - 2 < ((gg l j).src.length : Int)) = false := decide_eq_false q6
                have hcp := HTE.out.cp HLT.out HJL.out (by rw [HNL.out]; have := q5k.out; omega) (by rw [HNL.out]; exact q6)
                rw [HNL.out] at hcp
                have HCP : Hid (∀ W, Up wr2 W → Calls Tryz.prog 19 #[.int .i64 (xs.length : Int), .slice rq (gg l k).src.length rc, .slice jq (gg l j).src.length jc] W fun e w' => e = .returned (.tuple #[.bool (!cfB l k j), .int .i64 0]) ∧ Up W w') := fun W hW => by
                  have hh := compatible_t Any W _ _ (xs.length : Int) (gg l k).src (gg l j).src ((IntsAt.keep HGRq.out ((hUr.out.trans hW).kept _)).sub (T := Any) fun _ _ _ => trivial) ((IntsAt.keep gr2 (hW.kept _)).sub (T := Any) fun _ _ _ => trivial) (HSM.out k) (HSM.out j)
                  rw [hcp.1, hcp.2] at hh
                  exact hh
                have HG2 := Lib.hid g2
                have HB14r := Lib.hid b14
                have HB13r := Lib.hid b13
                have HRS : Hid (cfRow l k (j + 1) = cfRow l k j ++ (if k < j ∧ cfB l k j = true then [[(k : Int), (j : Int)]] else [])) := cfRow_succ l k j
                clear q6 gr2 hjl hj hkj hUr hcp
                go_wp2_with fail
                have hup : Hid (Up wr2 (wr2.drewN 1)) := Up.drewN wr2 1
                go_region_held3 (fun w' => Hid (Up wr2 w') ∧ w'.cell? ⟨wo.heap.size + 1, 2, none⟩ = some (.slice rq (gg l k).src.length rc) ∧ w'.cell? ⟨gb, go + j * 3 + 2, none⟩ = some (.slice jq (gg l j).src.length jc)) (exact ⟨hup, hup.out.cell HB14r.out, hup.out.cell HG2.out⟩) (first
                  | (go_at_call 19; refine (HCP.out _ hup.out).mono ?_; rintro e w9 ⟨rfl, hb9⟩; have hup : Hid (Up wr2 w9) := hup.out.trans hb9; clear hb9))
                have HUP := Lib.hid (HUR.out.trans hup.out)
                have b13 := hup.out.cell HB13r.out
                cases hcf : cfB l k j
                · have HRF : Hid (cfRow l k (j + 1) = cfRow l k j) := by unfold Hid; rw [HRS.out, if_neg (fun q => by rw [hcf] at q; cases q.2), List.append_nil]
                  clear hup HCP hcf
                  go_wp2_with fail
                  go_roundw
                  case rel => exact ⟨j + 1, Nat.le_succ_of_le HKJ.out, HJL.out, by go_num, by rw [HRF.out]; first | rfl | rw [Int.natCast_add], HUP.out⟩
                  case measure => have := HJL.out; simp [intOf]; omega
                · obtain ⟨at1, at2⟩ := cf_at (show k < j from HKJ.out) HJL.out hcf
                  rw [← HTE.out.cfL_eq] at at1 at2
                  have HRT : Hid ((cfRow l k (j + 1)).length = (cfRow l k j).length + 1) := by unfold Hid; rw [HRS.out, if_pos ⟨HKJ.out, hcf⟩, List.length_append]; rfl
                  obtain ⟨N, hN⟩ : ∃ N, (cfK l k).length + (cfRow l k j).length = N := ⟨_, rfl⟩
                  have hz : ((cfK l k).length : Int) + ((cfRow l k j).length : Int) = (N : Int) := by omega
                  rw [hN] at at1 at2
                  obtain ⟨bb, bo, rr, rcc, rfl, hbc, hbi⟩ := rows_get (HB4.out.keep ((HUq.out.trans HUP.out).kept _)) at1
                  rw [at2] at hbc hbi
                  have hbc : _ = some (Value.slice rr 2 rcc) := hbc
                  have HBI := Lib.hid hbi
                  have HBC := Lib.hid hbc
                  have n1 : (0 : Int) ≤ (N : Int) := Int.natCast_nonneg _
                  have n2 : (N : Int) < ((cfL l).length : Int) := Int.ofNat_lt.2 at1
                  have d7 : decide (((cfL l).length : Int) ≤ (N : Int)) = false := decide_eq_false (by omega)
                  have HN := Lib.hid hN
                  have HAT1 := Lib.hid at1
                  clear hcf HCP hup at1 at2 hbi hN
                  try rw [hz]
                  go_wp2_with fail
                  have HB13c := Lib.hid b13
                  have d8 : decide ((cfL l).length ≤ N) = false := decide_eq_false (Nat.not_le.2 HAT1.out)
                  have d9 : ((cfL l).length ≤ N) = False := eq_false (Nat.not_le.2 HAT1.out)
                  have d10 : (((cfL l).length : Int) ≤ (N : Int)) = False := eq_false (by have := HAT1.out; omega)
                  have n3 : (N : Int) < 1000000 := by have := HAT1.out; have := HBL.out; omega
                  have hua : Up w9 ((w9.alloc (.cells #[.int .i64 k, .int .i64 j] 3)).drew) := (Up.alloc _ _).trans (Up.drewN _ 1)
                  have hud : Up (w9.alloc (.cells #[.int .i64 k, .int .i64 j] 3)) ((w9.alloc (.cells #[.int .i64 k, .int .i64 j] 3)).drew) := Up.drewN _ 1
                  have HUA9 := Lib.hid hua
                  have HEQ : Hid (Calls Tryz.prog 18 #[.slice rr 2 rcc, .slice (some ⟨w9.heap.size, 0, none⟩) 2 2] ((w9.alloc (.cells #[.int .i64 k, .int .i64 j] 3)).drew) (EqPost ((w9.alloc (.cells #[.int .i64 k, .int .i64 j] 3)).drew) true)) :=
                    equal_yes Any Any _ _ _ [(k : Int), (j : Int)] [(k : Int), (j : Int)] (IntsAt.keep HBI.out (hua.kept _)) (IntsAt.keep (lit_ints w9 #[.int .i64 k, .int .i64 j] 3 [(k : Int), (j : Int)] rfl 2 rfl) (hud.kept _)) (show 2 ≤ 1000000 by decide) (show 2 ≤ 1000000 by decide) rfl
                  clear hua hud
                  have hup : Hid (Up w9 (w9.drewN 1)) := Up.drewN w9 1
                  go_region_held3 (fun w' => Hid (Up w9 w') ∧ w'.cell? ⟨bb, bo + N, none⟩ = some (.slice rr 2 rcc) ∧ w'.cell? ⟨wo.heap.size, 0, none⟩ = some (.int .i64 k)) (first | exact ⟨hup, hup.out.cell HBC.out, hup.out.cell HB13c.out⟩ | exact ⟨Up.refl _, HBC.out, HB13c.out⟩ | exact ⟨Up.alloc _ _, (Up.alloc _ _).cell HBC.out, (Up.alloc _ _).cell HB13c.out⟩ | exact ⟨HUA9.out, HUA9.out.cell HBC.out, HUA9.out.cell HB13c.out⟩) (first
                    | (go_at_call 18; refine HEQ.out.mono ?_; rintro e w10 ⟨rfl, n10, rfl⟩; have hup : Hid (Up w9 (World.drewN (w9.alloc (.cells #[.int .i64 k, .int .i64 j] 3)) (1 + n10))) := (Up.alloc _ _).trans (Up.drewN _ _)))
                  have HUP2 := Lib.hid (HUP.out.trans hup.out)
                  clear hup HEQ HUA9 d8 d9 d10
                  go_wp2_with fail
                  go_roundw
                  case rel => exact ⟨j + 1, Nat.le_succ_of_le HKJ.out, HJL.out, by go_num, by rw [HRT.out]; congr 1; have := HN.out; omega, HUP2.out⟩
                  case measure => have := HJL.out; simp [intOf]; omega
            · obtain rfl : j = l.length := by omega
              have HKL : Hid ((cfK l (k + 1)).length = (cfK l k).length + (cfRow l k l.length).length) := by unfold Hid; rw [HKS.out, List.length_append]
              go_wp2_with fail
              go_roundw
              case rel => exact ⟨k + 1, HLT.out, by go_num, by rw [HKL.out], HWq.out.up hUr.out, HUq.out.trans hUr.out⟩
              case measure => have := HLT.out; simp [intOf]; omega
        · have HWS : Hid (wnK (xs.length : Int) l (k + 1) = wnK (xs.length : Int) l k) := by unfold Hid; rw [wnK, if_neg q5, if_pos (inW_iff.1 hin)]
          rw [hin] at HHAS
          clear hin
          have b14 := HB14.out
          go_wp2_with fail
          refine HHAS.out.mono ?_
          rintro e wq ⟨rfl, n7, rfl⟩
          have hU7 := HUA.out.trans (Up.drewN _ n7)
          have HUq := Lib.hid (HUo.out.trans hU7)
          have HB13q := Lib.hid ((Up.drewN _ n7).cell HB13.out)
          have HB14q := Lib.hid ((Up.drewN _ n7).cell HB14.out)
          have HGRq := Lib.hid (IntsAt.keep HGR.out (hU7.kept _))
          have HWq : Hid (WnAt w4.heap.size (World.drewN ((wo.alloc (.cells #[.int .i64 k] 3)).alloc (.cells #[.int .i64 (gg l k).un, .int .i64 (gg l k).st, .slice rq (gg l k).src.length rc] 37)) n7) (.slice dp (wnK (xs.length : Int) l k).length dc) (wnK (xs.length : Int) l (k + 1))) := by unfold Hid; rw [HWS.out]; exact HWo.out.up hU7
          clear hU7 HHAS HB13 HB14 HUA HOW HRW HGR b14
          generalize World.drewN ((wo.alloc (.cells #[.int .i64 k] 3)).alloc (.cells #[.int .i64 (gg l k).un, .int .i64 (gg l k).st, .slice rq (gg l k).src.length rc] 37)) n7 = wq at *
          have b13 := HB13q.out
          have b14 := HB14q.out
          go_wp2_with fail
          go_loopw [11, 15, 16, 17] (fun kv jv _ _ wr => ∃ j : Nat, k + 1 ≤ j ∧ j ≤ l.length ∧ jv = .int .i64 j ∧ kv = .int .i64 (((cfK l k).length + (cfRow l k j).length : Nat) : Int) ∧ Hid (Up wq wr)) (fun _ jv _ _ _ => l.length - (intOf jv).toNat)
          case atStart => exact ⟨k + 1, Nat.le_refl _, HLT.out, by go_num, by rw [cfRow_start]; rfl, Up.refl _⟩
          case round =>
            obtain ⟨j, hkj, hj, rfl, rfl, hUr⟩ := hrel
            obtain ⟨wr2, rfl⟩ : ∃ wr2 : World, wr2 = wr := ⟨_, rfl⟩
            by_cases hjl : j < l.length
            · obtain ⟨gb2, go2, jq, jc, e9, _, _, g2, gr2⟩ := grps_get (HG4.out.keep ((HUq.out.trans hUr.out).kept _)) hjl
              injection e9 with e9
              injection e9 with e10 e11
              subst e10; subst e11
              have j1 : (0 : Int) ≤ (j : Int) := Int.natCast_nonneg _
              have j2 : (j : Int) < (l.length : Int) := Int.ofNat_lt.2 hjl
              have j3 : (j : Int) < 128 := by have := HLL.out; omega
              have b13 := hUr.out.cell HB13q.out
              have b14 := hUr.out.cell HB14q.out
              have HJL := Lib.hid hjl
              have HKJ := Lib.hid hkj
              have HUR := Lib.hid hUr.out
              have HGR2 := Lib.hid gr2
              by_cases q6 : (xs.length : Int) - 2 < ((gg l j).src.length : Int)
              · have d6 : decide ((xs.length : Int) - 2 < ((gg l j).src.length : Int)) = true := decide_eq_true q6
                have HRF : Hid (cfRow l k (j + 1) = cfRow l k j) := HTE.out.rowF HLT.out HJL.out (by rw [HNL.out]; exact q6)
                clear q6 gr2 hjl hj hkj hUr
                go_wp2_with fail
                go_roundw
                case rel => exact ⟨j + 1, Nat.le_succ_of_le HKJ.out, HJL.out, by go_num, by rw [HRF.out], HUR.out⟩
                case measure => have := HJL.out; simp [intOf]; omega
              · have d6 : decide ((xs.length : Int) - 2 < ((gg l j).src.length : Int)) = false := decide_eq_false q6
                have hcp := HTE.out.cp HLT.out HJL.out (by rw [HNL.out]; have := q5k.out; omega) (by rw [HNL.out]; exact q6)
                rw [HNL.out] at hcp
                have HCP : Hid (∀ W, Up wr2 W → Calls Tryz.prog 19 #[.int .i64 (xs.length : Int), .slice rq (gg l k).src.length rc, .slice jq (gg l j).src.length jc] W fun e w' => e = .returned (.tuple #[.bool (!cfB l k j), .int .i64 0]) ∧ Up W w') := fun W hW => by
                  have hh := compatible_t Any W _ _ (xs.length : Int) (gg l k).src (gg l j).src ((IntsAt.keep HGRq.out ((hUr.out.trans hW).kept _)).sub (T := Any) fun _ _ _ => trivial) ((IntsAt.keep gr2 (hW.kept _)).sub (T := Any) fun _ _ _ => trivial) (HSM.out k) (HSM.out j)
                  rw [hcp.1, hcp.2] at hh
                  exact hh
                have HG2 := Lib.hid g2
                have HB14r := Lib.hid b14
                have HB13r := Lib.hid b13
                have HRS : Hid (cfRow l k (j + 1) = cfRow l k j ++ (if k < j ∧ cfB l k j = true then [[(k : Int), (j : Int)]] else [])) := cfRow_succ l k j
                clear q6 gr2 hjl hj hkj hUr hcp
                go_wp2_with fail
                have hup : Hid (Up wr2 (wr2.drewN 1)) := Up.drewN wr2 1
                go_region_held3 (fun w' => Hid (Up wr2 w') ∧ w'.cell? ⟨wo.heap.size + 1, 2, none⟩ = some (.slice rq (gg l k).src.length rc) ∧ w'.cell? ⟨gb, go + j * 3 + 2, none⟩ = some (.slice jq (gg l j).src.length jc)) (exact ⟨hup, hup.out.cell HB14r.out, hup.out.cell HG2.out⟩) (first
                  | (go_at_call 19; refine (HCP.out _ hup.out).mono ?_; rintro e w9 ⟨rfl, hb9⟩; have hup : Hid (Up wr2 w9) := hup.out.trans hb9; clear hb9))
                have HUP := Lib.hid (HUR.out.trans hup.out)
                have b13 := hup.out.cell HB13r.out
                cases hcf : cfB l k j
                · have HRF : Hid (cfRow l k (j + 1) = cfRow l k j) := by unfold Hid; rw [HRS.out, if_neg (fun q => by rw [hcf] at q; cases q.2), List.append_nil]
                  clear hup HCP hcf
                  go_wp2_with fail
                  go_roundw
                  case rel => exact ⟨j + 1, Nat.le_succ_of_le HKJ.out, HJL.out, by go_num, by rw [HRF.out]; first | rfl | rw [Int.natCast_add], HUP.out⟩
                  case measure => have := HJL.out; simp [intOf]; omega
                · obtain ⟨at1, at2⟩ := cf_at (show k < j from HKJ.out) HJL.out hcf
                  rw [← HTE.out.cfL_eq] at at1 at2
                  have HRT : Hid ((cfRow l k (j + 1)).length = (cfRow l k j).length + 1) := by unfold Hid; rw [HRS.out, if_pos ⟨HKJ.out, hcf⟩, List.length_append]; rfl
                  obtain ⟨N, hN⟩ : ∃ N, (cfK l k).length + (cfRow l k j).length = N := ⟨_, rfl⟩
                  have hz : ((cfK l k).length : Int) + ((cfRow l k j).length : Int) = (N : Int) := by omega
                  rw [hN] at at1 at2
                  obtain ⟨bb, bo, rr, rcc, rfl, hbc, hbi⟩ := rows_get (HB4.out.keep ((HUq.out.trans HUP.out).kept _)) at1
                  rw [at2] at hbc hbi
                  have hbc : _ = some (Value.slice rr 2 rcc) := hbc
                  have HBI := Lib.hid hbi
                  have HBC := Lib.hid hbc
                  have n1 : (0 : Int) ≤ (N : Int) := Int.natCast_nonneg _
                  have n2 : (N : Int) < ((cfL l).length : Int) := Int.ofNat_lt.2 at1
                  have d7 : decide (((cfL l).length : Int) ≤ (N : Int)) = false := decide_eq_false (by omega)
                  have HN := Lib.hid hN
                  have HAT1 := Lib.hid at1
                  clear hcf HCP hup at1 at2 hbi hN
                  try rw [hz]
                  go_wp2_with fail
                  have HB13c := Lib.hid b13
                  have d8 : decide ((cfL l).length ≤ N) = false := decide_eq_false (Nat.not_le.2 HAT1.out)
                  have d9 : ((cfL l).length ≤ N) = False := eq_false (Nat.not_le.2 HAT1.out)
                  have d10 : (((cfL l).length : Int) ≤ (N : Int)) = False := eq_false (by have := HAT1.out; omega)
                  have n3 : (N : Int) < 1000000 := by have := HAT1.out; have := HBL.out; omega
                  have hua : Up w9 ((w9.alloc (.cells #[.int .i64 k, .int .i64 j] 3)).drew) := (Up.alloc _ _).trans (Up.drewN _ 1)
                  have hud : Up (w9.alloc (.cells #[.int .i64 k, .int .i64 j] 3)) ((w9.alloc (.cells #[.int .i64 k, .int .i64 j] 3)).drew) := Up.drewN _ 1
                  have HUA9 := Lib.hid hua
                  have HEQ : Hid (Calls Tryz.prog 18 #[.slice rr 2 rcc, .slice (some ⟨w9.heap.size, 0, none⟩) 2 2] ((w9.alloc (.cells #[.int .i64 k, .int .i64 j] 3)).drew) (EqPost ((w9.alloc (.cells #[.int .i64 k, .int .i64 j] 3)).drew) true)) :=
                    equal_yes Any Any _ _ _ [(k : Int), (j : Int)] [(k : Int), (j : Int)] (IntsAt.keep HBI.out (hua.kept _)) (IntsAt.keep (lit_ints w9 #[.int .i64 k, .int .i64 j] 3 [(k : Int), (j : Int)] rfl 2 rfl) (hud.kept _)) (show 2 ≤ 1000000 by decide) (show 2 ≤ 1000000 by decide) rfl
                  clear hua hud
                  have hup : Hid (Up w9 (w9.drewN 1)) := Up.drewN w9 1
                  go_region_held3 (fun w' => Hid (Up w9 w') ∧ w'.cell? ⟨bb, bo + N, none⟩ = some (.slice rr 2 rcc) ∧ w'.cell? ⟨wo.heap.size, 0, none⟩ = some (.int .i64 k)) (first | exact ⟨hup, hup.out.cell HBC.out, hup.out.cell HB13c.out⟩ | exact ⟨Up.refl _, HBC.out, HB13c.out⟩ | exact ⟨Up.alloc _ _, (Up.alloc _ _).cell HBC.out, (Up.alloc _ _).cell HB13c.out⟩ | exact ⟨HUA9.out, HUA9.out.cell HBC.out, HUA9.out.cell HB13c.out⟩) (first
                    | (go_at_call 18; refine HEQ.out.mono ?_; rintro e w10 ⟨rfl, n10, rfl⟩; have hup : Hid (Up w9 (World.drewN (w9.alloc (.cells #[.int .i64 k, .int .i64 j] 3)) (1 + n10))) := (Up.alloc _ _).trans (Up.drewN _ _)))
                  have HUP2 := Lib.hid (HUP.out.trans hup.out)
                  clear hup HEQ HUA9 d8 d9 d10
                  go_wp2_with fail
                  go_roundw
                  case rel => exact ⟨j + 1, Nat.le_succ_of_le HKJ.out, HJL.out, by go_num, by rw [HRT.out]; congr 1; have := HN.out; omega, HUP2.out⟩
                  case measure => have := HJL.out; simp [intOf]; omega
            · obtain rfl : j = l.length := by omega
              have HKL : Hid ((cfK l (k + 1)).length = (cfK l k).length + (cfRow l k l.length).length) := by unfold Hid; rw [HKS.out, List.length_append]
              go_wp2_with fail
              go_roundw
              case rel => exact ⟨k + 1, HLT.out, by go_num, by rw [HKL.out], HWq.out.up hUr.out, HUq.out.trans hUr.out⟩
              case measure => have := HLT.out; simp [intOf]; omega
    · obtain rfl : k = l.length := by omega
      have HW := Lib.hid hW.out
      have HUo := Lib.hid hUr.out
      have HGo := Lib.hid (HG4.out.keep (hUr.out.kept _))
      have hbl := HTE.out.cfL_eq
      have HCE : Hid ((cfK l l.length).length = (cfL l).length) := by unfold Hid; rw [hbl]
      have HER := Lib.hid HTE.out.err
      clear hk hlt hW hUr hbl
      rw [HCE.out]
      go_wp2_with fail
      refine (names35T_t _ xs.length (by omega)).mono ?_
      rintro e w5 ⟨hu5, nv, rfl, ho5⟩
      obtain ⟨np, nc, rfl, _⟩ := ho5.form (n := xs.length) (by rw [List.length_map, namesA_len])
      have HU5 := Lib.hid ((HU4.out.trans HUo.out).trans hu5)
      have HN5 : Hid (StrsAt Any w5 (.slice np xs.length nc) (namesA xs.length)) := (Owns.strs ho5).sub fun _ _ _ => trivial
      have HW5 := Lib.hid (HW.out.up hu5)
      have HG5 : Hid (GrpsAt Any w5 (.slice lp l.length lc) l) := (HGo.out.keep (hu5.kept _)).sub fun _ _ _ => trivial
      have HSH := Lib.hid (shTree_t Any w5 _ _ (namesA xs.length) l HN5.out HG5.out (by rw [HNL.out]; omega) nm35_small (by have := HLL.out; omega) HSM.out (fun h0 => by have := rawT_small (shErr_ok h0) (by rw [HNL.out]; omega); omega))
      have HB4S : Hid (w.heap.size ≤ w4.heap.size) := HU4.out.size
      clear hu5 ho5 HW HUo HGo HU4 HB4 HG4
      go_wp2_with fail
      refine HSH.out.mono ?_
      rintro e w6 ⟨hu6, tv, rfl, ht6⟩
      obtain ⟨P6, N6, rfl, hP6, hN6⟩ := ht6
      obtain ⟨p6, c6, rfl, -, -⟩ := SlAt.open hP6
      obtain ⟨n6, d6, rfl, -, -⟩ := SlAt.open hN6
      have e7 : (((cfL l).length : Int) != ((cfL l).length : Int)) = false := bne_self_eq_false _
      by_cases hc : cfL l = []
      · have h0 : shErr (namesA xs.length) l = 0 := by rw [HER.out, if_pos hc]
        obtain ⟨-, -, ho, hr0⟩ := HTE.out.tree h0
        obtain ⟨hs1, hs2⟩ := HTE.out.same h0
        rw [HNL.out] at hs1
        rw [hr0]
        have hl0 : (cfL l).length = 0 := by rw [hc]; rfl
        have hP6 : IntsAt Any w6 (.slice p6 (shTree (namesA xs.length) l).ps.length c6) (shTree (namesA xs.length) l).ps := hP6
        have hN6 : StrsAt Any w6 (.slice n6 (shTree (namesA xs.length) l).ns.length d6) (shTree (namesA xs.length) l).ns := hN6
        generalize shTree (namesA xs.length) l = T at *
        have hte := ho.te
        obtain ⟨-, hp64, hnl, -, -⟩ := treeErr_zero hte
        have HTS := Lib.hid (tree_small hte)
        have hal := Up.alloc w6 (.cells #[.slice p6 T.ps.length c6, .slice n6 T.ns.length d6] 45)
        have b0 := box2_0 w6 (.slice p6 T.ps.length c6) (.slice n6 T.ns.length d6) 45
        have b1 := box2_1 w6 (.slice p6 T.ps.length c6) (.slice n6 T.ns.length d6) 45
        have HT7 : Hid (TreeAt Any (w6.alloc (.cells #[.slice p6 T.ps.length c6, .slice n6 T.ns.length d6] 45)) (.agg #[.slice p6 T.ps.length c6, .slice n6 T.ns.length d6]) T) := TreeAt.keep ⟨_, _, rfl, hP6, hN6⟩ (hal.kept _)
        have HU7 := Lib.hid (HU5.out.trans (hu6.trans hal))
        have HW7 := Lib.hid (HW5.out.up (hu6.trans hal))
        have HSO := Lib.hid (splO_ok.2 ho)
        have HS1 := Lib.hid hs1
        have HS2 := Lib.hid hs2
        have HSZ : Hid (T.ps.length ≤ 64 ∧ T.ns.length = T.ps.length) := ⟨hp64, hnl⟩
        have e9 : (((0 : Nat) : Int) == 0) = true := rfl
        clear hP6 hN6 hu6 hal HSH HU5 HN5 HW5 HG5 h0 ho hr0 hs1 hs2 hc hte hp64 hnl e7
        rw [hl0]
        clear hl0
        go_wp2_with fail
        generalize w6.alloc (.cells #[.slice p6 T.ps.length c6, .slice n6 T.ns.length d6] 45) = w7 at *
        have HB0 := Lib.hid b0
        have HB1 := Lib.hid b1
        generalize w6.heap.size = tb at *
        clear b0 b1
        have HNAM : Hid (∀ W, Calls Tryz.prog 21 #[.int .i64 (xs.length : Int)] W (NmPost W xs.length)) := fun W => names35T_t W xs.length (by omega)
        have HOF : Hid (∀ W u, Up w7 W → StrsAt Any W u (namesA xs.length) → Calls Tryz.prog 22 #[.agg #[.slice p6 T.ps.length c6, .slice n6 T.ns.length d6], u] W fun e w' => Up W w' ∧ ∃ r, e = .returned (.tuple #[r, .int .i64 0]) ∧ ∃ f, SlAt (fun b => W.heap.size ≤ b) w' r (splO T (namesA xs.length)).length f ∧ ∀ k, k < (splO T (namesA xs.length)).length → IntsAt (TyI w') w' (f k) (gl (splO T (namesA xs.length)) k)) := fun W u hW hu => by
          have hh := splOfT_t Any W _ _ T (namesA xs.length) (HT7.out.keep (hW.kept _)) hu (by have := HSZ.out; omega) (by have := HSZ.out; omega) HTS.out (by rw [HNL.out]; omega)
          refine hh.mono ?_
          rintro e w' ⟨q1, r, rfl, q2⟩
          exact ⟨q1, r, by rw [HSO.out], q2⟩
        have HLL9 : Hid ((splO T (namesA xs.length)).length ≤ 64 ∧ ∀ k, (gl (splO T (namesA xs.length)) k).length ≤ 64) := ⟨by have := splO_len T (namesA xs.length); have := HSZ.out; omega, fun k => splO_row T (namesA xs.length) k⟩
        have hup : Hid (Up w7 (w7.drewN 1)) := Up.drewN w7 1
        go_region_held3 (fun w' => Hid (Up w7 w') ∧ w'.cell? ⟨tb, 0, none⟩ = some (.slice p6 T.ps.length c6) ∧ w'.cell? ⟨tb, 1, none⟩ = some (.slice n6 T.ns.length d6)) (first | exact ⟨hup, hup.out.cell HB0.out, hup.out.cell HB1.out⟩) (first
          | (go_at_call 21; refine (HNAM.out _).mono ?_; rintro e w8 ⟨hu8, nv, rfl, ho8⟩; obtain ⟨nq, nqc, rfl, _⟩ := ho8.form (n := xs.length) (by rw [List.length_map, namesA_len]); have HN8 : Hid (StrsAt Any w8 (.slice nq xs.length nqc) (namesA xs.length)) := (Owns.strs ho8).sub (fun _ _ _ => trivial); have hup : Hid (Up w7 w8) := hup.out.trans hu8; have HZ8 : Hid (w7.heap.size ≤ w8.heap.size) := hup.out.size; clear hu8 ho8)
          | (go_at_call 22; refine (HOF.out _ _ hup.out HN8.out).mono ?_; rintro e w9 ⟨hu9, ov, rfl, hr9⟩; have HR9 := Lib.hid hr9; have hup : Hid (Up w7 w9) := hup.out.trans hu9; clear hu9 hr9))
        have HUP := Lib.hid hup.out
        obtain ⟨f, hf1, hf2⟩ := HR9.out
        have hML : Hid ((wnK (xs.length : Int) l l.length).length ≤ 1000000 ∧ ∀ k, (gl (wnK (xs.length : Int) l l.length) k).length ≤ 1000000) := ⟨by have := wnK_len (xs.length : Int) l l.length; have := HLL.out; omega, fun k => by
          by_cases hk : k < (wnK (xs.length : Int) l l.length).length
          · obtain ⟨j, hj, e, _⟩ := mem_wnK.1 (gl_in hk)
            rw [← e]; exact HSM.out j
          · have : gl (wnK (xs.length : Int) l l.length) k = [] := by simp [gl, show (wnK (xs.length : Int) l l.length).length ≤ k by omega]
            rw [this]; exact Nat.zero_le _⟩
        have HEX : Hid (sortX (splO T (namesA xs.length)) = sortX (wnK (xs.length : Int) l l.length)) := by unfold Hid; rw [HS2.out, HS1.out]
        have HW9 := Lib.hid (HW7.out.up HUP.out)
        obtain ⟨cv, ho, hcv, -⟩ := HW7.out
        obtain ⟨wp, wc, rfl, -⟩ := ho.form (n := (wnK (xs.length : Int) l l.length).length) hcv
        have HLO : Hid (∀ g, (Value.slice wp (wnK (xs.length : Int) l l.length).length wc).ownBlock = some g → g < w8.heap.size) := fun g hg => by have := (ownBlock_lt ho hg).2; have := HZ8.out; omega
        have HCL := Lib.hid (te_clone w9 _ _ w8.heap.size hf1 hf2 (by have := HLL9.out.1; omega))
        obtain ⟨oq, oc, rfl, -, -⟩ := SlAt.open hf1
        have HUW : Hid (Up w w9) := HU7.out.trans HUP.out
        have H4 := HB4S
        clear hf1 hf2 ho hcv hup HR9 HW7 HUP HS1 HS2 HN8 HZ8 HNAM HOF HB0 HB1 HT7 HU7
        generalize splO T (namesA xs.length) = L at *
        generalize wnK (xs.length : Int) l l.length = M at *
        go_wp2_with fail
        refine HCL.out.mono ?_
        rintro e w10 ⟨hu10, cq, cc, ps, rfl, hR10, hm10, hS10⟩
        have HSO1 := Lib.hid (te_sort1 hu10 hR10 hm10 hS10 (by have := HLL9.out.1; omega) (fun k => Nat.le_trans (HLL9.out.2 k) (by decide)))
        clear hu10 hR10 hm10 hS10 HCL
        go_wp2_with fail
        refine HSO1.out.mono ?_
        rintro e w11 ⟨rfl, hu11, ps11, hm11, hR11, hS11⟩
        have HU11 := Lib.hid (HUW.out.trans hu11)
        have HSO2 := Lib.hid (te_sort2 hu11 hR11 hm11 hS11 HW9.out HLO.out hML.out.1 hML.out.2)
        clear hu11 hR11 hm11 hS11 HSO1
        go_wp2_with fail
        refine HSO2.out.mono ?_
        rintro e w12 ⟨rfl, hup12, hw12, hg12⟩
        have HU12 := Lib.hid (hup12 w H4.out HU11.out)
        have HEQ := Lib.hid (equalRowsTE_t Any Any w12 _ _ (sortX L) (sortX M) hg12 hw12 (by rw [(sortX_perm L).length_eq]; have := HLL9.out.1; omega) (by rw [(sortX_perm M).length_eq]; exact hML.out.1) (rows_perm_len (sortX_perm L) fun k => Nat.le_trans (HLL9.out.2 k) (by decide)) (rows_perm_len (sortX_perm M) hML.out.2))
        rw [decide_eq_true HEX.out] at HEQ
        clear hup12 hw12 hg12 HSO2 hML HLL9 HEX HW9 HLO
        go_wp2_with fail
        refine HEQ.out.mono ?_
        rintro e w13 ⟨rfl, q13, rfl⟩
        go_wp2_with fail
        refine (HAW.out _).mono ?_
        rintro e w' ⟨rfl, hu⟩
        go_wp2_with fail
        go_ret
        exact ⟨rfl, (HU12.out.trans (Up.drewN _ _)).trans hu⟩
      · have h17 : shErr (namesA xs.length) l = 17 := by rw [HER.out, if_neg hc]
        have hr17 : shRes (namesA xs.length) l = 17 := by unfold shRes; rw [h17, if_pos (by decide)]
        rw [hr17]
        have hl0 : (((cfL l).length : Int) == 0) = false := by
          have : (cfL l).length ≠ 0 := fun q => hc (List.eq_nil_of_length_eq_zero q)
          rw [beq_eq_false_iff_ne]; omega
        have HU7 := Lib.hid (HU5.out.trans (hu6.trans (Up.alloc w6 (.cells #[.slice p6 (shTree (namesA xs.length) l).ps.length c6, .slice n6 (shTree (namesA xs.length) l).ns.length d6] 45))))
        clear hP6 hN6 hu6 HSH HU5 HN5 HW5 HG5 h17 hr17 hc
        go_wp2_with (go_at_call 10; refine (HAW.out _).mono ?_; rintro e w' ⟨rfl, hu⟩)
        go_ret
        exact ⟨rfl, HU7.out.trans hu⟩
end Go.Proofs.YtpjijbophjdgaaaGreat
