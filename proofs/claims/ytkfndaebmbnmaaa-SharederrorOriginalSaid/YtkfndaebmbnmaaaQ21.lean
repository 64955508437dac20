/- The walk of SharederrorOriginal. -/
import Derived.Test.YtkfndaebmbnmaaaQ19
import Derived.Test.YtkfndaebmbnmaaaQ20
namespace Go.Proofs.Ytkfndaebmbnmaaa
open Go.RowKit Go.Deep
theorem own_none_of {xs : List (List Int)} {s u t : Nat} {g : Grp} (h : GrpIs xs (gl xs s) u t g) {i : Nat} (hi : (i : Int) ∈ g.src) : i ≠ s ∧ gl xs i ≠ gl xs s := by
  rw [h.src] at hi
  obtain ⟨j, e, _, h2⟩ := mem_srcK.1 hi
  have : i = j := by omega
  subst this
  refine ⟨fun e => ?_, fun e => ?_⟩
  · subst e; exact h.ne h2.symm
  · rw [e] at h2; exact h.ne h2.symm
set_option maxRecDepth 100000 in
set_option maxHeartbeats 8000000 in
theorem original_law (w : World) (v : Value) (xs : List (List Int)) (x : Int) (h : RowsAt Any w v xs) (hn : xs.length ≤ 9223372036854775807) (hr : ∀ k, (gl xs k).length ≤ 9223372036854775807) (hx0 : 0 ≤ x) (hx1 : x ≤ 255) :
    Calls Try.prog 6 #[v, .int .u8 x] w fun e w' => e = .returned (.bool true) ∧ Up w w' := by
  have HGT := Lib.hid (great30_t Any w v xs h hn hr)
  obtain ⟨p, cap, rfl, hcap, _⟩ := rows_open h
  have HAW := Lib.hid awake35_t
  cases hg : great30B xs
  · obtain ⟨hn2, hr2⟩ := great30_small hg
    have hr3 : ∀ k, (gl xs k).length ≤ 1000000 := fun k => by have := hr2 k; omega
    rw [hg] at HGT
    have HAC := Lib.hid (agcheck_t Any w _ xs h (by omega) hr3)
    clear hg hn hr hr2
    by_cases c2 : agErr xs = 0
    · have hlen : xs.length ≠ 0 := by
        intro h0; unfold agErr at c2; rw [if_pos h0] at c2; cases c2
      obtain ⟨n, rfl⟩ := Int.eq_ofNat_of_zero_le hx0
      have hs : n % xs.length < xs.length := Nat.mod_lt _ (by omega)
      obtain ⟨s, hse⟩ : ∃ s, s = n % xs.length := ⟨_, rfl⟩
      have hse2 : ((n : Int) % (xs.length : Int)) = (s : Int) := by rw [hse]; exact (Int.natCast_emod n xs.length).symm
      have hse3 : Int.tmod (n : Int) (xs.length : Int) = (s : Int) := by rw [Int.tmod_eq_emod_of_nonneg (by omega)]; exact hse2
      rw [← hse] at hs
      have ho0 : orErr xs (s : Int) = 0 := by unfold orErr; rw [if_neg (fun e => e c2), if_neg (by omega)]
      have hoN : orN xs (s : Int) = gl xs s := by unfold orN; rw [if_pos ho0, Int.toNat_natCast]
      have HOR := Lib.hid (original_t Any w _ xs s h (by omega) hr3)
      unfold OrPost at HOR
      rw [ho0, hoN] at HOR
      have hge : grErr xs (gl xs s) = 0 := by
        unfold grErr
        rw [if_neg (fun e => e c2), if_neg (fun e => e (agRow_len c2 hs)), if_neg (by rw [agRow_ok c2 hs]; decide)]
      have HGE := Lib.hid hge
      have HX := Lib.hid h
      have hrs := hr3 s
      have HR3 := Lib.hid hr3
      rw [c2] at HAC
      have hl0 : ((xs.length : Int) == 0) = false := by simpa using hlen
      have hl0n : (xs.length : Int) ≠ 0 := by omega
      have j1 : (0 : Int) ≤ (s : Int) := by omega
      have j2 : (s : Int) < (xs.length : Int) := by omega
      have HIS : Hid (∀ k, k < (groupsN xs (gl xs s)).length → ∃ u t, GrpIs xs (gl xs s) u t (gg (groupsN xs (gl xs s)) k)) := fun k hk => mem_unK (by
        have h1 := gg_mem hk
        have e1 : groupsN xs (gl xs s) = unK xs (gl xs s) (gl xs s).length := by unfold groupsN; rw [if_pos hge]
        rw [← e1]; exact h1)
      have hgl : (groupsN xs (gl xs s)).length ≤ 1000000 := by
        have e1 : groupsN xs (gl xs s) = unK xs (gl xs s) (gl xs s).length := by unfold groupsN; rw [if_pos hge]
        rw [e1]; have h1 := unK_len xs (gl xs s) (gl xs s).length
        have h2 := agRow_len c2 hs
        have h3 : (gl xs 0).length ≤ 4096 := by
          unfold agErr at c2
          split at c2
          · cases c2
          · split at c2
            · cases c2
            · omega
        omega
      have HNONE : Hid (∀ k i : Nat, k < (groupsN xs (gl xs s)).length → (i : Int) ∈ (gg (groupsN xs (gl xs s)) k).src → i ≠ s ∧ gl xs i ≠ gl xs s) := fun k i hk hi => by
        obtain ⟨u, t, hgi⟩ := HIS.out k hk
        exact own_none_of hgi hi
      have HSL : Hid (∀ k, k < (groupsN xs (gl xs s)).length → (gg (groupsN xs (gl xs s)) k).src.length ≤ 1000000) := fun k hk => by
        obtain ⟨u, t, hgi⟩ := HIS.out k hk
        rw [hgi.src]; have := srcK_len xs u t xs.length; omega
      have HLG : Hid (∀ W ov, Up w W → IntsAt Any W ov (gl xs s) → Calls Try.prog 13 #[.slice p xs.length cap, ov] W fun e w' => Up W w' ∧ ∃ v, e = .returned (.tuple #[v, .int .i64 0]) ∧ GrpsAt Any w' v (groupsN xs (gl xs s))) := fun W ov hu ho => by
        have h1 := groups_t Any W _ ov xs (gl xs s) (HX.out.keep (hu.kept _)) ho (by omega) hr3 hrs
        unfold GrPost at h1
        rw [HGE.out] at h1
        exact h1
      clear hse hse2 ho0 hoN hge h c2 HIS hr3 hlen
      generalize groupsN xs (gl xs s) = L at *
      go_enter Try.func6, Try.ntmps6
      go_wp2_with (first | (go_at_call 10; refine HGT.out.mono ?_; rintro e w' ⟨rfl, rfl⟩) | (go_at_call 11; refine HAC.out.mono ?_; rintro e w' ⟨rfl, rfl⟩) | fail)
      refine HOR.out.mono ?_
      rintro e w2 ⟨hu2, ov, rfl, ho2⟩
      obtain ⟨oq, oc, rfl, _, _⟩ := SlAt.open ho2
      have ho2 : IntsAt Any w2 (.slice oq (gl xs s).length oc) (gl xs s) := ho2
      have HG2 := Lib.hid (HLG.out w2 _ hu2 ho2)
      have HO2 := Lib.hid ho2
      have HU2 := Lib.hid hu2
      clear HLG HOR ho2 hu2
      go_wp2_with fail
      refine HG2.out.mono ?_
      rintro e w3 ⟨hu3, gv, rfl, hg3⟩
      obtain ⟨gq, gcp, rfl, _⟩ := grps_open hg3
      have HU3 := Lib.hid (HU2.out.trans hu3)
      have HO3 := Lib.hid (IntsAt.keep HO2.out (hu3.kept _))
      have HG3 := Lib.hid hg3
      obtain ⟨xb, xo, xq, xc, rfl, hxc, hxr⟩ := rows_get (HX.out.keep (HU3.out.kept _)) hs
      have HEQ := Lib.hid (equal_yes Any Any w3 _ _ _ _ HO3.out hxr hrs hrs rfl)
      clear hu3 hg3 HG2 HO2 HU2 hxr
      go_wp2_with (first | (go_at_call 23; refine HEQ.out.mono ?_; rintro e w4 ⟨rfl, n4, rfl⟩) | fail)
      have HU4 := Lib.hid (HU3.out.trans (Up.drewN w3 n4))
      have HO4 := Lib.hid (IntsAt.keep HO3.out ((Up.drewN w3 n4).kept _))
      have HG4 := Lib.hid (HG3.out.keep ((Up.drewN w3 n4).kept _))
      clear HU3 HO3 HG3 HEQ hxc
      generalize w3.drewN n4 = w4 at *
      go_loopw [11, 12, 13, 64] (fun _ _ _ i wr => ∃ k : Nat, k ≤ L.length ∧ i = .int .i64 k ∧ Hid (Up w4 wr)) (fun _ _ _ i _ => L.length - (intOf i).toNat)
      case atStart => exact ⟨0, Nat.zero_le _, rfl, Up.refl _⟩
      case round =>
        obtain ⟨k, hk, rfl, hU⟩ := hrel
        obtain ⟨wi, rfl⟩ : ∃ wi : World, wi = wr := ⟨_, rfl⟩
        by_cases hlt : k < L.length
        · obtain ⟨b, off, rq, rc, rfl, hc0, hc1, hc2, hri⟩ := grps_get (HG4.out.keep (hU.out.kept Any)) hlt
          have k1 : (0 : Int) ≤ (k : Int) := by omega
          have k2 : (k : Int) < (L.length : Int) := by omega
          have hal := Up.alloc wi (.cells #[.int .i64 (gg L k).un, .int .i64 (gg L k).st, .slice rq (gg L k).src.length rc] 32)
          obtain ⟨hb0, hb1, hb2⟩ := box3 wi (.int .i64 (gg L k).un) (.int .i64 (gg L k).st) (.slice rq (gg L k).src.length rc) 32
          have hsl := HSL.out k hlt
          have HB2 := Lib.hid hb2
          have HRI := Lib.hid (IntsAt.keep hri (hal.kept _))
          have HUA := Lib.hid (hU.out.trans hal)
          have HNK := Lib.hid (fun i => HNONE.out k i hlt)
          clear hri hal hU
          generalize (gg L k).un = un at *
          generalize (gg L k).st = sx at *
          generalize (gg L k).src = src at *
          go_wp2_with fail
          generalize wi.alloc (.cells #[.int .i64 un, .int .i64 sx, .slice rq src.length rc] 32) = w5 at *
          go_loopw [12, 13, 70] (fun _ _ i wr => ∃ m : Nat, m ≤ xs.length ∧ i = .int .i64 m ∧ Hid (Up w5 wr)) (fun _ _ i _ => xs.length - (intOf i).toNat)
          case atStart => exact ⟨0, Nat.zero_le _, rfl, Up.refl _⟩
          case round =>
            obtain ⟨m, hm, rfl, hV⟩ := hrel
            obtain ⟨wj, rfl⟩ : ∃ wj : World, wj = wr := ⟨_, rfl⟩
            have hb2 := hV.out.cell HB2.out
            by_cases hmt : m < xs.length
            · obtain ⟨mb, mo, mq, mc, e1, hmc, hmr⟩ := rows_get (HX.out.keep (((HU4.out.trans HUA.out).trans hV.out).kept _)) hmt
              injection e1 with e1
              injection e1 with e1 e2
              subst e1; subst e2
              have HCT := Lib.hid (contains_int_t Any wj _ src m (IntsAt.keep HRI.out (hV.out.kept _)) hsl)
              rw [any_memI] at HCT
              have HVV := Lib.hid hV.out
              have HEQ := Lib.hid (equal_int_t Any Any wj _ _ (gl xs m) (gl xs s) hmr (IntsAt.keep HO4.out ((HUA.out.trans hV.out).kept _)) (HR3.out m) hrs)
              have HNM := Lib.hid (HNK.out m)
              clear hmr hV
              by_cases hin : (m : Int) ∈ src
              · rw [decide_eq_true hin] at HCT
                obtain ⟨n1, n2⟩ := HNM.out hin
                rw [decide_eq_false n2] at HEQ
                have d1 : ((m : Int) == (s : Int)) = false := by simp; omega
                clear hin n1 n2
                go_wp2_with (first | (go_at_call 14; refine HCT.out.mono ?_; rintro e w' ⟨rfl, rfl⟩) | (go_at_call 23; refine HEQ.out.mono ?_; rintro e w9 ⟨rfl, n9, rfl⟩) | fail)
                go_roundw
                case rel => exact ⟨m + 1, by omega, by go_num, HVV.out.trans (Up.drewN _ _)⟩
                case measure => simp [intOf]; omega
              · rw [decide_eq_false hin] at HCT
                clear hin
                go_wp2_with (first | (go_at_call 14; refine HCT.out.mono ?_; rintro e w' ⟨rfl, rfl⟩) | fail)
                go_roundw
                case rel => exact ⟨m + 1, by omega, by go_num, HVV.out⟩
                case measure => simp [intOf]; omega
            · obtain rfl : m = xs.length := by omega
              have HVV := Lib.hid hV.out
              clear hmt hm hV
              go_wp2_with fail
              go_roundw
              case rel => exact ⟨k + 1, by omega, by go_num, HUA.out.trans HVV.out⟩
              case measure => simp [intOf]; omega
        · obtain rfl : k = L.length := by omega
          have HUA := Lib.hid hU.out
          have HGA := Lib.hid (HG4.out.keep (hU.out.kept Any))
          clear hlt hk hU
          go_wp2_with fail
          obtain ⟨w6, rfl⟩ : ∃ w6 : World, w6 = wi := ⟨_, rfl⟩
          go_loopw [14, 16, 93] (fun c _ i wr => ∃ k : Nat, k ≤ L.length ∧ i = .int .i64 k ∧ c = .int .i64 ((sigK L k).length : Nat) ∧ Hid (Up w6 wr)) (fun _ _ i _ => L.length - (intOf i).toNat)
          case atStart => exact ⟨0, Nat.zero_le _, rfl, rfl, Up.refl _⟩
          case round =>
            obtain ⟨k, hk, rfl, rfl, hU⟩ := hrel
            obtain ⟨wj, rfl⟩ : ∃ wj : World, wj = wr := ⟨_, rfl⟩
            by_cases hlt : k < L.length
            · obtain ⟨b, off, rq, rc, rfl, hc0, hc1, hc2, hri⟩ := grps_get (HGA.out.keep (hU.out.kept Any)) hlt
              have k1 : (0 : Int) ≤ (k : Int) := by omega
              have k2 : (k : Int) < (L.length : Int) := by omega
              have hal := Up.alloc wj (.cells #[.int .i64 (gg L k).un, .int .i64 (gg L k).st, .slice rq (gg L k).src.length rc] 32)
              obtain ⟨hb0, hb1, hb2⟩ := box3 wj (.int .i64 (gg L k).un) (.int .i64 (gg L k).st) (.slice rq (gg L k).src.length rc) 32
              have HUB := Lib.hid (hU.out.trans hal)
              have HST : Hid (sigK L (k + 1) = if 1 < (gg L k).src.length then sigK L k ++ [gg L k] else sigK L k) := rfl
              have hsk := sigK_len L k
              clear hri hal hU
              by_cases e1 : 1 < (gg L k).src.length
              · have d1 : decide ((1 : Int) < ((gg L k).src.length : Int)) = true := by simp; omega
                have d2 : decide (1 < (gg L k).src.length) = true := by simp; omega
                rw [if_pos e1] at HST
                clear e1
                go_wp2_with fail
                go_roundw
                case rel => exact ⟨k + 1, by omega, by go_num, by rw [HST.out, List.length_append]; go_num, HUB.out⟩
                case measure => simp [intOf]; omega
              · have d1 : decide ((1 : Int) < ((gg L k).src.length : Int)) = false := by simp; omega
                have d2 : decide (1 < (gg L k).src.length) = false := by simp; omega
                rw [if_neg e1] at HST
                clear e1
                go_wp2_with fail
                go_roundw
                case rel => exact ⟨k + 1, by omega, by go_num, by rw [HST.out], HUB.out⟩
                case measure => simp [intOf]; omega
            · obtain rfl : k = L.length := by omega
              have HSG := Lib.hid (significant_t Any wj _ L (HGA.out.keep (hU.out.kept Any)) hgl)
              have HUB := Lib.hid hU.out
              clear hlt hk hU
              go_wp2_with fail
              refine HSG.out.mono ?_
              rintro e w7 ⟨hu7, sv, rfl, hs7⟩
              obtain ⟨sq, sc, rfl, _⟩ := grps_open hs7
              have HU7 := Lib.hid ((HUB.out.trans hu7))
              clear hs7 hu7
              have d1 : (((sigK L L.length).length : Int) == ((sigK L L.length).length : Int)) = true := by simp
              go_wp2_with (first | (go_at_call 12; refine (HAW.out _).mono ?_; rintro e w8 ⟨rfl, hu8⟩) | fail)
              go_ret
              exact ⟨rfl, ((HU4.out.trans HUA.out).trans HU7.out).trans hu8⟩
    · have d2 : (agErr xs != 0) = true := by simpa using c2
      clear c2 h
      go_enter Try.func6, Try.ntmps6
      go_wp2_with (first | (go_at_call 10; refine HGT.out.mono ?_; rintro e w' ⟨rfl, rfl⟩) | (go_at_call 11; refine HAC.out.mono ?_; rintro e w' ⟨rfl, rfl⟩) | (go_at_call 12; refine (HAW.out _).mono ?_; rintro e w' ⟨rfl, hu⟩))
      go_ret
      exact ⟨rfl, hu⟩
  · rw [hg] at HGT
    clear hg h
    go_enter Try.func6, Try.ntmps6
    go_wp2_with (first | (go_at_call 10; refine HGT.out.mono ?_; rintro e w' ⟨rfl, rfl⟩) | (go_at_call 12; refine (HAW.out _).mono ?_; rintro e w' ⟨rfl, hu⟩))
    go_ret
    exact ⟨rfl, hu⟩
end Go.Proofs.Ytkfndaebmbnmaaa
