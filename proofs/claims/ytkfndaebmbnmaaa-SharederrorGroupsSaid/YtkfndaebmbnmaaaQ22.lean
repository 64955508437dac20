/- The contract of the reference's Groups. The walk of SharederrorGroups. -/
import Derived.Test.YtkfndaebmbnmaaaQ21
import Derived.Test.YtkfndaebmbnmaaaQ19
import Derived.Test.YtkfndaebmbnmaaaQ20
namespace Go.Proofs.Ytkfndaebmbnmaaa
open Go.RowKit Go.Deep
/-- The sources of the group under way; none for the original state. -/
def srcR (xs : List (List Int)) (u : Nat) (s f : Int) (k : Nat) : List Int := if s = f then [] else srcK xs u s k
theorem srcR_succ (xs : List (List Int)) (u : Nat) (s f : Int) (k : Nat) : srcR xs u s f (k + 1) = srcR xs u s f k ++ (if gi (gl xs k) u = s ∧ s ≠ f then [(k : Int)] else []) := by
  unfold srcR
  by_cases h : s = f
  · rw [if_pos h, if_pos h, if_neg (fun e => e.2 h)]; rfl
  · rw [if_neg h, if_neg h, srcK_succ]
    by_cases h2 : gi (gl xs k) u = s
    · rw [if_pos h2, if_pos ⟨h2, h⟩]
    · rw [if_neg h2, if_neg (fun e => h2 e.1)]
theorem srcR_zero (xs : List (List Int)) (u : Nat) (s f : Int) : srcR xs u s f 0 = [] := by unfold srcR; split <;> rfl
theorem srcR_len (xs : List (List Int)) (u : Nat) (s f : Int) (k : Nat) : (srcR xs u s f k).length ≤ k := by
  unfold srcR; split
  · exact Nat.zero_le _
  · exact srcK_len xs u s k
theorem grp1_R (xs : List (List Int)) (og : List Int) (u s : Nat) : grp1 xs og u s = if srcR xs u s (gi og u) xs.length ≠ [] then [⟨u, s, srcR xs u s (gi og u) xs.length⟩] else [] := by
  unfold grp1 srcR
  by_cases h : (s : Int) = gi og u
  · rw [if_neg (fun e => e.1 h), if_pos h, if_neg (fun e => e rfl)]
  · rw [if_neg h]
    by_cases h2 : srcK xs u s xs.length = []
    · rw [if_neg (fun e => e.2 h2), if_neg (fun e => e h2)]
    · rw [if_pos ⟨h, h2⟩, if_pos h2]
set_option maxRecDepth 100000 in
set_option maxHeartbeats 4000000 in
theorem groupsR_t (S : Nat → Prop) (w : World) (v vo : Value) (xs : List (List Int)) (og : List Int) (h : RowsAt S w v xs) (ho : IntsAt S w vo og) (hn : xs.length ≤ 1000000) (hr : ∀ k, (gl xs k).length ≤ 1000000) (hon : og.length ≤ 1000000) :
    Calls Try.prog 29 #[v, vo] w (GrPost w xs og) := by
  have HAC := Lib.hid (check30R_t S w v xs h hn hr)
  obtain ⟨p, cap, rfl, hcap, _⟩ := rows_open h
  obtain ⟨po, co, rfl, hco, _⟩ := SlAt.open ho
  have ho : IntsAt S w (.slice po og.length co) og := ho
  have H := Lib.hid h
  have HO := Lib.hid ho
  have HGE : Hid (grErr xs og = if agErr xs ≠ 0 then agErr xs else if og.length ≠ plN xs then 9 else if stBad og (-1) 16 then 2 else 0) := rfl
  have HGN : Hid (groupsN xs og = if grErr xs og = 0 then unK xs og og.length else []) := rfl
  have HNIL : Hid (∀ W, GrpsAt Any W (.slice none 0 0) []) := fun _ => ⟨none, 0, rfl, Nat.le_refl _, .inl rfl⟩
  clear h ho
  by_cases ha : agErr xs = 0
  · have hx0 : 0 < xs.length := by
      by_cases h0 : xs.length = 0
      · unfold agErr at ha; rw [if_pos h0] at ha; cases ha
      · omega
    obtain ⟨b, off, q0, c0, rfl, hc0, _⟩ := rows_get H.out hx0
    have hc00 : w.cell? ⟨b, off, none⟩ = some (.slice q0 (gl xs 0).length c0) := by simpa using hc0
    have HC00 := Lib.hid hc00
    have hl0 := hr 0
    have hpl : (gl xs 0).length ≤ 4096 := by
      unfold agErr at ha
      split at ha
      · cases ha
      · split at ha
        · cases ha
        · omega
    have hxp : decide ((0 : Int) < (xs.length : Int)) = true := by simpa using hx0
    rw [ha] at HAC
    clear hc0
    by_cases hl : og.length = (gl xs 0).length
    · have hl1 : ((og.length : Int) != ((gl xs 0).length : Int)) = false := by simp [hl]
      have HST : Hid (stBad og (-1) 16 = (List.range og.length).any fun j => decide (gi og j < -1) || decide (16 ≤ gi og j)) := rfl
      have HG2 : Hid (stBad og (-1) 16 = true → grErr xs og = 2) := fun hb => by rw [HGE.out, if_neg (fun e => e ha), if_neg (fun e => e hl), if_pos hb]
      have HG0 : Hid (stBad og (-1) 16 = false → grErr xs og = 0) := fun hb => by rw [HGE.out, if_neg (fun e => e ha), if_neg (fun e => e (by unfold plN; exact hl)), if_neg (by rw [hb]; decide)]
      have HRW : Hid (∀ k, k < xs.length → (gl xs k).length = og.length) := fun k hk => (agRow_len ha hk).trans hl.symm
      have HLL := Lib.hid hl
      have hog4 : og.length ≤ 4096 := by omega
      clear hl ha
      go_enter Try.func29, Try.ntmps29
      go_wp2_with fail
      refine HAC.out.mono ?_
      rintro e w1 ⟨rfl, hq1⟩
      have hc01 := hq1.up.cell HC00.out
      have HU1 := Lib.hid hq1.up
      have HO1 := Lib.hid (IntsAt.keep HO.out (hq1.kept S))
      have HX1 := Lib.hid (H.out.keep (hq1.kept S))
      clear hq1 hc00
      go_wp2_with fail
      go_loop [8] (fun i => ∃ k : Nat, k ≤ og.length ∧ i = .int .i64 k ∧ Hid (∀ j, j < k → (decide (gi og j < -1) || decide (16 ≤ gi og j)) = false)) (fun i => og.length - (intOf i).toNat)
      case atStart => exact ⟨0, Nat.zero_le _, rfl, fun j hj => absurd hj (Nat.not_lt_zero _)⟩
      case round =>
        obtain ⟨k, hk, rfl, hd⟩ := hrel
        by_cases hlt : k < og.length
        · obtain ⟨ob, oo, rfl, hoc⟩ := ints_get HO1.out hlt
          have i1 : (0 : Int) ≤ (k : Int) := by omega
          have i2 : (k : Int) < (og.length : Int) := by omega
          have HBAD : Hid ((decide (gi og k < -1) || decide (16 ≤ gi og k)) = true → grErr xs og = 2) := fun hb => HG2.out (by rw [HST.out]; exact any_at (p := fun j => decide (gi og j < -1) || decide (16 ≤ gi og j)) hlt hb)
          generalize hgy : gi og k = y at *
          have HGY := Lib.hid hgy
          clear hgy
          by_cases c1 : y < -1
          · have e1 : decide (y < -1) = true := by simpa using c1
            have HX : Hid (grErr xs og = 2) := HBAD.out (by rw [e1]; rfl)
            clear c1
            go_wp2_with fail
            go_ret2
            exact ⟨HU1.out, _, by rw [HX.out]; rfl, by rw [HGN.out, HX.out]; exact HNIL.out _⟩
          · have e1 : decide (y < -1) = false := by simpa using c1
            by_cases c2 : 16 ≤ y
            · have e2 : decide (16 ≤ y) = true := by simpa using c2
              have HX : Hid (grErr xs og = 2) := HBAD.out (by rw [e2, Bool.or_true])
              clear c1 c2
              go_wp2_with fail
              go_ret2
              exact ⟨HU1.out, _, by rw [HX.out]; rfl, by rw [HGN.out, HX.out]; exact HNIL.out _⟩
            · have e2 : decide (16 ≤ y) = false := by simpa using c2
              have HY : Hid ((decide (gi og k < -1) || decide (16 ≤ gi og k)) = false) := by unfold Hid; rw [HGY.out, e1, e2]; rfl
              clear c1 c2
              go_wp2_with fail
              go_round
              case rel => exact ⟨k + 1, by omega, by go_num, fun j hj => if e : j = k then by subst e; exact HY.out else hd.out j (by omega)⟩
              case measure => simp [intOf]; omega
        · obtain rfl : k = og.length := by omega
          have HG : Hid (grErr xs og = 0) := HG0.out (by rw [HST.out]; exact any_none hd.out)
          have HLL2 := HLL.out
          rw [← HLL2] at *
          clear hlt hk hd HLL2
          go_wp2_with fail
          go_loopw [9, 10, 11, 12, 13] (fun d i _ _ _ wr => ∃ k : Nat, k ≤ og.length ∧ i = .int .i64 k ∧ Hid (GrpsOwn w1.heap.size 32 wr d (unK xs og k)) ∧ Hid (Up w1 wr)) (fun _ i _ _ _ _ => og.length - (intOf i).toNat)
          case atStart => exact ⟨0, Nat.zero_le _, rfl, GrpsOwn.nil _ _ _, Up.refl _⟩
          case round =>
            obtain ⟨k, hk, rfl, hD, hU⟩ := hrel
            obtain ⟨wo, rfl⟩ : ∃ wo : World, wo = wr := ⟨_, rfl⟩
            obtain ⟨d0, rfl⟩ : ∃ d : Value, d = u9 := ⟨_, rfl⟩
            by_cases hlt : k < og.length
            · obtain ⟨ob, oo, rfl, hoc⟩ := ints_get HO1.out hlt
              have HOC := Lib.hid hoc
              have i1 : (0 : Int) ≤ (k : Int) := by omega
              have i2 : (k : Int) < (og.length : Int) := by omega
              have HUN := Lib.hid (unK_succ xs og k)
              have HUG : Hid (unG xs og k = if gi og k < 0 then [] else stK xs og k 16) := rfl
              have HUS := Lib.hid (stK_succ xs og k)
              have HG1 := Lib.hid (grp1_R xs og k)
              have hD0 : GrpsOwn w1.heap.size 32 wo d0 (unK xs og k ++ stK xs og k 0) := by rw [show stK xs og k 0 = [] from rfl, List.append_nil]; exact hD.out
              have HD0 := Lib.hid hD0
              clear hD hD0 hoc
              generalize gi og k = f at *
              go_wp2_with fail
              go_loopw [9, 11, 12, 13] (fun d i _ _ wr => ∃ s : Nat, s ≤ 16 ∧ i = .int .i64 s ∧ (f < 0 → s = 0) ∧ Hid (GrpsOwn w1.heap.size 32 wr d (unK xs og k ++ stK xs og k s)) ∧ Hid (Up w1 wr)) (fun _ i _ _ _ => 16 - (intOf i).toNat)
              case atStart => exact ⟨0, by omega, rfl, fun _ => rfl, HD0, hU⟩
              case round =>
                obtain ⟨s, hs, rfl, hf0, hD, hUr2⟩ := hrel
                obtain ⟨wi, rfl⟩ : ∃ wo : World, wo = wr := ⟨_, rfl⟩
                obtain ⟨d2, rfl⟩ : ∃ d : Value, d = u9 := ⟨_, rfl⟩
                have hoc := hUr2.out.cell HOC.out
                by_cases f0 : f < 0
                · obtain rfl := hf0 f0
                  have e0 : decide ((0 : Int) ≤ f) = false := by simp; omega
                  have HDE : Hid (GrpsOwn w1.heap.size 32 wi d2 (unK xs og (k + 1))) := by
                    have h1 := hD.out
                    rw [show stK xs og k 0 = [] from rfl, List.append_nil] at h1
                    unfold Hid; rw [HUN.out, HUG.out, if_pos f0, List.append_nil]; exact h1
                  clear f0
                  go_wp2_with fail
                  go_roundw
                  case rel => exact ⟨k + 1, by omega, by go_num, HDE, hUr2⟩
                  case measure => simp [intOf]; omega
                · have e0 : decide ((0 : Int) ≤ f) = true := by simp; omega
                  by_cases hs16 : s < 16
                  · have e1 : decide ((s : Int) < 16) = true := by simp; omega
                    clear f0
                    go_wp2_with fail
                    go_loopw [13] (fun i wr => ∃ m : Nat, m ≤ xs.length ∧ i = .int .i64 m ∧ Hid (GrW wi wr k s (srcR xs k s f m))) (fun i _ => xs.length - (intOf i).toNat)
                    case atStart => exact ⟨0, Nat.zero_le _, rfl, Up.alloc _ _, _, World.alloc_heap_new _ _, by rw [srcR_zero]; exact Owns.nil _ _ _, by simp⟩
                    case round =>
                      obtain ⟨m, hm, rfl, hW⟩ := hrel
                      obtain ⟨wq, rfl⟩ : ∃ wo : World, wo = wr := ⟨_, rfl⟩
                      have hu3 := hW.out.1
                      have hocq := hu3.cell hoc
                      by_cases hmt : m < xs.length
                      · obtain ⟨b', off', rq, rc, e1', hcr, hir⟩ := rows_get (HX1.out.keep ((hUr2.out.trans hu3).kept S)) hmt
                        injection e1' with e1'
                        injection e1' with e1' e2'
                        subst e1'; subst e2'
                        rw [HRW.out m hmt] at hcr hir
                        obtain ⟨rb, ro, rfl, hcx⟩ := ints_get hir (k := k) (by rw [HRW.out m hmt]; exact hlt)
                        have m1 : (0 : Int) ≤ (m : Int) := by omega
                        have m2 : (m : Int) < (xs.length : Int) := by omega
                        have HSR := Lib.hid (srcR_succ xs k s f m)
                        clear hir
                        generalize gi (gl xs m) k = x at *
                        by_cases hxs : x = s
                        · have hx1 : (x == (s : Int)) = true := by simpa using hxs
                          by_cases hsf : (s : Int) = f
                          · have hs1 : ((s : Int) != f) = false := by simp [hsf]
                            have HW1 : Hid (GrW wi wq k s (srcR xs k s f (m + 1))) := by unfold Hid; rw [HSR.out, if_neg (fun e => e.2 hsf), List.append_nil]; exact hW.out
                            clear hxs hsf
                            go_wp2_with fail
                            go_roundw
                            case rel => exact ⟨m + 1, by omega, by go_num, HW1⟩
                            case measure => simp [intOf]; omega
                          · have hs1 : ((s : Int) != f) = true := by simpa using hsf
                            obtain ⟨sv, hg0, hg1, hg2, hso, hsz3⟩ := hW.out.cells
                            have HSO := Lib.hid hso
                            have HLN : Hid (((srcR xs k s f m).map (Value.int .i64)).length = (srcR xs k s f m).length) := List.length_map _
                            have HLE : (srcR xs k s f m).length ≤ 1000000 := by have := srcR_len xs k s f m; omega
                            have HSE : Hid (srcR xs k s f (m + 1) = srcR xs k s f m ++ [(m : Int)]) := by unfold Hid; rw [HSR.out, if_pos ⟨hxs, hsf⟩]
                            have HAPP := Lib.hid (fun (w8 : World) (v : Value) => hW.out.app (w8 := w8) (x := (m : Int)) (v := v))
                            clear hg0 hg1 hso hxs hsf
                            go_wp2_with (at_builtin; refine wpList_appN wq rfl _ _ 23 rfl (wi.heap.size + 1) 3 _ 8 Try.underlying23 Try.infoI rfl (by decide) HSO.out rfl _ rfl rfl _ HLN.out HLE hsz3 ?_; intro g8 cap8 w8 hown1 hgr1 hbe1; obtain ⟨⟨c8, hc8⟩, hf8, hW8⟩ := HAPP.out w8 _ hown1 hbe1; have HW8 := Lib.hid hW8; clear hW8 hown1 hgr1 hbe1)
                            go_roundw
                            case rel => exact ⟨m + 1, by omega, by go_num, by unfold Hid; rw [HSE.out]; exact HW8.out⟩
                            case measure => simp [intOf]; omega
                        · have hx1 : (x == (s : Int)) = false := by simpa using hxs
                          have HW1 : Hid (GrW wi wq k s (srcR xs k s f (m + 1))) := by unfold Hid; rw [HSR.out, if_neg (fun e => hxs e.1), List.append_nil]; exact hW.out
                          clear hxs
                          go_wp2_with fail
                          go_roundw
                          case rel => exact ⟨m + 1, by omega, by go_num, HW1⟩
                          case measure => simp [intOf]; omega
                      · obtain rfl : m = xs.length := by omega
                        obtain ⟨sv, hg0, hg1, hg2, hso, hsz3⟩ := hW.out.cells
                        obtain ⟨sp, sc, rfl, hsc⟩ := hso.form (n := (srcR xs k s f xs.length).length) (by simp)
                        have hsl : (srcR xs k s f xs.length).length ≤ 1000000 := by have := srcR_len xs k s f xs.length; omega
                        have HU3 := Lib.hid (hUr2.out.trans hu3)
                        have HD3 := Lib.hid (hD.out.kept hu3)
                        have HIN : Hid (IntsAt (fun b => some b ≠ d2.ownBlock) wq (.slice sp (srcR xs k s f xs.length).length sc) (srcR xs k s f xs.length)) := hso.ints.sub fun b hb _ e => by
                          have := (hD.out.lt e.symm).2; omega
                        have HLE : (unK xs og k ++ stK xs og k s).length ≤ 1000000 := by
                          rw [List.length_append]
                          have h1 := unK_len xs og k; have h2 := stK_len xs og k s; omega
                        have HWZ : w1.heap.size ≤ wq.heap.size := HU3.out.size
                        have HGS := Lib.hid (HG1.out s)
                        have HUSS : Hid (unK xs og k ++ stK xs og k (s + 1) = (unK xs og k ++ stK xs og k s) ++ grp1 xs og k s) := by unfold Hid; rw [HUS.out s, List.append_assoc]
                        have HE0 : Hid ((srcR xs k s f xs.length).length = 0 ↔ srcR xs k s f xs.length = []) := List.length_eq_zero_iff
                        clear hmt hm hsc hso
                        generalize (srcR xs k s f xs.length).length = sl at *
                        generalize unK xs og k ++ stK xs og k s = L0 at *
                        by_cases hs0 : sl = 0
                        · have hs2 : decide ((0 : Int) < (sl : Int)) = false := by simp [hs0]
                          have hs3 : decide (0 < sl) = false := by simp [hs0]
                          have HDN : Hid (GrpsOwn w1.heap.size 32 wq d2 (unK xs og k ++ stK xs og k (s + 1))) := by unfold Hid; rw [HUSS.out, HGS.out, if_neg (fun e => e (HE0.out.1 hs0)), List.append_nil]; exact HD3.out
                          clear hs0
                          go_wp2_with fail
                          go_roundw
                          case rel => exact ⟨s + 1, by omega, by go_num, fun h => absurd e0 (by simp; omega), HDN, HU3⟩
                          case measure => simp [intOf]; omega
                        · have hs2 : decide ((0 : Int) < (sl : Int)) = true := by simp; omega
                          have hs3 : decide (0 < sl) = true := by simp; omega
                          have HSE : Hid (unK xs og k ++ stK xs og k (s + 1) = L0 ++ [⟨k, s, srcR xs k s f xs.length⟩]) := by unfold Hid; rw [HUSS.out, HGS.out, if_pos (fun e => hs0 (HE0.out.2 e))]
                          clear hs0
                          go_wp2_with (at_builtin; refine wpList_appGrp wq rfl _ _ 28 rfl w1.heap.size 32 _ 40 Try.underlying28 Try.infoEG rfl (by decide) HD3.out rfl ⟨k, s, srcR xs k s f xs.length⟩ (.slice sp sl sc) rfl HIN.out rfl _ rfl HLE HWZ ?_; intro g8 cap8 w8 hown1 hgr1 hbe1)
                          go_roundw
                          case rel => exact ⟨s + 1, by omega, by go_num, fun h => absurd e0 (by simp; omega), by unfold Hid; rw [HSE.out]; exact hown1, Below.trans HU3.out hbe1⟩
                          case measure => simp [intOf]; omega
                  · obtain rfl : s = 16 := by omega
                    have HDE : Hid (GrpsOwn w1.heap.size 32 wi d2 (unK xs og (k + 1))) := by unfold Hid; rw [HUN.out, HUG.out, if_neg f0]; exact hD.out
                    clear f0
                    go_wp2_with fail
                    go_roundw
                    case rel => exact ⟨k + 1, by omega, by go_num, HDE, hUr2⟩
                    case measure => simp [intOf]; omega
            · obtain rfl : k = og.length := by omega
              clear hlt hk
              go_wp2_with fail
              go_ret2
              exact ⟨HU1.out.trans hU.out, d0, by rw [HG.out]; rfl, by rw [HGN.out, if_pos HG.out]; exact hD.out.grps⟩
    · have hl1 : ((og.length : Int) != ((gl xs 0).length : Int)) = true := by simp; omega
      have HG : Hid (grErr xs og = 9) := by unfold Hid; rw [HGE.out, if_neg (fun e => e ha), if_pos (by unfold plN; exact hl)]
      clear hl
      go_enter Try.func29, Try.ntmps29
      go_wp2_with fail
      refine HAC.out.mono ?_
      rintro e w1 ⟨rfl, hq1⟩
      have hc01 := hq1.up.cell HC00.out
      go_wp2_with fail
      go_ret2
      exact ⟨hq1.up, _, by rw [HG.out]; rfl, by rw [HGN.out, HG.out]; exact HNIL.out _⟩
  · have HG : Hid (grErr xs og = agErr xs) := by unfold Hid; rw [HGE.out, if_pos ha]
    have HA := Lib.hid ha
    have ha1 : (agErr xs != 0) = true := by simpa using ha
    clear ha
    go_enter Try.func29, Try.ntmps29
    go_wp2_with fail
    refine HAC.out.mono ?_
    rintro e w' ⟨rfl, hq1⟩
    go_wp2_with fail
    go_ret2
    exact ⟨hq1.up, _, by rw [HG.out]; rfl, by rw [HGN.out, HG.out, if_neg HA.out]; exact HNIL.out _⟩
end Go.Proofs.Ytkfndaebmbnmaaa
namespace Go.Proofs.Ytkfndaebmbnmaaa
open Go.RowKit Go.Deep
theorem gg_all {l : List Grp} {Q : Grp → Prop} (h : ∀ g ∈ l, Q g) (h0 : Q ⟨0, 0, []⟩) (k : Nat) : Q (gg l k) := get_small h h0 k
theorem groups_src_len (xs : List (List Int)) (og : List Int) (k : Nat) : (gg (groupsN xs og) k).src.length ≤ xs.length := by
  refine gg_all (Q := fun g => g.src.length ≤ xs.length) (fun g hg => ?_) (Nat.zero_le _) k
  unfold groupsN at hg
  split at hg
  · obtain ⟨u, t, h⟩ := mem_unK hg
    rw [h.src]; exact srcK_len xs u t xs.length
  · cases hg
theorem groups_len (xs : List (List Int)) (og : List Int) : (groupsN xs og).length ≤ og.length * 16 := by
  unfold groupsN
  split
  · exact unK_len xs og og.length
  · exact Nat.zero_le _
theorem mem_sigK {l : List Grp} {g : Grp} : ∀ {k : Nat}, k ≤ l.length → g ∈ sigK l k → g ∈ l
  | 0, _, h => by cases h
  | k + 1, hk, h => by
    unfold sigK at h
    split at h
    · rcases List.mem_append.1 h with h | h
      · exact mem_sigK (by omega) h
      · obtain rfl : g = gg l k := by simpa using h
        exact gg_mem (by omega)
    · exact mem_sigK (by omega) h
set_option maxRecDepth 100000 in
set_option maxHeartbeats 8000000 in
theorem groups_law (w : World) (v vo vl vs : Value) (xs : List (List Int)) (og : List Int) (l : List Grp) (own : List Int) (x : Int) (h : RowsAt Any w v xs) (ho : IntsAt Any w vo og) (hl : GrpsAt Any w vl l) (hs : IntsAt Any w vs own)
    (hn : xs.length ≤ 9223372036854775807) (hr : ∀ k, (gl xs k).length ≤ 9223372036854775807) (hon : og.length ≤ 9223372036854775807) (hln : l.length ≤ 9223372036854775807) (hlr : ∀ k, (gg l k).src.length ≤ 9223372036854775807) (hsn : own.length ≤ 9223372036854775807) :
    Calls Try.prog 7 #[v, vo, vl, vs, .int .i64 x] w fun e w' => e = .returned (.bool true) ∧ Up w w' := by
  have HGT := Lib.hid (great30_t Any w v xs h hn hr)
  have HGL := Lib.hid (great35_t Any w vl l hl hln hlr)
  obtain ⟨p, cap, rfl, hcap, _⟩ := rows_open h
  obtain ⟨po, co, rfl, _, _⟩ := SlAt.open ho
  have ho : IntsAt Any w (.slice po og.length co) og := ho
  obtain ⟨lp, lc, rfl, hlc⟩ := grps_open hl
  obtain ⟨sp, sc, rfl, _, _⟩ := SlAt.open hs
  have hs : IntsAt Any w (.slice sp own.length sc) own := hs
  have HAW := Lib.hid awake35_t
  have HX := Lib.hid h
  have HO := Lib.hid ho
  have HL := Lib.hid hl
  have HS := Lib.hid hs
  clear h ho hl hs
  cases hg : great30B xs
  · obtain ⟨hn2, hr2⟩ := great30_small hg
    have hr3 : ∀ k, (gl xs k).length ≤ 1000000 := fun k => by have := hr2 k; omega
    rw [hg] at HGT
    clear hg hn hr hr2
    by_cases c1 : 20 < og.length
    · have d1 : decide ((20 : Int) < (og.length : Int)) = true := by simp; omega
      clear c1
      go_enter Try.func7, Try.ntmps7
      go_wp2_with (first | (go_at_call 10; refine HGT.out.mono ?_; rintro e w' ⟨rfl, rfl⟩) | (go_at_call 12; refine (HAW.out _).mono ?_; rintro e w' ⟨rfl, hu⟩))
      go_ret
      exact ⟨rfl, hu⟩
    · have d1 : decide ((20 : Int) < (og.length : Int)) = false := by simp; omega
      cases hg2 : gr35B l
      · obtain ⟨hl2, hlr2⟩ := gr35_small hg2
        rw [hg2] at HGL
        clear hg2
        by_cases c2 : 36 < own.length
        · have d2 : decide ((36 : Int) < (own.length : Int)) = true := by simp; omega
          clear c1 c2
          go_enter Try.func7, Try.ntmps7
          go_wp2_with (first | (go_at_call 10; refine HGT.out.mono ?_; rintro e w' ⟨rfl, rfl⟩) | (go_at_call 28; refine HGL.out.mono ?_; rintro e w' ⟨rfl, rfl⟩) | (go_at_call 12; refine (HAW.out _).mono ?_; rintro e w' ⟨rfl, hu⟩))
          go_ret
          exact ⟨rfl, hu⟩
        · have d2 : decide ((36 : Int) < (own.length : Int)) = false := by simp; omega
          have hogl : og.length ≤ 1000000 := by omega
          have hll : l.length ≤ 1000000 := by omega
          have hlr3 : ∀ k, (gg l k).src.length ≤ 1000000 := fun k => by have := hlr2 k; omega
          have hownl : own.length ≤ 1000000 := by omega
          have hxl : xs.length ≤ 1000000 := by omega
          have hgl : (groupsN xs og).length ≤ 1000000 := by have := groups_len xs og; omega
          have HGS : Hid (∀ k, (gg (groupsN xs og) k).src.length ≤ 1000000) := fun k => by have := groups_src_len xs og k; omega
          have hsl : (sigK l l.length).length ≤ 1000000 := by have := sigK_len l l.length; omega
          have HSS : Hid (∀ k, (gg (sigK l l.length) k).src.length ≤ 1000000) := fun k => gg_all (Q := fun g => g.src.length ≤ 1000000) (fun g hg => by
            have h1 := mem_sigK (Nat.le_refl _) hg
            obtain ⟨j, hj, e⟩ := List.getElem_of_mem h1
            have := hlr3 j
            have e2 : gg l j = g := by simp [gg, hj, e]
            rw [e2] at this; exact this) (Nat.zero_le _) k
          have hool : (orN xs x).length ≤ 1000000 := by
            unfold orN; split
            · exact hr3 _
            · exact Nat.zero_le _
          have HA1 := Lib.hid (fun W (hu : Up w W) => groups_t Any W _ _ xs og (HX.out.keep (hu.kept _)) (IntsAt.keep HO.out (hu.kept _)) hxl hr3 hogl)
          have HA2 := Lib.hid (fun W (hu : Up w W) => groupsR_t Any W _ _ xs og (HX.out.keep (hu.kept _)) (IntsAt.keep HO.out (hu.kept _)) hxl hr3 hogl)
          have HB1 := Lib.hid (fun W (hu : Up w W) => support_t Any Any W _ _ l own (HL.out.keep (hu.kept _)) (IntsAt.keep HS.out (hu.kept _)) hll hlr3 hownl)
          have HB2 := Lib.hid (fun W (hu : Up w W) => supportR_t Any Any W _ _ l own (HL.out.keep (hu.kept _)) (IntsAt.keep HS.out (hu.kept _)) hll hlr3 hownl)
          have HC1 := Lib.hid (fun W (hu : Up w W) => original_t Any W _ xs x (HX.out.keep (hu.kept _)) hxl hr3)
          have HC2 := Lib.hid (fun W (hu : Up w W) => originalR_t Any W _ xs x (HX.out.keep (hu.kept _)) hxl hr3)
          have HD1 := Lib.hid (fun W (hu : Up w W) => significant_t Any W _ l (HL.out.keep (hu.kept _)) hll)
          have HD2 := Lib.hid (fun W (hu : Up w W) => significantR_t Any W _ l (HL.out.keep (hu.kept _)) hll)
          clear c1 c2 hr3 hlr2 hlr hlr3 hln hsn hon
          unfold GrPost at HA1 HA2
          unfold OrPost at HC1 HC2
          unfold SgPost at HD1 HD2
          generalize groupsN xs og = G at *
          generalize grErr xs og = ge at *
          generalize supN l own = sn at *
          generalize supErr l own = se at *
          generalize orErr xs x = oe at *
          generalize orN xs x = on at *
          generalize sigK l l.length = sg at *
          have d3 : (ge == ge) = true := by simp
          have d4 : (sn == sn) = true := by simp
          have d5 : (se == se) = true := by simp
          have d6 : (oe == oe) = true := by simp
          go_enter Try.func7, Try.ntmps7
          go_wp2_with (first | (go_at_call 10; refine HGT.out.mono ?_; rintro e w' ⟨rfl, rfl⟩) | (go_at_call 28; refine HGL.out.mono ?_; rintro e w' ⟨rfl, rfl⟩) | fail)
          refine (HA1.out w (Up.refl _)).mono ?_
          rintro e w1 ⟨hu1, av, rfl, ha1⟩
          obtain ⟨aq, ac, rfl, _⟩ := grps_open ha1
          have HU1 := Lib.hid hu1
          have HAA := Lib.hid ha1
          have HK := Lib.hid (HA2.out w1 hu1)
          clear hu1 ha1
          go_wp2_with fail
          refine HK.out.mono ?_
          rintro e w2 ⟨hu2, bv, rfl, hb2⟩
          obtain ⟨bq, bc, rfl, _⟩ := grps_open hb2
          have HU2 := Lib.hid (HU1.out.trans hu2)
          have HAA2 := Lib.hid (HAA.out.keep (hu2.kept _))
          have HBB := Lib.hid hb2
          have HK := Lib.hid (HB1.out w2 HU2.out)
          clear hu2 hb2 HU1 HAA
          go_wp2_with fail
          refine HK.out.mono ?_
          rintro e w3 ⟨hu3, rfl⟩
          have HU3 := Lib.hid (HU2.out.trans hu3)
          have HAA3 := Lib.hid (HAA2.out.keep (hu3.kept _))
          have HBB3 := Lib.hid (HBB.out.keep (hu3.kept _))
          have HK := Lib.hid (HB2.out w3 HU3.out)
          clear hu3 HU2 HAA2 HBB
          go_wp2_with fail
          refine HK.out.mono ?_
          rintro e w4 ⟨hu4, rfl⟩
          have HU4 := Lib.hid (HU3.out.trans hu4)
          have HAA4 := Lib.hid (HAA3.out.keep (hu4.kept _))
          have HBB4 := Lib.hid (HBB3.out.keep (hu4.kept _))
          have HK := Lib.hid (HC1.out w4 HU4.out)
          clear hu4 HU3 HAA3 HBB3
          go_wp2_with fail
          refine HK.out.mono ?_
          rintro e w5 ⟨hu5, xv, rfl, hx5⟩
          obtain ⟨xq, xc, rfl, _, _⟩ := SlAt.open hx5
          have hx5 : IntsAt Any w5 (.slice xq on.length xc) on := hx5
          have HU5 := Lib.hid (HU4.out.trans hu5)
          have HAA5 := Lib.hid (HAA4.out.keep (hu5.kept _))
          have HBB5 := Lib.hid (HBB4.out.keep (hu5.kept _))
          have HXX := Lib.hid hx5
          have HK := Lib.hid (HC2.out w5 HU5.out)
          clear hu5 hx5 HU4 HAA4 HBB4
          go_wp2_with fail
          refine HK.out.mono ?_
          rintro e w6 ⟨hu6, yv, rfl, hy6⟩
          obtain ⟨yq, yc, rfl, _, _⟩ := SlAt.open hy6
          have hy6 : IntsAt Any w6 (.slice yq on.length yc) on := hy6
          have HU6 := Lib.hid (HU5.out.trans hu6)
          have HXX6 := Lib.hid (IntsAt.keep HXX.out (hu6.kept _))
          have HYY := Lib.hid hy6
          have HK := Lib.hid (sameGroups_yes Any Any w6 _ _ G (HAA5.out.keep (hu6.kept _)) (HBB5.out.keep (hu6.kept _)) hgl HGS.out)
          clear hu6 hy6 HU5 HAA5 HBB5 HXX
          go_wp2_with fail
          refine HK.out.mono ?_
          rintro e w7 ⟨rfl, n7, rfl⟩
          have HU7 := Lib.hid (HU6.out.trans (Up.drewN w6 n7))
          have HXX7 := Lib.hid (IntsAt.keep HXX6.out ((Up.drewN w6 n7).kept _))
          have HYY7 := Lib.hid (IntsAt.keep HYY.out ((Up.drewN w6 n7).kept _))
          have HK := Lib.hid (equal_yes Any Any _ _ _ on on HXX7.out HYY7.out hool hool rfl)
          clear HU6 HXX6 HYY HXX7 HYY7
          generalize w6.drewN n7 = w7 at *
          go_wp2_with fail
          refine HK.out.mono ?_
          rintro e w8 ⟨rfl, n8, rfl⟩
          have HU8 := Lib.hid (HU7.out.trans (Up.drewN w7 n8))
          have HK := Lib.hid (HD1.out _ HU8.out)
          clear HU7
          generalize w7.drewN n8 = w8 at *
          go_wp2_with fail
          refine HK.out.mono ?_
          rintro e w9 ⟨hu9, s1, rfl, hs9⟩
          obtain ⟨s1q, s1c, rfl, _⟩ := grps_open hs9
          have HU9 := Lib.hid (HU8.out.trans hu9)
          have HS9 := Lib.hid hs9
          have HK := Lib.hid (HD2.out _ HU9.out)
          clear hu9 hs9 HU8
          go_wp2_with fail
          refine HK.out.mono ?_
          rintro e w10 ⟨hu10, s2, rfl, hs10⟩
          obtain ⟨s2q, s2c, rfl, _⟩ := grps_open hs10
          have HU10 := Lib.hid (HU9.out.trans hu10)
          have HK := Lib.hid (sameGroups_yes Any Any w10 _ _ sg (HS9.out.keep (hu10.kept _)) hs10 hsl HSS.out)
          clear hu10 hs10 HU9 HS9
          go_wp2_with fail
          refine HK.out.mono ?_
          rintro e w11 ⟨rfl, n11, rfl⟩
          have HU11 := Lib.hid (HU10.out.trans (Up.drewN w10 n11))
          go_wp2_with fail
          refine (HAW.out _).mono ?_
          rintro e w12 ⟨rfl, hu12⟩
          go_wp2_with fail
          go_ret
          exact ⟨rfl, HU11.out.trans hu12⟩
      · rw [hg2] at HGL
        clear hg2 c1
        go_enter Try.func7, Try.ntmps7
        go_wp2_with (first | (go_at_call 10; refine HGT.out.mono ?_; rintro e w' ⟨rfl, rfl⟩) | (go_at_call 28; refine HGL.out.mono ?_; rintro e w' ⟨rfl, rfl⟩) | (go_at_call 12; refine (HAW.out _).mono ?_; rintro e w' ⟨rfl, hu⟩))
        go_ret
        exact ⟨rfl, hu⟩
  · rw [hg] at HGT
    clear hg
    go_enter Try.func7, Try.ntmps7
    go_wp2_with (first | (go_at_call 10; refine HGT.out.mono ?_; rintro e w' ⟨rfl, rfl⟩) | (go_at_call 12; refine (HAW.out _).mono ?_; rintro e w' ⟨rfl, hu⟩))
    go_ret
    exact ⟨rfl, hu⟩
end Go.Proofs.Ytkfndaebmbnmaaa
