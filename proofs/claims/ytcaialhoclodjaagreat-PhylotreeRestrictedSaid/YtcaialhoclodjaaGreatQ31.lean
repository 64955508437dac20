/- The walk of PhylotreeRestricted. -/
import Derived.Test.YtcaialhoclodjaaGreatQ30
import Derived.Test.YtcaialhoclodjaaGreatQ13
import Derived.Test.YtcaialhoclodjaaGreatQ3
namespace Go.Proofs.YtcaialhoclodjaaGreat
open Go.RowKit Go.Deep
theorem lt64 {k n : Nat} (h : k < n) (h2 : n ≤ 16) : (k : Int) < 64 := by omega
set_option maxRecDepth 100000 in
set_option maxHeartbeats 16000000 in
theorem restricted_law (w : World) (v : Value) (t : Tre) (x y : Int) (hT : TreeAt Any w v t) (hp : t.ps.length ≤ 9223372036854775807) (hn : t.ns.length ≤ 9223372036854775807) (hz : ∀ k, (gs t.ns k).size ≤ 9223372036854775807) :
    Calls Tryz.prog 5 #[v, .int .u16 x, .int .u16 y] w fun e w' => e = .returned (.bool true) ∧ Up w w' := by
  obtain ⟨P, N, rfl, hP, hN⟩ := hT
  obtain ⟨pp, pc, rfl, -, -⟩ := SlAt.open hP
  obtain ⟨np, nc, rfl, -, -⟩ := SlAt.open hN
  have hP : IntsAt Any w (.slice pp t.ps.length pc) t.ps := hP
  have hN : StrsAt Any w (.slice np t.ns.length nc) t.ns := hN
  have HT0 : Hid (TreeAt Any w (.agg #[.slice pp t.ps.length pc, .slice np t.ns.length nc]) t) := ⟨_, _, rfl, hP, hN⟩
  have HF : Hid (∀ W, Up w W → Calls Tryz.prog 28 #[.agg #[.slice pp t.ps.length pc, .slice np t.ns.length nc]] W fun e w' => e = .returned (.bool (fine31B t)) ∧ Up W w') := fun W hW => fine31_t Any W _ t (HT0.out.keep (hW.kept _)) hp hn hz
  have HAW := Lib.hid awake31_t
  have hu := Up.alloc w (.cells #[.slice pp t.ps.length pc, .slice np t.ns.length nc] 25)
  have b0 := box2_0 w (.slice pp t.ps.length pc) (.slice np t.ns.length nc) 25
  have b1 := box2_1 w (.slice pp t.ps.length pc) (.slice np t.ns.length nc) 25
  have HU := Lib.hid hu
  have HB0 := Lib.hid b0
  have HB1 := Lib.hid b1
  clear hP hn hz hp hu
  cases hf : fine31B t
  · rw [hf] at HF
    clear hf hN
    go_enter Tryz.func5, Tryz.ntmps5
    go_wp2_with (first | (go_at_call 28; refine (HF.out _ HU.out).mono ?_; rintro e w1 ⟨rfl, hu1⟩) | (go_at_call 7; refine (HAW.out _).mono ?_; rintro e w' ⟨rfl, hu⟩) | fail)
    go_ret
    exact ⟨rfl, HU.out.trans (hu1.trans hu)⟩
  obtain ⟨h0, h16, he⟩ := fine31_ok hf
  rw [hf] at HF
  obtain ⟨_, _, hl, hok, _⟩ := treeErr_zero he
  have hm0 : 0 < (leavesL t.ns).length := by
    obtain ⟨q, hq⟩ := (good_toR he).meet (subR_self _)
    have h1 := List.length_pos_of_mem hq
    rw [lvs_count, ← (leafs_perm he).length_eq]; exact h1
  obtain ⟨lz, hlz, hlz1, _⟩ := leaf_nat (show (leavesL t.ns).length - 1 < (leavesL t.ns).length by omega)
  have hml : (leavesL t.ns).length ≤ 16 := by have := leavesL_len t.ns; omega
  obtain ⟨nb, no, enp, hcz⟩ := strs_get hN hlz1
  cases enp
  have HSM := Lib.hid (tree_small he)
  have HLV : Hid (∀ W, Up w W → Calls Tryz.prog 17 #[.agg #[.slice pp t.ps.length pc, .slice (some ⟨nb, no, none⟩) t.ns.length nc]] W fun e w' => Up W w' ∧ ∃ v, e = .returned (.tuple #[v, .int .i64 0]) ∧ IntsAt Any w' v (leavesL t.ns)) := fun W hW => by
    refine (leaves_t Any W _ t (HT0.out.keep (hW.kept _)) (by omega) (by omega) HSM.out).mono ?_
    rintro e w' ⟨h1, ⟨h2, _⟩ | ⟨_, u, rfl, h3⟩⟩
    · exact absurd he h2
    · exact ⟨h1, u, rfl, h3.sub fun _ _ _ => trivial⟩
  have HE := Lib.hid he
  have HLT : Hid (t.ps.length ≤ 16 ∧ t.ns.length = t.ps.length) := ⟨h16, hl⟩
  have HLL : Hid (0 < (leavesL t.ns).length ∧ (leavesL t.ns).length ≤ 16) := ⟨hm0, hml⟩
  have HLNS : Hid (∀ k, k < (leavesL t.ns).length → ∃ j : Nat, gi (leavesL t.ns) k = (j : Int) ∧ j < t.ns.length) := fun k hk => by
    obtain ⟨j, h1, h2, _⟩ := leaf_nat hk
    exact ⟨j, h1, h2⟩
  have HN0 := Lib.hid hN
  have HSEL : Hid (∀ b : Nat → Bool, b 0 = true → rsErr t (selB b (leavesL t.ns) (leavesL t.ns).length) = 0) := fun b hb => sel_ok he (Nat.le_refl _) hm0 hb
  have HND : Hid (∀ b : Nat → Bool, (selB b (leavesL t.ns) (leavesL t.ns).length).Nodup) := fun b => (selB_asc b t.ns (Nat.le_refl _)).imp fun h e => by omega
  have HLZ := Lib.hid hlz
  clear hN hf hok hl hlz
  generalize hLN : leavesL t.ns = LN at *
  clear hLN
  have HGI : Hid (∀ W v, IntsAt Any W v LN → ∃ lp lc, v = .slice lp LN.length lc ∧ ∀ k, k < LN.length → ∃ b off, lp = some ⟨b, off, none⟩ ∧ W.cell? ⟨b, off + k, none⟩ = some (.int .i64 (gi LN k))) := fun W v h => by
    obtain ⟨lp, lc, rfl, _, hc⟩ := SlAt.open h
    exact ⟨lp, lc, rfl, hc⟩
  have HIL : Hid (∀ (W : World) (lb lo lc : Nat), (∀ k : Nat, k < LN.length → ∃ b off, some (⟨lb, lo, none⟩ : Addr) = some ⟨b, off, none⟩ ∧ W.cell? ⟨b, off + k, none⟩ = some (.int .i64 (gi LN k))) → ∀ k : Nat, k < LN.length → W.cell? ⟨lb, lo + k, none⟩ = some (.int .i64 (gi LN k))) := fun W lb lo lc h k hk => by
    obtain ⟨_, _, e, hc⟩ := h k hk
    cases e; exact hc
  generalize hmm : LN.length = m at *
  clear hmm
  go_enter Tryz.func5, Tryz.ntmps5
  go_wp2_with fail
  generalize hw1 : w.alloc (.cells #[.slice pp t.ps.length pc, .slice (some ⟨nb, no, none⟩) t.ns.length nc] 25) = w1 at *
  refine (HF.out w1 HU.out).mono ?_
  rintro e w2 ⟨rfl, hu2⟩
  have HU2 := Lib.hid hu2
  have b0 := hu2.cell HB0.out
  have b1 := hu2.cell HB1.out
  clear hu2 HF
  go_wp2_with fail
  refine (HLV.out w2 (HU.out.trans HU2.out)).mono ?_
  rintro e w3 ⟨hu3, lv, rfl, hlv⟩
  have HU3 := Lib.hid (HU2.out.trans hu3)
  have b0 := HU3.out.cell HB0.out
  have b1 := HU3.out.cell HB1.out
  obtain ⟨lp, lc, rfl, hcells⟩ := HGI.out _ _ hlv
  obtain ⟨lbk, lo, rfl, hcz⟩ := hcells _ (show m - 1 < m by omega)
  have HCE := Lib.hid (HIL.out w3 lbk lo lc hcells)
  rw [HLZ.out] at hcz
  have j0 : ((m : Int) == 0) = false := beq_eq_false_iff_ne.2 (by omega)
  have j1 : (0 : Int) ≤ (m : Int) - 1 := by omega
  have j2 : (m : Int) - 1 < (m : Int) := by omega
  have j3 : ((m : Int) - 1).toNat = m - 1 := by omega
  have j4 : wrap64 ((m : Int) - 1) = (m : Int) - 1 := by unfold wrap64; omega
  have j5 : decide ((t.ns.length : Int) ≤ (lz : Int)) = false := decide_eq_false (by omega)
  have J5 := Lib.hid (show decide (t.ns.length ≤ lz) = false from decide_eq_false (by omega))
  clear hu3 hlv hcells HGI HIL HLV
  go_wp2_with fail
  go_big_quiet (fail)
  rw [J5.out]
  have hu4 : Up w3 (w3.drewN nq) := Up.drewN w3 nq
  have HU4 := Lib.hid (HU3.out.trans hu4)
  have HC4 : Hid (∀ k, k < m → (w3.drewN nq).cell? ⟨lbk, lo + k, none⟩ = some (.int .i64 (gi LN k))) := fun k hk => hu4.cell (HCE.out k hk)
  clear hu4 hcz j0 j1 j2 j3 j4 j5 b0 b1 HCE
  generalize w3.drewN nq = w4 at *
  go_wp2_with fail
  obtain ⟨B1, hB1⟩ : ∃ b : Nat → Bool, b = fun i => (bits BinOp.and IntKind.u16 (x / 2 ^ (i % 16)) 1 == 1) || decide (i = 0) := ⟨_, rfl⟩
  obtain ⟨B2, hB2⟩ : ∃ b : Nat → Bool, b = fun i => B1 i && ((bits BinOp.and IntKind.u16 (y / 2 ^ (i % 16)) 1 == 1) || decide (i = 0)) := ⟨_, rfl⟩
  have HBB := Lib.hid hB1
  have HBC := Lib.hid hB2
  have HST4 : Hid (∀ j, j < t.ns.length → ∀ W, Up w4 W → W.cell? ⟨nb, no + j, none⟩ = some (.string (gs t.ns j))) := fun j hj W hW => by
    obtain ⟨_, _, e, hc⟩ := strs_get (StrsAt.keep HN0.out ((HU.out.trans (HU4.out.trans hW)).kept _)) hj
    cases e; exact hc
  clear hB1 hB2
  go_loopw [9, 10, 11, 12, 13, 57] (fun s f n _ _ i wr => ∃ k : Nat, k ≤ m ∧ i = .int .i64 k ∧ Hid (Up w4 wr ∧ Tri w4.heap.size wr s f n (selB B1 LN k) (selB B2 LN k) (nmsL t.ns (selB B2 LN k)))) (fun _ _ _ _ _ i _ => m - (intOf i).toNat)
  case atStart => exact ⟨0, Nat.zero_le _, rfl, Up.refl _, Tri.start _ _⟩
  case round =>
    obtain ⟨k, hk, rfl, hI⟩ := hrel
    obtain ⟨wo, rfl⟩ : ∃ wo : World, wo = wr := ⟨_, rfl⟩
    have hur := Lib.hid hI.out.1
    have hT := Lib.hid hI.out.2
    clear hI
    by_cases hlt : k < m
    · have hck := hur.out.cell (HC4.out k hlt)
      obtain ⟨j, hj, hjl⟩ := HLNS.out k hlt
      rw [hj] at hck
      have i1 : (0 : Int) ≤ (k : Int) := Int.natCast_nonneg _
      have i2 : (k : Int) < (m : Int) := Int.ofNat_lt.2 hlt
      have i3 : (0 : Int) ≤ (j : Int) := Int.natCast_nonneg _
      have i4 : (j : Int) < (t.ns.length : Int) := Int.ofNat_lt.2 hjl
      have HST4 := Lib.hid (HST4.out j hjl)
      have HLT2 : Hid (k + 1 ≤ m ∧ m ≤ 16) := ⟨hlt, HLL.out.2⟩
      have HLE : Hid (∀ b, (selB b LN k).length ≤ 1000000) := fun b => by have h1 := selB_len b LN k; have h2 := HLL.out.2; omega
      have HLN : Hid ((nmsL t.ns (selB B2 LN k)).length ≤ 1000000) := by
        unfold Hid nmsL; rw [List.length_map]; exact HLE.out _
      have HL1 : Hid (((selB B1 LN k).map (Value.int .i64)).length = (selB B1 LN k).length ∧ (selB B1 LN k).length ≤ 1000000 ∧ w4.heap.size ≤ wo.heap.size) := ⟨List.length_map _, HLE.out _, hur.out.size⟩
      have HS3 : Hid (nmsL t.ns (selB B2 LN k ++ [(j : Int)]) = nmsL t.ns (selB B2 LN k) ++ [gs t.ns j]) := by unfold Hid nmsL; rw [List.map_append, List.map_cons, List.map_nil, Int.toNat_natCast]
      have ht1 := congrFun HBB.out k
      have ht2 := congrFun HBC.out k
      cases d1 : (bits BinOp.and IntKind.u16 (x / 2 ^ (k % 16)) 1 == 1)
      · by_cases k0 : k = 0
        · have d0 : ((k : Int) == 0) = true := by rw [k0]; rfl
          rw [d1, decide_eq_true k0, Bool.or_true] at ht1
          rw [ht1, decide_eq_true k0, Bool.or_true, Bool.and_true] at ht2
          have HS1 : Hid (selB B1 LN (k + 1) = selB B1 LN k ++ [(j : Int)]) := by unfold Hid; rw [selB_succ, if_pos ht1, hj]
          have HS2 : Hid (selB B2 LN (k + 1) = selB B2 LN k ++ [(j : Int)]) := by unfold Hid; rw [selB_succ, if_pos ht2, hj]
          clear ht1 ht2 hj k0 hlt
          cases d2 : (bits BinOp.and IntKind.u16 (y / 2 ^ (k % 16)) 1 == 1)
          ·
            go_wp2_with (first | (at_builtin; refine wpList_appG wo rfl _ _ 22 rfl w4.heap.size 3 (.int .i64 0) 8 Tryz.underlying22 Tryz.infoI rfl (by decide) hT.out.so rfl (.int .i64 j) rfl rfl _ HL1.out.1 HL1.out.2.1 HL1.out.2.2 ?_; intro g8 cap8 w8 hown8 hgr8 hor8; have hT8 := Lib.hid (hT.out.appS hown8 hgr8 hor8); have hu8 : Hid (Up w4 w8) := Below.trans hur.out (hT.out.so.grown_below hgr8 HL1.out.2.2); have HL2 : Hid (((selB B2 LN k).map (Value.int .i64)).length = (selB B2 LN k).length ∧ (selB B2 LN k).length ≤ 1000000 ∧ w4.heap.size ≤ w8.heap.size) := ⟨List.length_map _, HLE.out _, hu8.out.size⟩; clear hown8 hgr8 hor8) | (at_builtin; refine wpList_appG w8 rfl _ _ 22 rfl w4.heap.size 3 (.int .i64 0) 8 Tryz.underlying22 Tryz.infoI rfl (by decide) hT8.out.fo rfl (.int .i64 j) rfl rfl _ HL2.out.1 HL2.out.2.1 HL2.out.2.2 ?_; intro g9 cap9 w9 hown9 hgr9 hor9; have hT9 := Lib.hid (hT8.out.appF hown9 hgr9 hor9); have hu9 : Hid (Up w4 w9) := Below.trans hu8.out (hT8.out.fo.grown_below hgr9 HL2.out.2.2); have HL3 : Hid (((nmsL t.ns (selB B2 LN k)).map Value.string).length = (nmsL t.ns (selB B2 LN k)).length ∧ (nmsL t.ns (selB B2 LN k)).length ≤ 1000000 ∧ w4.heap.size ≤ w9.heap.size) := ⟨List.length_map _, HLN.out, hu9.out.size⟩; have q0 := (HU4.out.trans hu9.out).cell HB0.out; have q1 := (HU4.out.trans hu9.out).cell HB1.out; have qs := HST4.out w9 hu9.out; clear hown9 hgr9 hor9) | (at_builtin; refine wpList_appG w9 rfl _ _ 23 rfl w4.heap.size 9 (.string ⟨#[]⟩) 16 Tryz.underlying23 Tryz.infoStr2 rfl (by decide) hT9.out.no rfl (.string (gs t.ns j)) rfl rfl _ HL3.out.1 HL3.out.2.1 HL3.out.2.2 ?_; intro g10 cap10 w10 hown10 hgr10 hor10; have hT10 := Lib.hid (hT9.out.appN hown10 hgr10 hor10); have hu10 : Hid (Up w4 w10) := Below.trans hu9.out (hT9.out.no.grown_below hgr10 HL3.out.2.2); clear hown10 hgr10 hor10 q0 q1 qs))
            go_roundw
            case rel => exact ⟨k + 1, HLT2.out.1, by have := HLT2.out; go_num, hu10.out, by rw [HS1.out, HS2.out, HS3.out]; exact hT10.out⟩
            case measure => have := HLT2.out; simp [intOf]; omega
          ·
            go_wp2_with (first | (at_builtin; refine wpList_appG wo rfl _ _ 22 rfl w4.heap.size 3 (.int .i64 0) 8 Tryz.underlying22 Tryz.infoI rfl (by decide) hT.out.so rfl (.int .i64 j) rfl rfl _ HL1.out.1 HL1.out.2.1 HL1.out.2.2 ?_; intro g8 cap8 w8 hown8 hgr8 hor8; have hT8 := Lib.hid (hT.out.appS hown8 hgr8 hor8); have hu8 : Hid (Up w4 w8) := Below.trans hur.out (hT.out.so.grown_below hgr8 HL1.out.2.2); have HL2 : Hid (((selB B2 LN k).map (Value.int .i64)).length = (selB B2 LN k).length ∧ (selB B2 LN k).length ≤ 1000000 ∧ w4.heap.size ≤ w8.heap.size) := ⟨List.length_map _, HLE.out _, hu8.out.size⟩; clear hown8 hgr8 hor8) | (at_builtin; refine wpList_appG w8 rfl _ _ 22 rfl w4.heap.size 3 (.int .i64 0) 8 Tryz.underlying22 Tryz.infoI rfl (by decide) hT8.out.fo rfl (.int .i64 j) rfl rfl _ HL2.out.1 HL2.out.2.1 HL2.out.2.2 ?_; intro g9 cap9 w9 hown9 hgr9 hor9; have hT9 := Lib.hid (hT8.out.appF hown9 hgr9 hor9); have hu9 : Hid (Up w4 w9) := Below.trans hu8.out (hT8.out.fo.grown_below hgr9 HL2.out.2.2); have HL3 : Hid (((nmsL t.ns (selB B2 LN k)).map Value.string).length = (nmsL t.ns (selB B2 LN k)).length ∧ (nmsL t.ns (selB B2 LN k)).length ≤ 1000000 ∧ w4.heap.size ≤ w9.heap.size) := ⟨List.length_map _, HLN.out, hu9.out.size⟩; have q0 := (HU4.out.trans hu9.out).cell HB0.out; have q1 := (HU4.out.trans hu9.out).cell HB1.out; have qs := HST4.out w9 hu9.out; clear hown9 hgr9 hor9) | (at_builtin; refine wpList_appG w9 rfl _ _ 23 rfl w4.heap.size 9 (.string ⟨#[]⟩) 16 Tryz.underlying23 Tryz.infoStr2 rfl (by decide) hT9.out.no rfl (.string (gs t.ns j)) rfl rfl _ HL3.out.1 HL3.out.2.1 HL3.out.2.2 ?_; intro g10 cap10 w10 hown10 hgr10 hor10; have hT10 := Lib.hid (hT9.out.appN hown10 hgr10 hor10); have hu10 : Hid (Up w4 w10) := Below.trans hu9.out (hT9.out.no.grown_below hgr10 HL3.out.2.2); clear hown10 hgr10 hor10 q0 q1 qs))
            go_roundw
            case rel => exact ⟨k + 1, HLT2.out.1, by have := HLT2.out; go_num, hu10.out, by rw [HS1.out, HS2.out, HS3.out]; exact hT10.out⟩
            case measure => have := HLT2.out; simp [intOf]; omega
        · have d0 : ((k : Int) == 0) = false := beq_eq_false_iff_ne.2 (by omega)
          rw [d1, decide_eq_false k0, Bool.or_false] at ht1
          rw [ht1, Bool.false_and] at ht2
          have HS1 : Hid (selB B1 LN (k + 1) = selB B1 LN k) := by unfold Hid; rw [selB_succ, if_neg (by rw [ht1]; decide), List.append_nil]
          have HS2 : Hid (selB B2 LN (k + 1) = selB B2 LN k) := by unfold Hid; rw [selB_succ, if_neg (by rw [ht2]; decide), List.append_nil]
          clear ht1 ht2 hj k0 hlt
          go_wp2_with fail
          go_roundw
          case rel => exact ⟨k + 1, HLT2.out.1, by have := HLT2.out; go_num, hur.out, by rw [HS1.out, HS2.out]; exact hT.out⟩
          case measure => have := HLT2.out; simp [intOf]; omega
      · rw [d1, Bool.true_or] at ht1
        rw [ht1, Bool.true_and] at ht2
        have HS1 : Hid (selB B1 LN (k + 1) = selB B1 LN k ++ [(j : Int)]) := by unfold Hid; rw [selB_succ, if_pos ht1, hj]
        cases d2 : (bits BinOp.and IntKind.u16 (y / 2 ^ (k % 16)) 1 == 1)
        · by_cases k0 : k = 0
          · have d0 : ((k : Int) == 0) = true := by rw [k0]; rfl
            rw [decide_eq_true k0, Bool.or_true] at ht2
            have HS2 : Hid (selB B2 LN (k + 1) = selB B2 LN k ++ [(j : Int)]) := by unfold Hid; rw [selB_succ, if_pos ht2, hj]
            clear ht1 ht2 hj k0 hlt
            go_wp2_with (first | (at_builtin; refine wpList_appG wo rfl _ _ 22 rfl w4.heap.size 3 (.int .i64 0) 8 Tryz.underlying22 Tryz.infoI rfl (by decide) hT.out.so rfl (.int .i64 j) rfl rfl _ HL1.out.1 HL1.out.2.1 HL1.out.2.2 ?_; intro g8 cap8 w8 hown8 hgr8 hor8; have hT8 := Lib.hid (hT.out.appS hown8 hgr8 hor8); have hu8 : Hid (Up w4 w8) := Below.trans hur.out (hT.out.so.grown_below hgr8 HL1.out.2.2); have HL2 : Hid (((selB B2 LN k).map (Value.int .i64)).length = (selB B2 LN k).length ∧ (selB B2 LN k).length ≤ 1000000 ∧ w4.heap.size ≤ w8.heap.size) := ⟨List.length_map _, HLE.out _, hu8.out.size⟩; clear hown8 hgr8 hor8) | (at_builtin; refine wpList_appG w8 rfl _ _ 22 rfl w4.heap.size 3 (.int .i64 0) 8 Tryz.underlying22 Tryz.infoI rfl (by decide) hT8.out.fo rfl (.int .i64 j) rfl rfl _ HL2.out.1 HL2.out.2.1 HL2.out.2.2 ?_; intro g9 cap9 w9 hown9 hgr9 hor9; have hT9 := Lib.hid (hT8.out.appF hown9 hgr9 hor9); have hu9 : Hid (Up w4 w9) := Below.trans hu8.out (hT8.out.fo.grown_below hgr9 HL2.out.2.2); have HL3 : Hid (((nmsL t.ns (selB B2 LN k)).map Value.string).length = (nmsL t.ns (selB B2 LN k)).length ∧ (nmsL t.ns (selB B2 LN k)).length ≤ 1000000 ∧ w4.heap.size ≤ w9.heap.size) := ⟨List.length_map _, HLN.out, hu9.out.size⟩; have q0 := (HU4.out.trans hu9.out).cell HB0.out; have q1 := (HU4.out.trans hu9.out).cell HB1.out; have qs := HST4.out w9 hu9.out; clear hown9 hgr9 hor9) | (at_builtin; refine wpList_appG w9 rfl _ _ 23 rfl w4.heap.size 9 (.string ⟨#[]⟩) 16 Tryz.underlying23 Tryz.infoStr2 rfl (by decide) hT9.out.no rfl (.string (gs t.ns j)) rfl rfl _ HL3.out.1 HL3.out.2.1 HL3.out.2.2 ?_; intro g10 cap10 w10 hown10 hgr10 hor10; have hT10 := Lib.hid (hT9.out.appN hown10 hgr10 hor10); have hu10 : Hid (Up w4 w10) := Below.trans hu9.out (hT9.out.no.grown_below hgr10 HL3.out.2.2); clear hown10 hgr10 hor10 q0 q1 qs))
            go_roundw
            case rel => exact ⟨k + 1, HLT2.out.1, by have := HLT2.out; go_num, hu10.out, by rw [HS1.out, HS2.out, HS3.out]; exact hT10.out⟩
            case measure => have := HLT2.out; simp [intOf]; omega
          · have d0 : ((k : Int) == 0) = false := beq_eq_false_iff_ne.2 (by omega)
            rw [d2, decide_eq_false k0, Bool.or_false] at ht2
            have HS2 : Hid (selB B2 LN (k + 1) = selB B2 LN k) := by unfold Hid; rw [selB_succ, if_neg (by rw [ht2]; decide), List.append_nil]
            clear ht1 ht2 hj k0 hlt
            go_wp2_with (first | (at_builtin; refine wpList_appG wo rfl _ _ 22 rfl w4.heap.size 3 (.int .i64 0) 8 Tryz.underlying22 Tryz.infoI rfl (by decide) hT.out.so rfl (.int .i64 j) rfl rfl _ HL1.out.1 HL1.out.2.1 HL1.out.2.2 ?_; intro g8 cap8 w8 hown8 hgr8 hor8; have hT8 := Lib.hid (hT.out.appS hown8 hgr8 hor8); have hu8 : Hid (Up w4 w8) := Below.trans hur.out (hT.out.so.grown_below hgr8 HL1.out.2.2); have HL2 : Hid (((selB B2 LN k).map (Value.int .i64)).length = (selB B2 LN k).length ∧ (selB B2 LN k).length ≤ 1000000 ∧ w4.heap.size ≤ w8.heap.size) := ⟨List.length_map _, HLE.out _, hu8.out.size⟩; clear hown8 hgr8 hor8))
            go_roundw
            case rel => exact ⟨k + 1, HLT2.out.1, by have := HLT2.out; go_num, hu8.out, by rw [HS1.out, HS2.out]; exact hT8.out⟩
            case measure => have := HLT2.out; simp [intOf]; omega
        · rw [d2, Bool.true_or] at ht2
          have HS2 : Hid (selB B2 LN (k + 1) = selB B2 LN k ++ [(j : Int)]) := by unfold Hid; rw [selB_succ, if_pos ht2, hj]
          clear ht1 ht2 hj hlt
          go_wp2_with (first | (at_builtin; refine wpList_appG wo rfl _ _ 22 rfl w4.heap.size 3 (.int .i64 0) 8 Tryz.underlying22 Tryz.infoI rfl (by decide) hT.out.so rfl (.int .i64 j) rfl rfl _ HL1.out.1 HL1.out.2.1 HL1.out.2.2 ?_; intro g8 cap8 w8 hown8 hgr8 hor8; have hT8 := Lib.hid (hT.out.appS hown8 hgr8 hor8); have hu8 : Hid (Up w4 w8) := Below.trans hur.out (hT.out.so.grown_below hgr8 HL1.out.2.2); have HL2 : Hid (((selB B2 LN k).map (Value.int .i64)).length = (selB B2 LN k).length ∧ (selB B2 LN k).length ≤ 1000000 ∧ w4.heap.size ≤ w8.heap.size) := ⟨List.length_map _, HLE.out _, hu8.out.size⟩; clear hown8 hgr8 hor8) | (at_builtin; refine wpList_appG w8 rfl _ _ 22 rfl w4.heap.size 3 (.int .i64 0) 8 Tryz.underlying22 Tryz.infoI rfl (by decide) hT8.out.fo rfl (.int .i64 j) rfl rfl _ HL2.out.1 HL2.out.2.1 HL2.out.2.2 ?_; intro g9 cap9 w9 hown9 hgr9 hor9; have hT9 := Lib.hid (hT8.out.appF hown9 hgr9 hor9); have hu9 : Hid (Up w4 w9) := Below.trans hu8.out (hT8.out.fo.grown_below hgr9 HL2.out.2.2); have HL3 : Hid (((nmsL t.ns (selB B2 LN k)).map Value.string).length = (nmsL t.ns (selB B2 LN k)).length ∧ (nmsL t.ns (selB B2 LN k)).length ≤ 1000000 ∧ w4.heap.size ≤ w9.heap.size) := ⟨List.length_map _, HLN.out, hu9.out.size⟩; have q0 := (HU4.out.trans hu9.out).cell HB0.out; have q1 := (HU4.out.trans hu9.out).cell HB1.out; have qs := HST4.out w9 hu9.out; clear hown9 hgr9 hor9) | (at_builtin; refine wpList_appG w9 rfl _ _ 23 rfl w4.heap.size 9 (.string ⟨#[]⟩) 16 Tryz.underlying23 Tryz.infoStr2 rfl (by decide) hT9.out.no rfl (.string (gs t.ns j)) rfl rfl _ HL3.out.1 HL3.out.2.1 HL3.out.2.2 ?_; intro g10 cap10 w10 hown10 hgr10 hor10; have hT10 := Lib.hid (hT9.out.appN hown10 hgr10 hor10); have hu10 : Hid (Up w4 w10) := Below.trans hu9.out (hT9.out.no.grown_below hgr10 HL3.out.2.2); clear hown10 hgr10 hor10 q0 q1 qs))
          go_roundw
          case rel => exact ⟨k + 1, HLT2.out.1, by have := HLT2.out; go_num, hu10.out, by rw [HS1.out, HS2.out, HS3.out]; exact hT10.out⟩
          case measure => have := HLT2.out; simp [intOf]; omega
    · have hkm : m = k := by omega
      subst hkm
      have hb10 : B1 0 = true := by rw [HBB.out]; simp
      have hb20 : B2 0 = true := by rw [HBC.out]; simp [hb10]
      have hsub : ∀ z ∈ selB B2 LN m, z ∈ selB B1 LN m := fun z hz => by
        obtain ⟨i, h1, h2, h3⟩ := selB_mem.1 hz
        refine selB_mem.2 ⟨i, h1, ?_, h3⟩
        rw [HBC.out] at h2
        simp only [Bool.and_eq_true] at h2
        exact h2.1
      have e1 := HSEL.out B1 hb10
      have e2 := HSEL.out B2 hb20
      have n2 := HND.out B2
      have hl1 : (selB B1 LN m).length ≤ 16 := Nat.le_trans (selB_len _ _ _) HLL.out.2
      have hl2 : (selB B2 LN m).length ≤ 16 := Nat.le_trans (selB_len _ _ _) HLL.out.2
      clear hb10 hb20 HSEL HND HBB HBC HST4 HC4 HLNS hk hlt
      generalize selB B1 LN m = S1 at *
      generalize selB B2 LN m = S2 at *
      obtain ⟨tw1, tw2⟩ := rsx_twice e1 e2 n2 hsub (a := flat (rsQt t S1)) rfl (R := sortL ((sortS (nmsL t.ns S2)).map (fdN (flat (rsQt t S1)).ns))) rfl
      have ea := rsx_ok e1
      have eo := rsx_ok e2
      obtain ⟨_, a64, al, _, _⟩ := treeErr_zero ea
      obtain ⟨_, o64, ol, _, _⟩ := treeErr_zero eo
      have HAM := Lib.hid (tree_small ea)
      have HOM := Lib.hid (tree_small eo)
      have hso := rsx_sorted e2 n2
      have hln : (nmsL t.ns S2).length = S2.length := by unfold nmsL; rw [List.length_map]
      have hsl : (sortS (nmsL t.ns S2)).length ≤ 16 := by rw [sortS_len, hln]; exact hl2
      have h16 := HLT.out.1
      have hnl := HLT.out.2
      have HKD : Hid (∀ i, i < (flat (rsQt t S2)).ps.length → cntI (flat (rsQt t S2)).ps (i : Int) (flat (rsQt t S2)).ps.length ≠ 1) := fun i hi => rsx_kids e2 hi
      have HRS : Hid (∀ W v vl, TreeAt Any W v t → IntsAt Any W vl S1 → Calls Tryz.prog 12 #[v, vl] W fun e w' => Up W w' ∧ ∃ v, e = .returned (.tuple #[v, .int .i64 0]) ∧ TreeAt Any w' v (flat (rsQt t S1))) := fun W v vl hv hL => by
        refine (restrict_t Any W v vl t S1 hv hL (by omega) (by omega) HSM.out (by omega)).mono ?_
        rintro e w' ⟨h1, v, rfl, h2⟩
        rw [rsT_flat e1] at h2
        exact ⟨h1, v, by rw [e1], h2⟩
      have HRF : Hid (∀ W v vl, TreeAt Any W v t → IntsAt Any W vl S2 → Calls Tryz.prog 12 #[v, vl] W fun e w' => Up W w' ∧ ∃ v, e = .returned (.tuple #[v, .int .i64 0]) ∧ TreeAt Any w' v (flat (rsQt t S2))) := fun W v vl hv hL => by
        refine (restrict_t Any W v vl t S2 hv hL (by omega) (by omega) HSM.out (by omega)).mono ?_
        rintro e w' ⟨h1, v, rfl, h2⟩
        rw [rsT_flat e2] at h2
        exact ⟨h1, v, by rw [e2], h2⟩
      have HCK : Hid (∀ W v, TreeAt Any W v (flat (rsQt t S2)) → Calls Tryz.prog 25 #[v] W fun e w' => e = .returned (.int .i64 0) ∧ Up W w') := fun W v hv => by
        have h := check_t Any W v (flat (rsQt t S2)) hv (by omega) (by omega) HOM.out
        rw [eo] at h; exact h
      have HST : Hid (∀ W v u, TreeAt Any W v (flat (rsQt t S2)) → TreeAt Any W u (flat (rsQt t S2)) → Calls Tryz.prog 14 #[v, u] W fun e w' => e = .returned (.bool true) ∧ Up W w') := fun W v u hv hu => sameTree_yes Any Any W v u (flat (rsQt t S2)) hv hu (by omega) (by omega)
      have HNM : Hid (∀ W v, TreeAt Any W v (flat (rsQt t S2)) → Calls Tryz.prog 31 #[v] W fun e w' => Up W w' ∧ ∃ u, e = .returned u ∧ StrsAt Any w' u (sortS (nmsL t.ns S2))) := fun W v hv => by
        refine (names31_t Any W v (flat (rsQt t S2)) hv (by omega)).mono ?_
        rintro e w' ⟨h1, u, rfl, h2⟩
        rw [hso] at h2
        exact ⟨h1, u, rfl, h2.strs.sub fun _ _ _ => trivial⟩
      have HEQ : Hid (∀ W u v, StrsAt Any W u (sortS (nmsL t.ns S2)) → StrsAt Any W v (sortS (nmsL t.ns S2)) → Calls Tryz.prog 30 #[u, v] W (EqPost W true)) := fun W u v h1 h2 => by
        have h := equal_str_t Any Any W u v _ _ h1 h2 (by omega) (by omega)
        rw [decide_eq_true rfl] at h; exact h
      have HFI : Hid (∀ W v a, TreeAt Any W v (flat (rsQt t S1)) → Calls Tryz.prog 32 #[v, .string a] W fun e w' => e = .returned (.int .i64 (fdN (flat (rsQt t S1)).ns a)) ∧ Up W w') := fun W v a hv => find31_t Any W v (flat (rsQt t S1)) a hv (by omega)
      have hrl : (sortL ((sortS (nmsL t.ns S2)).map (fdN (flat (rsQt t S1)).ns))).length ≤ 16 := by rw [sortL_len, List.length_map]; exact hsl
      have HRR : Hid (∀ W v vl, TreeAt Any W v (flat (rsQt t S1)) → IntsAt Any W vl (sortL ((sortS (nmsL t.ns S2)).map (fdN (flat (rsQt t S1)).ns))) → Calls Tryz.prog 12 #[v, vl] W fun e w' => Up W w' ∧ ∃ v, e = .returned (.tuple #[v, .int .i64 0]) ∧ TreeAt Any w' v (flat (rsQt t S2))) := fun W v vl hv hL => by
        refine (restrict_t Any W v vl (flat (rsQt t S1)) _ hv hL (by omega) (by omega) HAM.out (by omega)).mono ?_
        rintro e w' ⟨h1, v, rfl, h2⟩
        rw [tw2] at h2
        exact ⟨h1, v, by rw [tw1], h2⟩
      have HSO := Lib.hid (sort_str_g w4.heap.size wo _ _ hT.out.no (by omega))
      have HWL : Hid ((sortS (nmsL t.ns S2)).length = S2.length) := by unfold Hid; rw [sortS_len, hln]
      have HL2 := Lib.hid hl2
      have HO64 := Lib.hid o64
      clear tw1 tw2 ea eo a64 al o64 ol hso hln hsl hrl e1 e2 n2 hsub h16 hnl hl1 hl2 HSM HAM HOM
      generalize flat (rsQt t S1) = aT at *
      generalize flat (rsQt t S2) = oT at *
      obtain ⟨wp, wcp, rfl, _⟩ := hT.out.no.form (n := (nmsL t.ns S2).length) (by simp)
      obtain ⟨sp, scp, rfl, _⟩ := hT.out.so.form (n := S1.length) (by simp)
      obtain ⟨fp, fcp, rfl, _⟩ := hT.out.fo.form (n := S2.length) (by simp)
      go_wp2_with fail
      refine HSO.out.mono ?_
      rintro e w5 ⟨rfl, hg5, ho5⟩
      have hT5 := Lib.hid (hT.out.grownN ho5 hg5)
      have hu5 : Hid (Up w4 w5) := Below.trans hur.out (hT.out.no.grown_below hg5 hur.out.size)
      have HTW : Hid (∀ W, Up w4 W → TreeAt Any W (.agg #[.slice pp t.ps.length pc, .slice (some ⟨nb, no, none⟩) t.ns.length nc]) t) := fun W hW => HT0.out.keep ((HU.out.trans (HU4.out.trans hW)).kept _)
      have b0 := (HU4.out.trans hu5.out).cell HB0.out
      have b1 := (HU4.out.trans hu5.out).cell HB1.out
      clear hg5 ho5 HSO hur hT
      go_wp2_with fail
      refine (HRS.out w5 _ _ (HTW.out w5 hu5.out) (hT5.out.so.ints.sub fun _ _ _ => trivial)).mono ?_
      rintro e w6 ⟨hu6, v6, rfl, ht6⟩
      obtain ⟨P6, N6, rfl, hP6, hN6⟩ := ht6
      obtain ⟨pp6, pc6, rfl, -, -⟩ := SlAt.open hP6
      obtain ⟨np6, nc6, rfl, -, -⟩ := SlAt.open hN6
      have hP6 : IntsAt Any w6 (.slice pp6 aT.ps.length pc6) aT.ps := hP6
      have hN6 : StrsAt Any w6 (.slice np6 aT.ns.length nc6) aT.ns := hN6
      have hal := Up.alloc w6 (.cells #[.slice pp6 aT.ps.length pc6, .slice np6 aT.ns.length nc6] 25)
      have HC0 := Lib.hid (box2_0 w6 (.slice pp6 aT.ps.length pc6) (.slice np6 aT.ns.length nc6) 25)
      have HC1 := Lib.hid (box2_1 w6 (.slice pp6 aT.ps.length pc6) (.slice np6 aT.ns.length nc6) 25)
      have HT7 : Hid (TreeAt Any (w6.alloc (.cells #[.slice pp6 aT.ps.length pc6, .slice np6 aT.ns.length nc6] 25)) (.agg #[.slice pp6 aT.ps.length pc6, .slice np6 aT.ns.length nc6]) aT) := TreeAt.keep ⟨_, _, rfl, hP6, hN6⟩ (hal.kept _)
      have hu57 := hu6.trans hal
      have HU7 : Hid (Up w4 _) := hu5.out.trans hu57
      have HTR7 := Lib.hid (hT5.out.up hu57)
      have b0 := (HU4.out.trans HU7.out).cell HB0.out
      have b1 := (HU4.out.trans HU7.out).cell HB1.out
      clear hu6 hal hu57 hP6 hN6 hT5 hu5 HRS
      go_wp2_with fail
      generalize w6.alloc (.cells #[.slice pp6 aT.ps.length pc6, .slice np6 aT.ns.length nc6] 25) = w7 at *
      refine (HRF.out w7 _ _ (HTW.out w7 HU7.out) (HTR7.out.fo.ints.sub fun _ _ _ => trivial)).mono ?_
      rintro e w8 ⟨hu8, v8, rfl, ht8⟩
      obtain ⟨P8, N8, rfl, hP8, hN8⟩ := ht8
      obtain ⟨pp8, pc8, rfl, -, -⟩ := SlAt.open hP8
      obtain ⟨np8, nc8, rfl, -, -⟩ := SlAt.open hN8
      have hP8 : IntsAt Any w8 (.slice pp8 oT.ps.length pc8) oT.ps := hP8
      have hN8 : StrsAt Any w8 (.slice np8 oT.ns.length nc8) oT.ns := hN8
      have hal := Up.alloc w8 (.cells #[.slice pp8 oT.ps.length pc8, .slice np8 oT.ns.length nc8] 25)
      have d0 := box2_0 w8 (.slice pp8 oT.ps.length pc8) (.slice np8 oT.ns.length nc8) 25
      have d1 := box2_1 w8 (.slice pp8 oT.ps.length pc8) (.slice np8 oT.ns.length nc8) 25
      have HD0 := Lib.hid d0
      have HD1 := Lib.hid d1
      have HPO := Lib.hid (IntsAt.keep hP8 (hal.kept _))
      have HT9 : Hid (TreeAt Any (w8.alloc (.cells #[.slice pp8 oT.ps.length pc8, .slice np8 oT.ns.length nc8] 25)) (.agg #[.slice pp8 oT.ps.length pc8, .slice np8 oT.ns.length nc8]) oT) := TreeAt.keep ⟨_, _, rfl, hP8, hN8⟩ (hal.kept _)
      have hu79 := hu8.trans hal
      have HU9 : Hid (Up w4 _) := HU7.out.trans hu79
      have HWN9 := Lib.hid ((HTR7.out.up hu79).no.strs.sub (T := Any) fun _ _ _ => trivial)
      have HC09 := Lib.hid (hu79.cell HC0.out)
      have HC19 := Lib.hid (hu79.cell HC1.out)
      have HTA9 := Lib.hid (HT7.out.keep (hu79.kept _))
      clear hu8 hal hu79 hP8 hN8 HTR7 HRF b0 b1 HC0 HC1 HT7
      go_wp2_with fail
      generalize w8.alloc (.cells #[.slice pp8 oT.ps.length pc8, .slice np8 oT.ns.length nc8] 25) = w9 at *
      refine (HCK.out w9 _ HT9.out).mono ?_
      rintro e w10 ⟨rfl, hu10⟩
      have d0 := hu10.cell HD0.out
      have d1 := hu10.cell HD1.out
      have HU10 := Lib.hid hu10
      clear hu10
      go_wp2_with fail
      refine (HNM.out w10 _ (HT9.out.keep (HU10.out.kept _))).mono ?_
      rintro e w11 ⟨hu11, v11, rfl, hs11⟩
      have HU11 := Lib.hid (HU10.out.trans hu11)
      have HS11 := Lib.hid hs11
      clear hu11 hs11 d0 d1
      go_wp2_with fail
      refine (HEQ.out w11 _ _ HS11.out (HWN9.out.keep (HU11.out.kept _))).mono ?_
      rintro e w12 ⟨rfl, n12, rfl⟩
      have HU12 : Hid (Up w9 (w11.drewN n12)) := HU11.out.trans (Up.drewN w11 n12)
      have HWN12 := Lib.hid (HWN9.out.keep (HU12.out.kept _))
      clear HS11 HU11 HWN9 HU10
      generalize w11.drewN n12 = w12 at *
      go_wp2_with fail
      obtain ⟨SN, hSN⟩ : ∃ l, l = sortS (nmsL t.ns S2) := ⟨_, rfl⟩
      rw [← hSN] at HWN12 HRR HWL
      clear hSN HEQ HNM HCK
      rw [← HWL.out] at HL2
      have HWLn : Hid ((nmsL t.ns S2).length = SN.length) := by unfold Hid nmsL; rw [List.length_map, HWL.out]
      go_loopw [18, 20, 133] (fun d _ i wr => ∃ k : Nat, k ≤ SN.length ∧ i = .int .i64 k ∧ Hid (Up w12 wr) ∧ Hid (Owns w12.heap.size 3 wr d (((SN.map (fdN aT.ns)).take k).map (Value.int .i64)))) (fun _ _ i _ => SN.length - (intOf i).toNat)
      case atStart => exact ⟨0, Nat.zero_le _, rfl, Up.refl _, Owns.nil _ _ _⟩
      case round =>
        obtain ⟨k, hk, rfl, hur, hD⟩ := hrel
        obtain ⟨wo, rfl⟩ : ∃ wo : World, wo = wr := ⟨_, rfl⟩
        by_cases hlt : k < SN.length
        · obtain ⟨b2, off, rfl, hcell⟩ := strs_get (StrsAt.keep HWN12.out (hur.out.kept _)) hlt
          have i1 : (0 : Int) ≤ (k : Int) := Int.natCast_nonneg _
          have i2 : (k : Int) < ((nmsL t.ns S2).length : Int) := by rw [HWLn.out]; exact Int.ofNat_lt.2 hlt
          have i3 : (k : Int) < 64 := lt64 hlt HL2.out
          have c0 := (HU12.out.trans hur.out).cell HC09.out
          have c1 := (HU12.out.trans hur.out).cell HC19.out
          have HTAo := Lib.hid (HTA9.out.keep ((HU12.out.trans hur.out).kept _))
          have HK : Hid (k + 1 ≤ SN.length ∧ SN.length ≤ 16) := ⟨hlt, HL2.out⟩
          have HTK : Hid ((SN.map (fdN aT.ns)).take (k + 1) = (SN.map (fdN aT.ns)).take k ++ [fdN aT.ns (gs SN k)]) := by
            unfold Hid
            rw [List.take_succ_eq_append_getElem (by rw [List.length_map]; exact hlt), List.getElem_map]
            simp [gs, hlt]
          have HTL : Hid ((((SN.map (fdN aT.ns)).take k).map (Value.int .i64)).length = k) := by unfold Hid; simp; omega
          have HUR := Lib.hid hur.out
          have HDD := Lib.hid hD.out
          clear hur hD hlt hk
          generalize gs SN k = s at *
          go_wp2_with fail
          refine (HFI.out wo _ _ HTAo.out).mono ?_
          rintro e w13 ⟨rfl, hu13⟩
          have HUE := Lib.hid (HUR.out.trans hu13)
          have HDE := Lib.hid (HDD.out.same2 fun b hb => Below.block hu13 b (ownBlock_lt HDD.out hb).2)
          have HSZ : Hid (k ≤ 1000000 ∧ w12.heap.size ≤ w13.heap.size) := ⟨by have := HK.out; omega, HUE.out.size⟩
          clear hu13 c0 c1 hcell
          go_wp2_with (at_builtin; refine wpList_appM w13 rfl _ _ 22 rfl w12.heap.size 3 (.int .i64 0) 8 Tryz.underlying22 Tryz.infoI rfl (by decide) HDE.out rfl (.int .i64 (fdN aT.ns s)) _ rfl rfl rfl _ HTL.out HSZ.out.1 HSZ.out.2 ?_; intro g8 cap8 w14 hown1 hgr1 hbe1)
          go_roundw
          case rel => exact ⟨k + 1, HK.out.1, by have := HK.out; go_num, Below.trans HUE.out hbe1, by unfold Hid; rw [HTK.out, List.map_append]; exact hown1⟩
          case measure => have := HK.out; simp [intOf]; omega
        · have hkM : k = SN.length := Nat.le_antisymm hk (Nat.le_of_not_lt hlt)
          have hD2 : Owns w12.heap.size 3 wo u18 ((SN.map (fdN aT.ns)).map (Value.int .i64)) := by
            have h := hD.out
            rw [List.take_of_length_le (by rw [List.length_map, hkM]; exact Nat.le_refl _)] at h
            exact h
          have hlen : (SN.map (fdN aT.ns)).length = k := by rw [List.length_map, hkM]
          have hle : (SN.map (fdN aT.ns)).length ≤ 1000000 := by rw [List.length_map]; exact Nat.le_trans HL2.out (by decide)
          have hkn : (nmsL t.ns S2).length = k := by rw [HWLn.out, hkM]
          obtain ⟨rp, rcp, rfl, _⟩ := hD2.form (n := k) (by rw [List.length_map]; exact hlen)
          have HSO2 := Lib.hid (sort_t w12 wo _ _ hur.out hD2 hle)
          have HUW := Lib.hid hur.out
          clear hD hD2 hur hlt hk hle hlen
          rw [hkn]
          clear hkn hkM HWLn
          go_wp2_with fail
          refine HSO2.out.mono ?_
          rintro e w13 ⟨rfl, hu13, ho13⟩
          have HUE := Lib.hid hu13
          have HO13 := Lib.hid (ho13.ints.sub (T := Any) fun _ _ _ => trivial)
          have c0 := (HU12.out.trans HUE.out).cell HC09.out
          have c1 := (HU12.out.trans HUE.out).cell HC19.out
          clear hu13 ho13 HSO2
          go_wp2_with fail
          refine (HRR.out w13 _ _ (HTA9.out.keep ((HU12.out.trans HUE.out).kept _)) HO13.out).mono ?_
          rintro e w14 ⟨hu14, v14, rfl, ht14⟩
          obtain ⟨P14, N14, rfl, hP14, hN14⟩ := ht14
          obtain ⟨pp14, pc14, rfl, -, -⟩ := SlAt.open hP14
          obtain ⟨np14, nc14, rfl, -, -⟩ := SlAt.open hN14
          have hP14 : IntsAt Any w14 (.slice pp14 oT.ps.length pc14) oT.ps := hP14
          have hN14 : StrsAt Any w14 (.slice np14 oT.ns.length nc14) oT.ns := hN14
          have hal := Up.alloc w14 (.cells #[.slice pp14 oT.ps.length pc14, .slice np14 oT.ns.length nc14] 25)
          have b0 := box2_0 w14 (.slice pp14 oT.ps.length pc14) (.slice np14 oT.ns.length nc14) 25
          have b1 := box2_1 w14 (.slice pp14 oT.ps.length pc14) (.slice np14 oT.ns.length nc14) 25
          have HT15 : Hid (TreeAt Any (w14.alloc (.cells #[.slice pp14 oT.ps.length pc14, .slice np14 oT.ns.length nc14] 25)) (.agg #[.slice pp14 oT.ps.length pc14, .slice np14 oT.ns.length nc14]) oT) := TreeAt.keep ⟨_, _, rfl, hP14, hN14⟩ (hal.kept _)
          have HU15 : Hid (Up w9 _) := (HU12.out.trans HUE.out).trans (hu14.trans hal)
          have d0 := HU15.out.cell HD0.out
          have d1 := HU15.out.cell HD1.out
          clear hu14 hal hP14 hN14 c0 c1 HRR HUE HO13
          go_wp2_with fail
          generalize w14.alloc (.cells #[.slice pp14 oT.ps.length pc14, .slice np14 oT.ns.length nc14] 25) = w15 at *
          refine (HST.out w15 _ _ (HT9.out.keep (HU15.out.kept _)) HT15.out).mono ?_
          rintro e w16 ⟨rfl, hu16⟩
          have HU16 := Lib.hid (HU15.out.trans hu16)
          have d0 := HU16.out.cell HD0.out
          have d1 := HU16.out.cell HD1.out
          have HP16 := Lib.hid (IntsAt.keep HPO.out (HU16.out.kept _))
          have HNV : Hid (oT.ps.length ≤ 64) := HO64.out
          clear hu16 b0 b1 HST HT15
          go_wp2_with fail
          clear d1
          go_loop [23, 24, 26, 163] (fun _ _ _ i => ∃ k : Nat, k ≤ oT.ps.length ∧ i = .int .i64 k) (fun _ _ _ i => oT.ps.length - (intOf i).toNat)
          case atStart => exact ⟨0, Nat.zero_le _, rfl⟩
          case round =>
            obtain ⟨k, hk, rfl⟩ := hrel
            have d0 := HU16.out.cell HD0.out
            by_cases hlt : k < oT.ps.length
            · have HNE := Lib.hid (HKD.out k hlt)
              have i1 : (0 : Int) ≤ (k : Int) := by omega
              have i2 : (k : Int) < (oT.ps.length : Int) := by omega
              have i3 : (k : Int) < 64 := by have := HNV.out; omega
              go_wp2_with fail
              go_loop [24, 26, 169] (fun c _ i => ∃ j : Nat, j ≤ oT.ps.length ∧ i = .int .i64 j ∧ c = .int .i64 (cntI oT.ps k j)) (fun _ _ i => oT.ps.length - (intOf i).toNat)
              case atStart => exact ⟨0, Nat.zero_le _, rfl, rfl⟩
              case round =>
                obtain ⟨j, hj, rfl, rfl⟩ := hrel
                have HCS : Hid (cntI oT.ps k (j + 1) = if gi oT.ps j = k then cntI oT.ps k j + 1 else cntI oT.ps k j) := rfl
                have hcj := cntI_le31 oT.ps k j
                by_cases hjl : j < oT.ps.length
                · obtain ⟨b, off, rfl, hcell⟩ := ints_get HP16.out hjl
                  have j1 : (0 : Int) ≤ (j : Int) := by omega
                  have j2 : (j : Int) < (oT.ps.length : Int) := by omega
                  have j3 : (j : Int) < 64 := by have := HNV.out; omega
                  have hcb : (cntI oT.ps k j : Int) < 64 := by omega
                  generalize gi oT.ps j = x at *
                  by_cases e : x = k
                  · have d1 : (x == (k : Int)) = true := by simpa using e
                    have HF : Hid (cntI oT.ps k (j + 1) = cntI oT.ps k j + 1) := by unfold Hid; rw [HCS.out, if_pos e]
                    clear e
                    go_wp2_with fail
                    go_round
                    case rel => exact ⟨j + 1, by omega, by go_num, by rw [HF.out]; go_num⟩
                    case measure => simp [intOf]; omega
                  · have d1 : (x == (k : Int)) = false := by simpa using e
                    have HF : Hid (cntI oT.ps k (j + 1) = cntI oT.ps k j) := by unfold Hid; rw [HCS.out, if_neg e]
                    clear e
                    go_wp2_with fail
                    go_round
                    case rel => exact ⟨j + 1, by omega, by go_num, by rw [HF.out]⟩
                    case measure => simp [intOf]; omega
                · obtain rfl : j = oT.ps.length := by omega
                  have hne := HNE.out
                  have d1 : ((cntI oT.ps k oT.ps.length : Int) == 1) = false := by simp; omega
                  go_wp2_with fail
                  go_round
                  case rel => exact ⟨k + 1, by omega, by go_num⟩
                  case measure => simp [intOf]; omega
            · obtain rfl : k = oT.ps.length := by omega
              go_wp2_with fail
              refine (HAW.out _).mono ?_
              rintro e w17 ⟨rfl, hu17⟩
              go_wp2_with fail
              go_ret
              exact ⟨rfl, HU.out.trans (HU4.out.trans (HU9.out.trans (HU16.out.trans hu17)))⟩
end Go.Proofs.YtcaialhoclodjaaGreat
