/- The walk of ParsimonyRoots. -/
import Derived.Test.YtcaialhoclodjaaQ30
import Derived.Test.YtcaialhoclodjaaQ24
namespace Go.Proofs.Ytcaialhoclodjaa
open Go.RowKit Go.Deep
theorem owns_at {base : Nat} {e : TypeId} {w w' : World} {v : Value} {vs : List Value} (h : Owns base e w v vs) (k : ∀ b, v.ownBlock = some b → w'.heap[b]? = w.heap[b]?) : Owns base e w' v vs := by
  obtain ⟨hl, h | ⟨g, cap, cur, rfl, hg, hc, hr⟩⟩ := h
  · exact ⟨hl, .inl h⟩
  · exact ⟨hl, .inr ⟨g, cap, cur, rfl, hg, by rw [k g rfl]; exact hc, hr⟩⟩
/-- No test of the law's first loops finds anything. -/
def GoodC (cs : List (List Int)) (a b : Nat) : Prop := costF cs b a = costF cs a b ∧ ∀ z, z < cs.length → costF cs a b ≤ costF cs a z + costF cs z b
theorem metr_of {cs : List (List Int)} (hm : matErr cs = 0) (h : ∀ a b, a < cs.length → b < cs.length → GoodC cs a b) : Metr cs.length (costF cs) := by
  obtain ⟨_, _, _, m4, m5⟩ := matErr_zero hm
  exact ⟨fun a b _ _ => (m4 a b).1, fun a ha => m5 a ha, fun a b ha hb => (h a b ha hb).1.symm, fun a b c ha hb hc => (h a c ha hc).2 b hb⟩
/-- The rows of a square table in memory. -/
theorem rows_cells {w : World} {vc : Value} {cs : List (List Int)} (h : RowsAt Any w vc cs) (h0 : 0 < cs.length) (hl : ∀ a, a < cs.length → (gl cs a).length = cs.length) :
    ∃ cb co cc, vc = .slice (some ⟨cb, co, none⟩) cs.length cc ∧ ∀ a, a < cs.length → ∃ q o c, w.cell? ⟨cb, co + a, none⟩ = some (.slice (some ⟨q, o, none⟩) cs.length c) ∧ ∀ b, b < cs.length → w.cell? ⟨q, o + b, none⟩ = some (.int .i64 (costF cs a b)) := by
  obtain ⟨p, cc, rfl, _, H⟩ := rows_open h
  obtain ⟨cb, co, q0, c0, rfl, _, _⟩ := H 0 h0
  refine ⟨cb, co, cc, rfl, fun a ha => ?_⟩
  obtain ⟨b2, o2, q, c, e, hc, hi⟩ := H a ha
  cases e
  obtain ⟨q2, o, e, _⟩ := ints_get hi (k := 0) (by rw [hl a ha]; exact h0)
  subst e
  rw [hl a ha] at hc hi
  exact ⟨q2, o, c, hc, fun b hb => ints_get' hi (by rw [hl a ha]; exact hb)⟩
set_option maxRecDepth 100000 in
set_option maxHeartbeats 16000000 in
theorem roots_law (w : World) (v vs vc : Value) (t : Tre) (st : List Int) (cs : List (List Int)) (x : Int) (hT : TreeAt Any w v t) (hS : IntsAt Any w vs st) (hC : RowsAt Any w vc cs) (hz : Big t st cs) (hx0 : 0 ≤ x) (hx1 : x ≤ 255) :
    Calls Try.prog 3 #[v, vs, vc, .int .u8 x] w fun e w' => e = .returned (.bool true) ∧ Up w w' := by
  obtain ⟨P, N, rfl, hP, hN⟩ := hT
  obtain ⟨pp, pc, rfl, -, -⟩ := SlAt.open hP
  obtain ⟨np, nc, rfl, -, -⟩ := SlAt.open hN
  have hP : IntsAt Any w (.slice pp t.ps.length pc) t.ps := hP
  have hN : StrsAt Any w (.slice np t.ns.length nc) t.ns := hN
  have HT0 : Hid (TreeAt Any w (.agg #[.slice pp t.ps.length pc, .slice np t.ns.length nc]) t) := ⟨_, _, rfl, hP, hN⟩
  have HF : Hid (∀ W, Up w W → Calls Try.prog 9 #[.agg #[.slice pp t.ps.length pc, .slice np t.ns.length nc], vs, vc] W fun e w' => e = .returned (.bool (fineB t st cs)) ∧ Up W w') := fun W hW => fine_t Any W _ _ _ t st cs (HT0.out.keep (hW.kept _)) (IntsAt.keep hS (hW.kept _)) (hC.keep (hW.kept _)) hz
  have HAW : Hid (∀ w : World, Calls Try.prog 10 #[] w fun e w' => e = .returned (.bool true) ∧ Up w w') := fun w => awake_t w
  have hu := Up.alloc w (.cells #[.slice pp t.ps.length pc, .slice np t.ns.length nc] 25)
  have b0 := box2_0 w (.slice pp t.ps.length pc) (.slice np t.ns.length nc) 25
  have b1 := box2_1 w (.slice pp t.ps.length pc) (.slice np t.ns.length nc) 25
  have HU := Lib.hid hu
  have HB0 := Lib.hid b0
  have HB1 := Lib.hid b1
  clear hP hu hz
  cases hf : fineB t st cs
  · rw [hf] at HF
    obtain ⟨qS, capS, rfl, -, -⟩ := SlAt.open hS
    obtain ⟨qC, capC, rfl, -, -⟩ := rows_open hC
    clear hf hN hS hC
    go_enter Try.func3, Try.ntmps3
    go_wp2_with (first | (go_at_call 9; refine (HF.out _ HU.out).mono ?_; rintro e w1 ⟨rfl, hu1⟩) | (go_at_call 10; refine (HAW.out _).mono ?_; rintro e w' ⟨rfl, hu⟩) | fail)
    go_ret
    exact ⟨rfl, HU.out.trans (hu1.trans hu)⟩
  obtain ⟨hg, hv⟩ := fine_sized hf
  obtain ⟨hsz, h12, hn14, _, hc18, _, _⟩ := great_sized hg
  rw [hf] at HF
  have he := hv.tree
  obtain ⟨_, _, hl, hok, _⟩ := treeErr_zero he
  obtain ⟨m1, m2, m3, m4, _⟩ := matErr_zero hv.mat
  have hm0 : 0 < (leavesL t.ns).length := by
    obtain ⟨q, hq⟩ := (good_toR he).meet (subR_self _)
    have h1 := List.length_pos_of_mem hq
    rw [lvs_count, ← (leafs_perm he).length_eq]; exact h1
  obtain ⟨c, rfl⟩ := Int.eq_ofNat_of_zero_le hx0
  obtain ⟨ia, hia⟩ : ∃ a, a = c % (leavesL t.ns).length := ⟨_, rfl⟩
  have hial : ia < (leavesL t.ns).length := by rw [hia]; exact Nat.mod_lt _ hm0
  obtain ⟨la, hla, hla1, hla2⟩ := leaf_nat hial
  have hA : LeafOk t la := ⟨he, by omega, hla2⟩
  have hml : (leavesL t.ns).length ≤ 14 := by have := leavesL_len t.ns; omega
  obtain ⟨nb, no, rfl, hca⟩ := strs_get hN hla1
  have hse : (c : Int).tmod ((leavesL t.ns).length : Int) = (ia : Int) := by rw [Int.tmod_eq_emod_of_nonneg (by omega), hia]; push_cast; rfl
  have hse2 : (c : Int) % ((leavesL t.ns).length : Int) = (ia : Int) := by rw [hia]; push_cast; rfl
  obtain ⟨xt1, xt2, xt3⟩ := rr_ok_t hA (by omega)
  have HSM := Lib.hid (tree_small he)
  have HSX := Lib.hid (tree_small xt1)
  have hxs := rrQ_size hA
  obtain ⟨_, _, hxl, hxok, _⟩ := treeErr_zero xt1
  have hxp : (flat (rrQt t la)).ps.length ≤ 13 := by rw [flat_ps]; omega
  have hxlv : (leavesL (flat (rrQt t la)).ns).length = (leavesL t.ns).length := by rw [lvs_count, lvs_count]; exact (rrx_names hA).length_eq
  have HLV : Hid (∀ W, Up w W → Calls Try.prog 11 #[.agg #[.slice pp t.ps.length pc, .slice (some ⟨nb, no, none⟩) t.ns.length nc]] W fun e w' => Up W w' ∧ ∃ v, e = .returned (.tuple #[v, .int .i64 0]) ∧ IntsAt Any w' v (leavesL t.ns)) := fun W hW => by
    refine (leaves_t Any W _ t (HT0.out.keep (hW.kept _)) (by omega) (by omega) HSM.out).mono ?_
    rintro e w' ⟨h1, ⟨h2, _⟩ | ⟨_, u, rfl, h3⟩⟩
    · exact absurd he h2
    · exact ⟨h1, u, rfl, h3.sub fun _ _ _ => trivial⟩
  have HLX : Hid (∀ W v, TreeAt Any W v (flat (rrQt t la)) → Calls Try.prog 11 #[v] W fun e w' => Up W w' ∧ ∃ v, e = .returned (.tuple #[v, .int .i64 0]) ∧ IntsAt Any w' v (leavesL (flat (rrQt t la)).ns)) := fun W v hv => by
    refine (leaves_t Any W _ (flat (rrQt t la)) hv (by omega) (by omega) HSX.out).mono ?_
    rintro e w' ⟨h1, ⟨h2, _⟩ | ⟨_, u, rfl, h3⟩⟩
    · exact absurd xt1 h2
    · exact ⟨h1, u, rfl, h3.sub fun _ _ _ => trivial⟩
  have HRA : Hid (∀ W, Up w W → Calls Try.prog 12 #[.agg #[.slice pp t.ps.length pc, .slice (some ⟨nb, no, none⟩) t.ns.length nc], .int .i64 la] W fun e w' => Up W w' ∧ ∃ v, e = .returned (.tuple #[v, .int .i64 0]) ∧ TreeAt Any w' v (flat (rrQt t la))) := fun W hW => by
    refine (reroot_t Any W _ t la (HT0.out.keep (hW.kept _)) (by omega) (by omega) HSM.out).mono ?_
    rintro e w' ⟨h1, v, rfl, h2⟩
    rw [xt3] at h2
    exact ⟨h1, v, by rw [xt2], h2⟩
  have HSC : Hid (∀ W, Up w W → Calls Try.prog 18 #[.agg #[.slice pp t.ps.length pc, .slice (some ⟨nb, no, none⟩) t.ns.length nc], vs, vc] W fun e w' => Up W w' ∧ e = .returned (.tuple #[.int .i64 (scoreN t st cs), .int .i64 0])) := fun W hW => by
    refine (score_t Any W _ _ _ t st cs (HT0.out.keep (hW.kept _)) (IntsAt.keep hS (hW.kept _)) (hC.keep (hW.kept _)) hsz).mono ?_
    rintro e w' ⟨h1, rfl⟩
    exact ⟨h1, by rw [hv.par]⟩
  have HSU : Hid (Metr cs.length (costF cs) → ∀ W v u, Up w W → TreeAt Any W v (flat (rrQt t la)) → IntsAt Any W u (mvL t (flat (rrQt t la)) st) → Calls Try.prog 18 #[v, u, vc] W fun e w' => Up W w' ∧ e = .returned (.tuple #[.int .i64 (scoreN t st cs), .int .i64 0])) := fun M W v u hW hv1 hu1 => by
    obtain ⟨r1, r2⟩ := rr_score hv M hA (by omega) (u := flat (rrQt t la)) rfl
    have hml2 : (mvL t (flat (rrQt t la)) st).length ≤ 1000000 := by unfold mvL; rw [mvK_len]; omega
    refine (score_t Any W v u _ (flat (rrQt t la)) (mvL t (flat (rrQt t la)) st) cs hv1 hu1 (hC.keep (hW.kept _)) ⟨by omega, by omega, HSX.out, hml2, hsz.2.2.2.2.1, hsz.2.2.2.2.2⟩).mono ?_
    rintro e w' ⟨h1, rfl⟩
    exact ⟨h1, by rw [r2, r1.par]⟩
  have HMET : Hid ((∀ a b, a < cs.length → b < cs.length → GoodC cs a b) → Metr cs.length (costF cs)) := metr_of hv.mat
  have HMX : Hid (∀ i, i < (leavesL (flat (rrQt t la)).ns).length → ∃ k j : Nat, gi (leavesL (flat (rrQt t la)).ns) i = (k : Int) ∧ k < (flat (rrQt t la)).ns.length ∧ mvIx t (flat (rrQt t la)) k = (j : Int) ∧ j < (leavesL t.ns).length) := fun i hi => by
    obtain ⟨k, h1, h2, h3⟩ := leaf_nat hi
    obtain ⟨q, q1, q2, q3, q4⟩ := mv_at he xt1 (rrx_names hA) (i := k) ⟨xt1, by omega, h3⟩
    obtain ⟨j, hj⟩ := Int.eq_ofNat_of_zero_le q4
    refine ⟨k, j, h1, h2, hj, ?_⟩
    obtain ⟨h5, _⟩ := firstIx_spec hj
    exact h5
  have HGI : Hid (∀ (L : List Int) W v, IntsAt Any W v L → ∃ lp lc, v = .slice lp L.length lc ∧ ∀ k, k < L.length → ∃ b off, lp = some ⟨b, off, none⟩ ∧ W.cell? ⟨b, off + k, none⟩ = some (.int .i64 (gi L k))) := fun L W v h => by
    obtain ⟨lp, lc, rfl, _, hc⟩ := SlAt.open h
    exact ⟨lp, lc, rfl, hc⟩
  have HLN2 : Hid (∀ i, i < (leavesL t.ns).length → ∃ k : Nat, gi (leavesL t.ns) i = (k : Int) ∧ k < t.ns.length) := fun i hi => by
    obtain ⟨k, h1, h2, _⟩ := leaf_nat hi
    exact ⟨k, h1, h2⟩
  obtain ⟨cb, co, cc, rfl, hrows⟩ := rows_cells hC m1 m3
  have hsl := hv.len
  obtain ⟨sp, sc, rfl, -, hscells⟩ := SlAt.open hS
  have HSC0 := Lib.hid hscells
  have HROWS := Lib.hid hrows
  have HN0 := Lib.hid hN
  have HLA := Lib.hid hla
  have HCB : Hid (∀ a b, 0 ≤ costF cs a b ∧ costF cs a b ≤ 1000) := fun a b => m4 a b
  have HM : Hid (cs.length ≤ 18) := hc18
  have HL12 : Hid (t.ns.length ≤ 14 ∧ (flat (rrQt t la)).ns.length ≤ 13 ∧ (leavesL t.ns).length ≤ 14) := ⟨hn14, by omega, hml⟩
  have HST : Hid ((leavesL (flat (rrQt t la)).ns).length = (leavesL t.ns).length ∧ st.length = (leavesL t.ns).length) := ⟨hxlv, hsl⟩
  have HM0 : Hid (0 < cs.length) := m1
  clear hrows hN hS hC hca hla hl hok hg hv hsz h12 hn14 hc18 m1 m2 m3 m4 xt1 xt2 xt3 hxs hxl hxok hxp he hA hf hscells hml hxlv hsl hia hla1 hla2
  go_enter Try.func3, Try.ntmps3
  go_wp2_with fail
  generalize w.alloc (.cells #[.slice pp t.ps.length pc, .slice (some ⟨nb, no, none⟩) t.ns.length nc] 25) = w1 at *
  refine (HF.out w1 HU.out).mono ?_
  rintro e w2 ⟨rfl, hu2⟩
  have HU2 := Lib.hid (HU.out.trans hu2)
  have HB02 := Lib.hid (hu2.cell HB0.out)
  have HB12 := Lib.hid (hu2.cell HB1.out)
  have HRW2 : Hid (∀ m a, a < cs.length → ∃ q o c, (w2.drewN m).cell? ⟨cb, co + a, none⟩ = some (.slice (some ⟨q, o, none⟩) cs.length c) ∧ ∀ b, b < cs.length → (w2.drewN m).cell? ⟨q, o + b, none⟩ = some (.int .i64 (costF cs a b))) := fun m a ha => by
    obtain ⟨q, o, c, h1, h2⟩ := HROWS.out a ha
    have hu := HU2.out.trans (Up.drewN w2 m)
    exact ⟨q, o, c, hu.cell h1, fun b hb => hu.cell (h2 b hb)⟩
  clear hu2 HF HB0 HB1 b0 b1 HU HROWS
  have M18 : (cs.length : Int) ≤ 18 := by have := HM.out; omega
  go_wp2_with fail
  go_loopw [9, 10, 11, 12, 13, 36] (fun _ _ _ _ _ i wr => ∃ a : Nat, a ≤ cs.length ∧ i = .int .i64 a ∧ Hid (∀ a', a' < a → ∀ b, b < cs.length → GoodC cs a' b) ∧ Hid (∃ m, wr = w2.drewN m)) (fun _ _ _ _ _ i _ => cs.length - (intOf i).toNat)
  case atStart => exact ⟨0, Nat.zero_le _, rfl, fun a ha => absurd ha (Nat.not_lt_zero _), 0, rfl⟩
  case round =>
    obtain ⟨a, ha, rfl, HG1, hm⟩ := hrel
    obtain ⟨m1, rfl⟩ := hm.out
    clear hm
    by_cases halt : a < cs.length
    · obtain ⟨qa, oa, ca, hca, hra⟩ := HRW2.out m1 a halt
      have HRA : Hid (∀ m b, b < cs.length → (w2.drewN m).cell? ⟨qa, oa + b, none⟩ = some (.int .i64 (costF cs a b))) := fun m b hb => by
        have h1 := hra b hb
        have h2 : ∀ m, (w2.drewN m).cell? ⟨qa, oa + b, none⟩ = w2.cell? ⟨qa, oa + b, none⟩ := fun m => rfl
        rw [h2] at h1 ⊢; exact h1
      have a1 : (0 : Int) ≤ (a : Int) := by omega
      have a2 : (a : Int) < (cs.length : Int) := by omega
      have a3 : (a : Int) < 64 := by omega
      clear hra
      go_wp2_with fail
      clear hca
      go_loopw [11, 12, 13, 43] (fun _ _ _ i wr => ∃ b : Nat, b ≤ cs.length ∧ i = .int .i64 b ∧ Hid (∀ b', b' < b → GoodC cs a b') ∧ Hid (∃ m, wr = w2.drewN m)) (fun _ _ _ i _ => cs.length - (intOf i).toNat)
      case atStart => exact ⟨0, Nat.zero_le _, rfl, fun a ha => absurd ha (Nat.not_lt_zero _), m1, rfl⟩
      case round =>
        obtain ⟨b, hb, rfl, HG2, hm⟩ := hrel
        obtain ⟨m2, rfl⟩ := hm.out
        clear hm
        by_cases hblt : b < cs.length
        · have hcc := HRA.out m2 b hblt
          obtain ⟨qb, ob, cb2, hcb, hrb⟩ := HRW2.out m2 b hblt
          have hcd := hrb a halt
          have b1 : (0 : Int) ≤ (b : Int) := by omega
          have b2 : (b : Int) < (cs.length : Int) := by omega
          have b3 : (b : Int) < 64 := by omega
          have HAB := Lib.hid (HCB.out a b)
          clear hrb
          generalize hx : costF cs a b = x at *
          generalize hy : costF cs b a = y at *
          have HXY : Hid (costF cs a b = x ∧ costF cs b a = y) := ⟨hx, hy⟩
          clear hx hy
          by_cases e : y = x
          · have d1 : (y == x) = true := by simpa using e
            have d2 : (y != x) = false := by simpa using e
            have HE := Lib.hid e
            clear e
            go_wp2_with fail
            clear hcc hcb hcd d1 d2
            go_loopw [13, 60] (fun _ i wr => ∃ z : Nat, z ≤ cs.length ∧ i = .int .i64 z ∧ Hid (∀ z', z' < z → costF cs a b ≤ costF cs a z' + costF cs z' b) ∧ Hid (∃ m, wr = w2.drewN m)) (fun _ i _ => cs.length - (intOf i).toNat)
            case atStart => exact ⟨0, Nat.zero_le _, rfl, fun a ha => absurd ha (Nat.not_lt_zero _), m2, rfl⟩
            case round =>
              obtain ⟨z, hz, rfl, HG3, hm⟩ := hrel
              obtain ⟨m3, hwq⟩ := hm.out
              obtain ⟨wq, rfl⟩ : ∃ wq : World, wq = wr := ⟨_, rfl⟩
              have HWQ := Lib.hid hwq
              clear hm
              by_cases hzlt : z < cs.length
              · have hcz := HRA.out m3 z hzlt
                obtain ⟨qz, oz, cz, hcq, hrz⟩ := HRW2.out m3 z hzlt
                have hcw := hrz b hblt
                rw [← hwq] at hcz hcq hcw
                have HUQ : Hid (Up w2 wq) := by unfold Hid; rw [hwq]; exact Up.drewN _ _
                clear hwq
                have z1 : (0 : Int) ≤ (z : Int) := by omega
                have z2 : (z : Int) < (cs.length : Int) := by omega
                have z3 : (z : Int) < 64 := by omega
                have HAZ := Lib.hid (HCB.out a z)
                have HZB := Lib.hid (HCB.out z b)
                clear hrz
                have HSUM : Hid (∀ u v : Int, costF cs a z = u → costF cs z b = v → x ≤ u + v → costF cs a b ≤ costF cs a z + costF cs z b) := fun u v e1 e2 h => by rw [e1, e2, HXY.out.1]; exact h
                generalize hu : costF cs a z = u at *
                generalize hv : costF cs z b = v at *
                have HUV := Lib.hid (HSUM.out u v rfl rfl)
                clear HSUM
                have u0 : 0 ≤ u := HAZ.out.1
                have u1 : u ≤ 1000 := HAZ.out.2
                have v0 : 0 ≤ v := HZB.out.1
                have v1 : v ≤ 1000 := HZB.out.2
                clear HAZ HZB
                have HHU := Lib.hid hu
                have HHV := Lib.hid hv
                clear hu hv
                by_cases e : u + v < x
                · have d1 : decide (u + v < x) = true := decide_eq_true e
                  go_wp2_with fail
                  go_big_quiet (fail)
                  go_wp2_with fail
                  refine (HAW.out _).mono ?_
                  rintro e w' ⟨rfl, hu⟩
                  go_wp2_with fail
                  go_ret
                  exact ⟨rfl, (HU2.out.trans (HUQ.out.trans (Up.drewN _ _))).trans hu⟩
                · have d1 : decide (u + v < x) = false := decide_eq_false e
                  have HG4 : Hid (∀ z', z' < z + 1 → costF cs a b ≤ costF cs a z' + costF cs z' b) := fun z' hz' => by
                    by_cases e2 : z' = z
                    · subst e2; rw [HHU.out, HHV.out]; exact HUV.out (by omega)
                    · exact HG3.out z' (by omega)
                  clear e
                  go_wp2_with fail
                  go_big_quiet (fail)
                  go_wp2_with fail
                  go_roundw
                  case rel => exact ⟨z + 1, by omega, by go_num, HG4, m3 + nq, by rw [HWQ.out, World.drewN_drewN]⟩
                  case measure => simp [intOf]; omega
              · obtain rfl : z = cs.length := by omega
                have HG4 : Hid (∀ b', b' < b + 1 → GoodC cs a b') := fun b' hb' => by
                  by_cases e2 : b' = b
                  · subst e2; exact ⟨by rw [HXY.out.1, HXY.out.2]; exact HE.out, fun z hz => HG3.out z hz⟩
                  · exact HG2.out b' (by omega)
                clear hwq
                go_wp2_with fail
                go_roundw
                case rel => exact ⟨b + 1, by omega, by go_num, HG4, m3, HWQ.out⟩
                case measure => simp [intOf]; omega
          · have d1 : (y == x) = false := by simpa using e
            have d2 : (y != x) = true := by simpa using e
            clear e
            go_wp2_with fail
            refine (HAW.out _).mono ?_
            rintro e w' ⟨rfl, hu⟩
            go_wp2_with fail
            go_ret
            exact ⟨rfl, (HU2.out.trans (Up.drewN _ _)).trans hu⟩
        · obtain rfl : b = cs.length := by omega
          have HG4 : Hid (∀ a', a' < a + 1 → ∀ b, b < cs.length → GoodC cs a' b) := fun a' ha' b hb => by
            by_cases e2 : a' = a
            · subst e2; exact HG2.out b hb
            · exact HG1.out a' (by omega) b hb
          go_wp2_with fail
          go_roundw
          case rel => exact ⟨a + 1, by omega, by go_num, HG4, m2, rfl⟩
          case measure => simp [intOf]; omega
    · obtain rfl : a = cs.length := by omega
      have HME := Lib.hid (HMET.out fun a b ha hb => HG1.out a ha b hb)
      have HSU := Lib.hid (HSU.out HME.out)
      have HU3 := Lib.hid (HU2.out.trans (Up.drewN w2 m1))
      have HB03 := Lib.hid ((Up.drewN w2 m1).cell HB02.out)
      have HB13 := Lib.hid ((Up.drewN w2 m1).cell HB12.out)
      clear HG1 HME HMET HRW2 HU2 HB02 HB12 HCB halt ha
      generalize w2.drewN m1 = w3 at *
      have q0 : (((leavesL t.ns).length : Int) == (st.length : Int)) = true := by rw [HST.out.2]; simp
      have q1 : (((leavesL t.ns).length : Int) != (st.length : Int)) = false := by rw [HST.out.2]; simp
      have b0 := HB03.out
      have b1 := HB13.out
      go_wp2_with fail
      clear b0 b1
      refine (HLV.out w3 HU3.out).mono ?_
      rintro e w4 ⟨hu4, lv, rfl, hl4⟩
      obtain ⟨lp, lc, rfl, hcells⟩ := HGI.out _ _ _ hl4
      obtain ⟨lbk, lo, rfl, hcia⟩ := hcells _ hial
      rw [HLA.out] at hcia
      have HL4 := Lib.hid hl4
      have HU4 := Lib.hid (HU3.out.trans hu4)
      have b0 := hu4.cell HB03.out
      have b1 := hu4.cell HB13.out
      have HB04 := Lib.hid b0
      have HB14 := Lib.hid b1
      have HC4 := Lib.hid hcia
      have HRA4 : Hid (∀ W, Up w4 W → Calls Try.prog 12 #[.agg #[.slice pp t.ps.length pc, .slice (some ⟨nb, no, none⟩) t.ns.length nc], .int .i64 la] W fun e w' => Up W w' ∧ ∃ v, e = .returned (.tuple #[v, .int .i64 0]) ∧ TreeAt Any w' v (flat (rrQt t la))) := fun W hW => HRA.out W (HU4.out.trans hW)
      have hnz : ((leavesL t.ns).length : Int) ≠ 0 := by omega
      have hne : leavesL t.ns ≠ [] := fun e => by rw [e] at hnz; exact hnz rfl
      have hwc : IntKind.i64.wrap (c : Int) = (c : Int) := by
        unfold IntKind.wrap
        show (if (true && decide ((c : Int) % 18446744073709551616 ≥ 9223372036854775808)) = true then (c : Int) % 18446744073709551616 - 18446744073709551616 else (c : Int) % 18446744073709551616) = c
        rw [if_neg (by simp; omega)]; omega
      have i1 : (0 : Int) ≤ (ia : Int) := Int.natCast_nonneg _
      have i2 : (ia : Int) < ((leavesL t.ns).length : Int) := Int.ofNat_lt.2 hial
      clear hu4 hl4 hcells HRA HLV HB03 HB13 HLA
      go_wp2_with fail
      go_cut [15, 16] from 95 to 107 (fun q p wx => ∃ (b : Nat) (pq : Option Addr) (cq : Nat) (nq : Option Addr) (dq : Nat), p = .pointer (some ⟨b, 0, none⟩) ∧ q = .int .i64 0 ∧ Up w4 wx ∧ wx.heap[b]? = some (Obj.cells #[.slice pq (flat (rrQt t la)).ps.length cq, .slice nq (flat (rrQt t la)).ns.length dq] 25 (0, 0)) ∧ IntsAt Any wx (.slice pq (flat (rrQt t la)).ps.length cq) (flat (rrQt t la)).ps ∧ StrsAt Any wx (.slice nq (flat (rrQt t la)).ns.length dq) (flat (rrQt t la)).ns)
      case first =>
        refine region_T (by kernel_rfl) 16 (fun w' => w'.cell? ⟨w.heap.size, 0, none⟩ = some (.slice pp t.ps.length pc) ∧ w'.cell? ⟨w.heap.size, 1, none⟩ = some (.slice (some ⟨nb, no, none⟩) t.ns.length nc) ∧ w'.cell? ⟨lbk, lo + ia, none⟩ = some (.int .i64 (la : Int))) ⟨HB04.out, HB14.out, HC4.out⟩ (fun hS => ?_)
        simp only [List.size_toArray, List.length_cons, List.length_nil, Nat.reduceAdd, Array.replicate_succ, Array.replicate_zero, List.push_toArray, List.nil_append, List.cons_append]
        have Hr1yr10 : Hid (Up w4 w4.drew) := Up.drewN w4 1
        refine anyT.take (i := 0) (v := ?gv0r1t1) rfl (by kernel_rfl) (fun _ _ _ h => h) (by rfl) (fun w hSw => ?gy0r1t1) hS ?gr0r1t1
        case gy0r1t1 =>
          (try dsimp only at hSw)
          go_simp
          try with_reducible rfl
        try simp only [Act.put, List.setIfInBounds_toArray, List.set_cons_zero, List.set_cons_succ]
        refine anyT.take (i := 1) (v := ?gv1r1t1) rfl (by kernel_rfl) (fun _ _ _ h => h) (by rfl) (fun w hSw => ?gy1r1t1) hS ?gr1r1t1
        case gy1r1t1 =>
          (try dsimp only at hSw)
          go_simp
          try with_reducible rfl
        try simp only [Act.put, List.setIfInBounds_toArray, List.set_cons_zero, List.set_cons_succ]
        refine anyT.take (i := 2) (v := ?gv2r1t1) rfl (by kernel_rfl) (fun _ _ _ h => h) (by rfl) (fun w hSw => ?gy2r1t1) hS ?gr2r1t1
        case gy2r1t1 =>
          (try dsimp only at hSw)
          go_simp
          try with_reducible rfl
        try simp only [Act.put, List.setIfInBounds_toArray, List.set_cons_zero, List.set_cons_succ]
        refine anyT.take (i := 3) (v := ?gv3r1t1) rfl (by kernel_rfl) (fun _ _ _ h => h) (by rfl) (fun w hSw => ?gy3r1t1) hS ?gr3r1t1
        case gy3r1t1 =>
          (try dsimp only at hSw)
          go_simp
          try with_reducible rfl
        try simp only [Act.put, List.setIfInBounds_toArray, List.set_cons_zero, List.set_cons_succ]
        refine anyT.take (i := 4) (v := ?gv4r1t1) rfl (by kernel_rfl) (fun _ _ _ h => h) (by rfl) (fun w hSw => ?gy4r1t1) hS ?gr4r1t1
        case gy4r1t1 =>
          (try dsimp only at hSw)
          go_simp
          try with_reducible rfl
        try simp only [Act.put, List.setIfInBounds_toArray, List.set_cons_zero, List.set_cons_succ]
        refine anyT.take (i := 5) (v := ?gv5r1t1) rfl (by kernel_rfl) (fun _ _ _ h => h) (by rfl) (fun w hSw => ?gy5r1t1) hS ?gr5r1t1
        case gy5r1t1 =>
          (try dsimp only at hSw)
          go_simp
          try with_reducible rfl
        try simp only [Act.put, List.setIfInBounds_toArray, List.set_cons_zero, List.set_cons_succ]
        refine anyT.take (i := 6) (v := ?gv6r1t1) rfl (by kernel_rfl) (fun _ _ _ h => h) (by rfl) (fun w hSw => ?gy6r1t1) hS ?gr6r1t1
        case gy6r1t1 =>
          (try dsimp only at hSw)
          go_simp
          try with_reducible rfl
        try simp only [Act.put, List.setIfInBounds_toArray, List.set_cons_zero, List.set_cons_succ]
        refine anyT.take (i := 7) (v := ?gv7r1t1) rfl (by kernel_rfl) (fun _ _ _ h => h) (by rfl) (fun w hSw => ?gy7r1t1) hS ?gr7r1t1
        case gy7r1t1 =>
          (try dsimp only at hSw)
          go_simp
          try with_reducible rfl
        try simp only [Act.put, List.setIfInBounds_toArray, List.set_cons_zero, List.set_cons_succ]
        refine anyT.take (i := 8) (v := ?gv8r1t1) rfl (by kernel_rfl) (fun _ _ _ h => h) (by rfl) (fun w hSw => ?gy8r1t1) hS ?gr8r1t1
        case gy8r1t1 =>
          (try dsimp only at hSw)
          go_simp
          try with_reducible rfl
        try simp only [Act.put, List.setIfInBounds_toArray, List.set_cons_zero, List.set_cons_succ]
        generalize w4.drew = yr10 at *
        refine anyT.step2 (i := 9) (i2 := 13) rfl rfl (by kernel_rfl) (fun K' hK => ?_) (fun K' hK => ?_)
        · go_simp
          refine (HRA4.out _ Hr1yr10.out).mono ?_
          rintro e yr11 ⟨hux, vx, rfl, htx⟩
          have Hr1yr11 := Lib.hid (Hr1yr10.out.trans hux)
          obtain ⟨Px, Nx, rfl, hPx, hNx⟩ := htx
          obtain ⟨pq, cq, rfl, _, _⟩ := SlAt.open hPx
          obtain ⟨nq, dq, rfl, _, _⟩ := SlAt.open hNx
          have HPr1yr11 : Hid (IntsAt Any yr11 (.slice pq (flat (rrQt t la)).ps.length cq) (flat (rrQt t la)).ps) := hPx
          have HNr1yr11 : Hid (StrsAt Any yr11 (.slice nq (flat (rrQt t la)).ns.length dq) (flat (rrQt t la)).ns) := hNx
          clear hux hPx hNx
          refine hK.out _ _ (fun _ => ⟨Hr1yr11.out.cell HB04.out, Hr1yr11.out.cell HB14.out, Hr1yr11.out.cell HC4.out⟩) (fun hS => ?_)
          try simp only [List.setIfInBounds_toArray, List.set_cons_zero, List.set_cons_succ]
          replace hS := hS ⟨15, by decide, rfl⟩
          refine anyT.take (i := 10) (v := ?gv10r1t2) rfl (by kernel_rfl) (fun _ _ _ h => h) (by rfl) (fun w hSw => ?gy10r1t2) hS ?gr10r1t2
          case gy10r1t2 =>
            (try dsimp only at hSw)
            go_simp
            try with_reducible rfl
          try simp only [Act.put, List.setIfInBounds_toArray, List.set_cons_zero, List.set_cons_succ]
          refine anyT.take (i := 11) (v := ?gv11r1t2) rfl (by kernel_rfl) (fun _ _ _ h => h) (by rfl) (fun w hSw => ?gy11r1t2) hS ?gr11r1t2
          case gy11r1t2 =>
            (try dsimp only at hSw)
            go_simp
            try with_reducible rfl
          try simp only [Act.put, List.setIfInBounds_toArray, List.set_cons_zero, List.set_cons_succ]
          refine anyT.take (i := 12) (v := ?gv12r1t2) rfl (by kernel_rfl) (fun _ _ _ h => h) (by rfl) (fun w hSw => ?gy12r1t2) hS ?gr12r1t2
          case gy12r1t2 =>
            (try dsimp only at hSw)
            go_simp
            try with_reducible rfl
          try simp only [Act.put, List.setIfInBounds_toArray, List.set_cons_zero, List.set_cons_succ]
          refine anyT.step (i := 13) rfl (by kernel_rfl) (fun K' hK => ?_)
          go_simp
          have hux := Up.alloc yr11 (.cells #[.slice none 0 0, .slice none 0 0] 25)
          have hnb := blk_alloc_new yr11 (.cells #[.slice none 0 0, .slice none 0 0] 25)
          generalize yr11.alloc (.cells #[.slice none 0 0, .slice none 0 0] 25) = yr12 at *
          have Hr1yr12 := Lib.hid (Hr1yr11.out.trans hux)
          have HBr1yr12 := Lib.hid hnb
          have HOr1 : Hid (w4.heap.size ≤ yr11.heap.size) := Hr1yr11.out.size
          have HPr1yr12 := Lib.hid (HPr1yr11.out.keep (hux.kept _))
          have HNr1yr12 := Lib.hid (HNr1yr11.out.keep (hux.kept _))
          clear hux hnb
          generalize yr11.heap.size = br1 at *
          refine hK.out _ _ (fun _ => ⟨Hr1yr12.out.cell HB04.out, Hr1yr12.out.cell HB14.out, Hr1yr12.out.cell HC4.out⟩) (fun hS => ?_)
          try simp only [List.setIfInBounds_toArray, List.set_cons_zero, List.set_cons_succ]
          have HFIN := Lib.hid (rr_fin Hr1yr12.out HBr1yr12.out HOr1.out HPr1yr12.out HNr1yr12.out)
          obtain ⟨g1, g2, g3, g4⟩ := boxed HBr1yr12.out
          refine anyT.step (i := 14) rfl (by kernel_rfl) (fun K' hK => ?_)
          go_simp
          refine hK.out _ _ (fun _ => ⟨HFIN.out.1.cell HB04.out, HFIN.out.1.cell HB14.out, HFIN.out.1.cell HC4.out⟩) (fun hS => ?_)
          try simp only [List.setIfInBounds_toArray, List.set_cons_zero, List.set_cons_succ]
          refine anyT.step (i := 15) rfl (by kernel_rfl) (fun K' hK => ?_)
          go_simp
          refine hK.out _ _ (not_more (by kernel_rfl)) (fun hS => ?_)
          refine anyT.done (by kernel_rfl) ?_
          go_wp2_with fail
          go_meet
          case rel => exact ⟨br1, _, _, _, _, rfl, rfl, HFIN.out⟩
        · go_simp
          have hux := Up.alloc yr10 (.cells #[.slice none 0 0, .slice none 0 0] 25)
          have hnb := blk_alloc_new yr10 (.cells #[.slice none 0 0, .slice none 0 0] 25)
          generalize yr10.alloc (.cells #[.slice none 0 0, .slice none 0 0] 25) = yr13 at *
          have Hr1yr13 := Lib.hid (Hr1yr10.out.trans hux)
          have HBr1yr13 := Lib.hid hnb
          have HOr1 : Hid (w4.heap.size ≤ yr10.heap.size) := Hr1yr10.out.size
          clear hux hnb
          generalize yr10.heap.size = br1 at *
          refine hK.out _ _ (fun _ => ⟨Hr1yr13.out.cell HB04.out, Hr1yr13.out.cell HB14.out, Hr1yr13.out.cell HC4.out⟩) (fun hS => ?_)
          try simp only [List.setIfInBounds_toArray, List.set_cons_zero, List.set_cons_succ]
          refine anyT.step (i := 9) rfl (by kernel_rfl) (fun K' hK => ?_)
          go_simp
          refine (HRA4.out _ Hr1yr13.out).mono ?_
          rintro e yr14 ⟨hux, vx, rfl, htx⟩
          have Hr1yr14 := Lib.hid (Hr1yr13.out.trans hux)
          have HBr1yr14 : Hid (yr14.heap[br1]? = some (Obj.cells #[.slice none 0 0, .slice none 0 0] 25 (0, 0))) := (Below.block hux br1 (Array.getElem?_eq_some_iff.1 HBr1yr13.out).1).trans HBr1yr13.out
          obtain ⟨Px, Nx, rfl, hPx, hNx⟩ := htx
          obtain ⟨pq, cq, rfl, _, _⟩ := SlAt.open hPx
          obtain ⟨nq, dq, rfl, _, _⟩ := SlAt.open hNx
          have HPr1yr14 : Hid (IntsAt Any yr14 (.slice pq (flat (rrQt t la)).ps.length cq) (flat (rrQt t la)).ps) := hPx
          have HNr1yr14 : Hid (StrsAt Any yr14 (.slice nq (flat (rrQt t la)).ns.length dq) (flat (rrQt t la)).ns) := hNx
          clear hux hPx hNx
          refine hK.out _ _ (fun _ => ⟨Hr1yr14.out.cell HB04.out, Hr1yr14.out.cell HB14.out, Hr1yr14.out.cell HC4.out⟩) (fun hS => ?_)
          try simp only [List.setIfInBounds_toArray, List.set_cons_zero, List.set_cons_succ]
          replace hS := hS ⟨15, by decide, rfl⟩
          refine anyT.take (i := 10) (v := ?gv10r1t3) rfl (by kernel_rfl) (fun _ _ _ h => h) (by rfl) (fun w hSw => ?gy10r1t3) hS ?gr10r1t3
          case gy10r1t3 =>
            (try dsimp only at hSw)
            go_simp
            try with_reducible rfl
          try simp only [Act.put, List.setIfInBounds_toArray, List.set_cons_zero, List.set_cons_succ]
          refine anyT.take (i := 11) (v := ?gv11r1t3) rfl (by kernel_rfl) (fun _ _ _ h => h) (by rfl) (fun w hSw => ?gy11r1t3) hS ?gr11r1t3
          case gy11r1t3 =>
            (try dsimp only at hSw)
            go_simp
            try with_reducible rfl
          try simp only [Act.put, List.setIfInBounds_toArray, List.set_cons_zero, List.set_cons_succ]
          refine anyT.take (i := 12) (v := ?gv12r1t3) rfl (by kernel_rfl) (fun _ _ _ h => h) (by rfl) (fun w hSw => ?gy12r1t3) hS ?gr12r1t3
          case gy12r1t3 =>
            (try dsimp only at hSw)
            go_simp
            try with_reducible rfl
          try simp only [Act.put, List.setIfInBounds_toArray, List.set_cons_zero, List.set_cons_succ]
          have HFIN := Lib.hid (rr_fin Hr1yr14.out HBr1yr14.out HOr1.out HPr1yr14.out HNr1yr14.out)
          obtain ⟨g1, g2, g3, g4⟩ := boxed HBr1yr14.out
          refine anyT.step (i := 14) rfl (by kernel_rfl) (fun K' hK => ?_)
          go_simp
          refine hK.out _ _ (fun _ => ⟨HFIN.out.1.cell HB04.out, HFIN.out.1.cell HB14.out, HFIN.out.1.cell HC4.out⟩) (fun hS => ?_)
          try simp only [List.setIfInBounds_toArray, List.set_cons_zero, List.set_cons_succ]
          refine anyT.step (i := 15) rfl (by kernel_rfl) (fun K' hK => ?_)
          go_simp
          refine hK.out _ _ (not_more (by kernel_rfl)) (fun hS => ?_)
          refine anyT.done (by kernel_rfl) ?_
          go_wp2_with fail
          go_meet
          case rel => exact ⟨br1, _, _, _, _, rfl, rfl, HFIN.out⟩
      case rest =>
        obtain ⟨bx, xp, xc, xn, xd, rfl, rfl, hux, hbx, hPx, hNx⟩ := hcut
        obtain ⟨w5, rfl⟩ : ∃ w5 : World, w5 = wc := ⟨_, rfl⟩
        have HU5 := Lib.hid (HU4.out.trans hux)
        have HB05 := Lib.hid (hux.cell HB04.out)
        have HB15 := Lib.hid (hux.cell HB14.out)
        obtain ⟨x0, x1, _, _⟩ := boxed hbx
        have HX05 := Lib.hid x0
        have HX15 := Lib.hid x1
        have HNX5 : Hid (StrsAt Any w5 (.slice xn (flat (rrQt t la)).ns.length xd) (flat (rrQt t la)).ns) := hNx
        have HTX5 : Hid (TreeAt Any w5 (.agg #[.slice xp (flat (rrQt t la)).ps.length xc, .slice xn (flat (rrQt t la)).ns.length xd]) (flat (rrQt t la))) := ⟨_, _, rfl, hPx, hNx⟩
        have HL5 : Hid (IntsAt Any w5 (.slice (some ⟨lbk, lo, none⟩) (leavesL t.ns).length lc) (leavesL t.ns)) := IntsAt.keep HL4.out (hux.kept _)
        have HLX5 := Lib.hid (HLX.out w5 _ HTX5.out)
        have HXL := Lib.hid HST.out.1
        clear hne hwc hux hbx hPx hNx b0 b1 hcia HB04 HB14 HC4 HRA4 HL4 hse hse2 hnz i1 i2 HLX
        go_wp2_with fail
        refine HLX5.out.mono ?_
        rintro e w6 ⟨hu6, lv, rfl, hl6⟩
        obtain ⟨op, oc, ev, ho6⟩ := HGI.out _ _ _ hl6
        rw [HXL.out] at ev ho6
        subst ev
        have HO6 := Lib.hid ho6
        have HL6X := Lib.hid hl6
        have HU6 := Lib.hid (HU5.out.trans hu6)
        have b0 := hu6.cell HB05.out
        have b1 := hu6.cell HB15.out
        have x0 := hu6.cell HX05.out
        have x1 := hu6.cell HX15.out
        have HB06 := Lib.hid b0
        have HB16 := Lib.hid b1
        have HX06 := Lib.hid x0
        have HX16 := Lib.hid x1
        have HL6 : Hid (IntsAt Any w6 (.slice (some ⟨lbk, lo, none⟩) (leavesL t.ns).length lc) (leavesL t.ns)) := IntsAt.keep HL5.out (hu6.kept _)
        have HTX6 := Lib.hid (HTX5.out.keep (hu6.kept _))
        have HNX6 := Lib.hid (StrsAt.keep HNX5.out (hu6.kept _))
        clear hu6 hl6 ho6 HLX5 HB05 HB15 HX05 HX15 HL5 HTX5 HNX5
        go_wp2_with fail
        refine (out1_t _ _ _).mono ?_
        rintro e w7 ⟨rfl, hw7⟩
        have hu7 : Up w6 w7 := by rw [hw7]; exact Up.alloc w6 _
        have n7 : w7.cell? ⟨w6.heap.size, 1, none⟩ = some (.slice (some ⟨nb, no, none⟩) t.ns.length nc) := by rw [hw7]; exact box2_1 w6 _ _ _
        have HCF := Lib.hid (ints_has_t 14 #[.pointer (some ⟨w6.heap.size, 0, none⟩)] (enters_of Try.func14 (by kernel_rfl) rfl) Any w7 _ (leavesL t.ns).length (fun k => .int .i64 (gi (leavesL t.ns) k)) (fun k => decide (gi (leavesL t.ns) k < 0) || decide ((t.ns.length : Int) ≤ gi (leavesL t.ns) k)) (IntsAt.keep HL6.out (hu7.kept _)) (by have := HL12.out; omega) (fun k hk => out11_t w7 w6.heap.size _ _ _ _ n7))
        rw [any_none (fun k hk => by obtain ⟨q, h1, h2⟩ := HLN2.out k hk; rw [h1]; simp; omega)] at HCF
        have HU7 := Lib.hid hu7
        have x0 := hu7.cell HX06.out
        have x1 := hu7.cell HX16.out
        clear hw7 n7 b0 b1 hu7
        go_wp2_with fail
        refine HCF.out.mono ?_
        rintro e w7' ⟨rfl, rfl⟩
        go_wp2_with fail
        refine (out1_t _ _ _).mono ?_
        rintro e w8 ⟨rfl, hw8⟩
        have hu8 : Up w7 w8 := by rw [hw8]; exact Up.alloc w7 _
        have n8 : w8.cell? ⟨w7.heap.size, 1, none⟩ = some (.slice xn (flat (rrQt t la)).ns.length xd) := by rw [hw8]; exact box2_1 w7 _ _ _
        have HL8X : Hid (IntsAt Any w8 (.slice op (leavesL t.ns).length oc) (leavesL (flat (rrQt t la)).ns)) := IntsAt.keep HL6X.out ((HU7.out.trans hu8).kept _)
        have HL8Y : Hid (SlAt Any w8 (.slice op (leavesL t.ns).length oc) (leavesL t.ns).length (fun k => .int .i64 (gi (leavesL (flat (rrQt t la)).ns) k))) := by
          have h := HL8X.out
          unfold IntsAt at h
          rw [HXL.out] at h; exact h
        have HCG := Lib.hid (ints_has_t 14 #[.pointer (some ⟨w7.heap.size, 0, none⟩)] (enters_of Try.func14 (by kernel_rfl) rfl) Any w8 _ (leavesL t.ns).length (fun k => .int .i64 (gi (leavesL (flat (rrQt t la)).ns) k)) (fun k => decide (gi (leavesL (flat (rrQt t la)).ns) k < 0) || decide (((flat (rrQt t la)).ns.length : Int) ≤ gi (leavesL (flat (rrQt t la)).ns) k)) HL8Y.out (by have := HL12.out; omega) (fun k hk => out11_t w8 w7.heap.size _ _ _ _ n8))
        rw [any_none (fun k hk => by obtain ⟨q, _, h1, h2, _⟩ := HMX.out k (by rw [HXL.out]; exact hk); rw [h1]; simp; omega)] at HCG
        have HU8 := Lib.hid (HU7.out.trans hu8)
        clear hw8 n8 x0 x1 hu8 HCF HU7
        go_wp2_with fail
        refine HCG.out.mono ?_
        rintro e w8' ⟨rfl, rfl⟩
        have HUW := Lib.hid (HU6.out.trans HU8.out)
        have HO8 : Hid (∀ k, k < (leavesL t.ns).length → ∃ b off, op = some ⟨b, off, none⟩ ∧ w8.cell? ⟨b, off + k, none⟩ = some (.int .i64 (gi (leavesL (flat (rrQt t la)).ns) k))) := fun k hk => by
          obtain ⟨b, off, h1, h2⟩ := HO6.out k hk
          exact ⟨b, off, h1, HU8.out.cell h2⟩
        have HB08 := Lib.hid (HU8.out.cell HB06.out)
        have HB18 := Lib.hid (HU8.out.cell HB16.out)
        have HX08 := Lib.hid (HU8.out.cell HX06.out)
        have HX18 := Lib.hid (HU8.out.cell HX16.out)
        have HL8 : Hid (IntsAt Any w8 (.slice (some ⟨lbk, lo, none⟩) (leavesL t.ns).length lc) (leavesL t.ns)) := IntsAt.keep HL6.out (HU8.out.kept _)
        have HTX8 := Lib.hid (HTX6.out.keep (HU8.out.kept _))
        have HNX8 := Lib.hid (StrsAt.keep HNX6.out (HU8.out.kept _))
        have HNT8 : Hid (StrsAt Any w8 (.slice (some ⟨nb, no, none⟩) t.ns.length nc) t.ns) := StrsAt.keep HN0.out (HUW.out.kept _)
        clear HCG HU6 HB06 HB16 HX06 HX16 HL6 HTX6 HNX6 HO6 HL6X HL8X HL8Y HU8
        have m14 : ((leavesL t.ns).length : Int) ≤ 14 := by have := HL12.out; omega
        go_wp2_with fail
        go_loopw [20, 22, 23, 143] (fun d _ _ i wr => ∃ k : Nat, k ≤ (leavesL t.ns).length ∧ i = .int .i64 k ∧ Hid (Owns w8.heap.size 3 wr d ((mvK t (flat (rrQt t la)) st k).map (Value.int .i64))) ∧ Hid (Up w8 wr)) (fun _ _ _ i _ => (leavesL t.ns).length - (intOf i).toNat)
        case atStart => exact ⟨0, Nat.zero_le _, rfl, Owns.nil _ _ _, Up.refl _⟩
        case round =>
          obtain ⟨k, hk, rfl, hA, hUr⟩ := hrel
          obtain ⟨wo, rfl⟩ : ∃ wo : World, wo = wr := ⟨_, rfl⟩
          by_cases hlt : k < (leavesL t.ns).length
          · obtain ⟨ob, oo, rfl, hcs⟩ := HO8.out k hlt
            obtain ⟨q, j, hq1, hq2, hj1, hj2⟩ := HMX.out k (by rw [HXL.out]; exact hlt)
            have HSUC : Hid (mvK t (flat (rrQt t la)) st (k + 1) = mvK t (flat (rrQt t la)) st k ++ [gi st j]) := by unfold Hid; rw [mvK_succ, hq1, Int.toNat_natCast, hj1, Int.toNat_natCast]
            rw [hq1] at hcs
            have hcs := hUr.out.cell hcs
            have hu1 := Up.alloc wo (.cells #[.int .i64 (q : Int)] 3)
            have hb1 := box1_0 wo (.int .i64 (q : Int)) 3
            have HIX : Hid (∀ W, W = wo.alloc (.cells #[.int .i64 (q : Int)] 3) → Calls Try.prog 16 #[.slice (some ⟨lbk, lo, none⟩) (leavesL t.ns).length lc, .func (.func 17) #[] #[.pointer (some ⟨w.heap.size, 0, none⟩), .pointer (some ⟨bx, 0, none⟩), .pointer (some ⟨wo.heap.size, 0, none⟩)]] W fun e w' => e = .returned (.int .i64 (j : Int)) ∧ Up wo w') := fun W hW => by
              subst hW
              have hUU := hUr.out.trans hu1
              refine (ints_ix_d 17 #[.pointer (some ⟨w.heap.size, 0, none⟩), .pointer (some ⟨bx, 0, none⟩), .pointer (some ⟨wo.heap.size, 0, none⟩)] (enters_of Try.func17 (by kernel_rfl) rfl) Any _ _ (leavesL t.ns).length (fun i => .int .i64 (gi (leavesL t.ns) i)) (fun i => decide (gs t.ns (gi (leavesL t.ns) i).toNat = gs (flat (rrQt t la)).ns q)) (IntsAt.keep HL8.out (hUU.kept _)) (by have := HL12.out; omega) (fun i hi => ?_)).mono ?_
              · obtain ⟨l, h1, h2⟩ := HLN2.out i hi
                simp only [h1, Int.toNat_natCast]
                exact mv2_t _ Any Any w.heap.size bx wo.heap.size _ _ nc xd t (flat (rrQt t la)) q l (hUU.cell HB18.out) (hUU.cell HX18.out) hb1 (StrsAt.keep HNT8.out (hUU.kept _)) (StrsAt.keep HNX8.out (hUU.kept _)) h2 hq2
              · rintro e w' ⟨rfl, m, rfl⟩
                refine ⟨?_, hu1.trans (Up.drewN _ m)⟩
                rw [← hj1]; rfl
            have k1 : (0 : Int) ≤ (k : Int) := Int.natCast_nonneg _
            have k2 : (k : Int) < ((leavesL t.ns).length : Int) := Int.ofNat_lt.2 hlt
            have k3 : (k : Int) < 64 := by omega
            have hHS : ((mvK t (flat (rrQt t la)) st k).map (Value.int .i64)).length = k := by rw [List.length_map, mvK_len]
            have HLN := Lib.hid hHS
            obtain ⟨sb, so, rfl, hst⟩ := HSC0.out j (by rw [HST.out.2]; exact hj2)
            have HSTJ := Lib.hid hst
            have j1 : (0 : Int) ≤ (j : Int) := Int.natCast_nonneg _
            have j2 : (j : Int) < (st.length : Int) := by rw [HST.out.2]; exact Int.ofNat_lt.2 hj2
            clear hq1 hj1 hHS hst hu1 hb1
            generalize gi st j = sj at *
            go_wp2_with fail
            refine (HIX.out _ rfl).mono ?_
            rintro e wv ⟨rfl, huv⟩
            have hOV : Hid (Owns w8.heap.size 3 wv _ ((mvK t (flat (rrQt t la)) st k).map (Value.int .i64))) := owns_at hA.out fun b hb => Below.block huv b (ownBlock_lt hA.out hb).2
            have HUV : Hid (Up w8 wv) := hUr.out.trans huv
            have hst := (HUW.out.trans HUV.out).cell HSTJ.out
            have hsz := HUV.out.size
            clear huv HIX hcs
            go_wp2_with (at_builtin; refine wpList_appN wv rfl _ _ 22 rfl w8.heap.size 3 _ 8 Try.underlying22 Try.infoI rfl (by decide) hOV.out rfl _ rfl rfl k HLN.out (by omega) hsz ?_; intro g cap w9 hown1 hg1 hbe1)
            have HO1 : Hid (Owns w8.heap.size 3 w9 (.slice (some ⟨g, 0, none⟩) (k + 1) cap) ((mvK t (flat (rrQt t la)) st (k + 1)).map (Value.int .i64))) := by unfold Hid; rw [HSUC.out, List.map_append]; exact hown1
            have HU9 : Hid (Up w8 w9) := Below.trans HUV.out hbe1
            clear hown1 hg1 hbe1
            go_roundw
            case rel => exact ⟨k + 1, by omega, by go_num, HO1, HU9⟩
            case measure => simp [intOf]; omega
          · obtain rfl : k = (leavesL t.ns).length := by omega
            obtain ⟨mp, mc, rfl, _⟩ := hA.out.form (n := (leavesL t.ns).length) (by rw [List.length_map, mvK_len])
            have hMV : IntsAt Any wo (.slice mp (leavesL t.ns).length mc) (mvL t (flat (rrQt t la)) st) := by
              unfold mvL
              rw [HXL.out]
              exact hA.out.ints.sub fun _ _ _ => trivial
            have HMV := Lib.hid hMV
            have b0 := hUr.out.cell HB08.out
            have b1 := hUr.out.cell HB18.out
            have HX0o := Lib.hid (hUr.out.cell HX08.out)
            have HX1o := Lib.hid (hUr.out.cell HX18.out)
            have HTXo := Lib.hid (HTX8.out.keep (hUr.out.kept _))
            have HUo := Lib.hid (HUW.out.trans hUr.out)
            clear hMV hA hUr HUW HB08 HB18 HX08 HX18 HTX8
            go_wp2_with fail
            refine (HSC.out wo HUo.out).mono ?_
            rintro e w9 ⟨hu9, rfl⟩
            have x0 := hu9.cell HX0o.out
            have x1 := hu9.cell HX1o.out
            have HU9 := Lib.hid (HUo.out.trans hu9)
            have HS9 := Lib.hid (HSU.out w9 _ _ HU9.out (HTXo.out.keep (hu9.kept _)) (IntsAt.keep HMV.out (hu9.kept _)))
            clear b0 b1 hu9
            go_wp2_with fail
            refine HS9.out.mono ?_
            rintro e w10 ⟨hu10, rfl⟩
            have HU10 := Lib.hid (HU9.out.trans hu10)
            clear hu10 x0 x1
            generalize scoreN t st cs = sc at *
            go_wp2_with fail
            refine (HAW.out _).mono ?_
            rintro e w11 ⟨rfl, hu11⟩
            have HU11 := Lib.hid (HU10.out.trans hu11)
            clear hu11
            go_wp2_with fail
            go_ret
            exact ⟨rfl, HU11.out⟩
end Go.Proofs.Ytcaialhoclodjaa
