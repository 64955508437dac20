/- The walk of PhylotreeRerooted. -/
import Derived.Test.YtcaialhoclodjaaQ30
import Derived.Test.YtcaialhoclodjaaQ3
namespace Go.Proofs.Ytcaialhoclodjaa
open Go.RowKit Go.Deep
theorem cntI_le31 (ps : List Int) (i : Int) : ∀ k, cntI ps i k ≤ k
  | 0 => Nat.le_refl _
  | k + 1 => by
    have := cntI_le31 ps i k
    rw [cntI]; split <;> omega
theorem off_box {S : Nat → Prop} {W : World} {b : Nat} {T : TypeId} {v : Value} {n : Nat} {f : Nat → Value} (hb : W.heap[b]? = some (Obj.cells #[.slice none 0 0, .slice none 0 0] T (0, 0))) (h : SlAt S W v n f) (hf : ∀ k, f k ≠ .slice none 0 0) : SlAt (fun g => g ≠ b) W v n f := by
  obtain ⟨p, cap, rfl, hn, h⟩ := h
  refine ⟨p, cap, rfl, hn, ?_⟩
  by_cases h0 : n = 0
  · exact .inl h0
  · rcases h with h | ⟨g, off, rfl, _, hc⟩
    · exact absurd h h0
    · refine .inr ⟨g, off, rfl, ?_, hc⟩
      intro e
      have e : g = b := e
      subst e
      have h1 := hc 0 (by omega)
      rw [Nat.add_zero] at h1
      have h2 : W.cell? ⟨g, off, none⟩ = (#[Value.slice none 0 0, .slice none 0 0] : Array Value)[off]? := by simp [World.cell?, hb]
      rw [h2] at h1
      match off, h1 with
      | 0, h1 => exact hf 0 (Option.some.inj h1).symm
      | 1, h1 => exact hf 0 (Option.some.inj h1).symm
      | off + 2, h1 => simp at h1
theorem rr_fin {W0 y : World} {T : TypeId} {b : Nat} {P N : Value} {x : Tre} (hu : Up W0 y) (hb : y.heap[b]? = some (Obj.cells #[.slice none 0 0, .slice none 0 0] T (0, 0))) (ho : W0.heap.size ≤ b) (hP : IntsAt Any y P x.ps) (hN : StrsAt Any y N x.ns) :
    Up W0 ((y.setCell ⟨b, 0, none⟩ P).setCell ⟨b, 1, none⟩ N) ∧ ((y.setCell ⟨b, 0, none⟩ P).setCell ⟨b, 1, none⟩ N).heap[b]? = some (Obj.cells #[P, N] T (0, 0)) ∧ IntsAt Any ((y.setCell ⟨b, 0, none⟩ P).setCell ⟨b, 1, none⟩ N) P x.ps ∧ StrsAt Any ((y.setCell ⟨b, 0, none⟩ P).setCell ⟨b, 1, none⟩ N) N x.ns := by
  obtain ⟨u1, u2, u3, u4⟩ := store_two (w := W0) (p := P) (q := N) hb ho hu
  refine ⟨u1, by simp [World.setCell, Array.getElem?_modify, hb], ?_, ?_⟩
  · exact (SlAt.keep (off_box hb hP (fun k e => by cases e)) fun g hg _ => u4 g hg).sub fun _ _ _ => trivial
  · exact (SlAt.keep (off_box hb hN (fun k e => by cases e)) fun g hg _ => u4 g hg).sub fun _ _ _ => trivial
set_option maxRecDepth 100000 in
set_option maxHeartbeats 16000000 in
theorem rerooted_law (w : World) (v : Value) (t : Tre) (x y : Int) (hT : TreeAt Any w v t) (hp : t.ps.length ≤ 9223372036854775807) (hn : t.ns.length ≤ 9223372036854775807) (hz : ∀ k, (gs t.ns k).size ≤ 9223372036854775807) (hx0 : 0 ≤ x) (hx1 : x ≤ 255) (hy0 : 0 ≤ y) (hy1 : y ≤ 255) :
    Calls Try.prog 7 #[v, .int .u8 x, .int .u8 y] w fun e w' => e = .returned (.bool true) ∧ Up w w' := by
  obtain ⟨P, N, rfl, hP, hN⟩ := hT
  obtain ⟨pp, pc, rfl, -, -⟩ := SlAt.open hP
  obtain ⟨np, nc, rfl, -, -⟩ := SlAt.open hN
  have hP : IntsAt Any w (.slice pp t.ps.length pc) t.ps := hP
  have hN : StrsAt Any w (.slice np t.ns.length nc) t.ns := hN
  have HT0 : Hid (TreeAt Any w (.agg #[.slice pp t.ps.length pc, .slice np t.ns.length nc]) t) := ⟨_, _, rfl, hP, hN⟩
  have HF : Hid (∀ W, Up w W → Calls Try.prog 19 #[.agg #[.slice pp t.ps.length pc, .slice np t.ns.length nc]] W fun e w' => e = .returned (.bool (fine31B t)) ∧ Up W w') := fun W hW => fine31_t Any W _ t (HT0.out.keep (hW.kept _)) hp hn hz
  have HAW := Lib.hid awake31_t
  clear hP hn hz hp
  cases hf : fine31B t
  · rw [hf] at HF
    have hu := Up.alloc w (.cells #[.slice pp t.ps.length pc, .slice np t.ns.length nc] 25)
    have b0 := box2_0 w (.slice pp t.ps.length pc) (.slice np t.ns.length nc) 25
    have b1 := box2_1 w (.slice pp t.ps.length pc) (.slice np t.ns.length nc) 25
    have HU := Lib.hid hu
    clear hf hN hu
    go_enter Try.func7, Try.ntmps7
    go_wp2_with (first | (go_at_call 19; refine (HF.out _ HU.out).mono ?_; rintro e w1 ⟨rfl, hu1⟩) | (go_at_call 20; refine (HAW.out _).mono ?_; rintro e w' ⟨rfl, hu⟩) | fail)
    go_ret
    exact ⟨rfl, HU.out.trans (hu1.trans hu)⟩
  · obtain ⟨h0, h16, he⟩ := fine31_ok hf
    rw [hf] at HF
    obtain ⟨c, rfl⟩ := Int.eq_ofNat_of_zero_le hx0
    obtain ⟨d, rfl⟩ := Int.eq_ofNat_of_zero_le hy0
    obtain ⟨_, _, hl, hok, _⟩ := treeErr_zero he
    have hm0 : 0 < (leavesL t.ns).length := by
      obtain ⟨q, hq⟩ := (good_toR he).meet (subR_self _)
      have h1 := List.length_pos_of_mem hq
      rw [lvs_count, ← (leafs_perm he).length_eq]; exact h1
    obtain ⟨ia, hia⟩ : ∃ a, a = c % (leavesL t.ns).length := ⟨_, rfl⟩
    obtain ⟨ib, hib⟩ : ∃ b, b = d % (leavesL t.ns).length := ⟨_, rfl⟩
    have hial : ia < (leavesL t.ns).length := by rw [hia]; exact Nat.mod_lt _ hm0
    have hibl : ib < (leavesL t.ns).length := by rw [hib]; exact Nat.mod_lt _ hm0
    obtain ⟨la, hla, hla1, hla2⟩ := leaf_nat hial
    obtain ⟨lb, hlb, hlb1, hlb2⟩ := leaf_nat hibl
    obtain ⟨lz, hlz, hlz1, _⟩ := leaf_nat (show (leavesL t.ns).length - 1 < (leavesL t.ns).length by omega)
    have hA : LeafOk t la := ⟨he, by omega, hla2⟩
    have hB : LeafOk t lb := ⟨he, by omega, hlb2⟩
    have hml : (leavesL t.ns).length ≤ 16 := by have := leavesL_len t.ns; omega
    obtain ⟨nb, no, rfl, hca⟩ := strs_get hN hla1
    obtain ⟨nb2, no2, enb, hcb⟩ := strs_get hN hlb1
    cases enb
    have hse : (c : Int).tmod ((leavesL t.ns).length : Int) = (ia : Int) := by rw [Int.tmod_eq_emod_of_nonneg (by omega), hia]; push_cast; rfl
    have hsf : (d : Int).tmod ((leavesL t.ns).length : Int) = (ib : Int) := by rw [Int.tmod_eq_emod_of_nonneg (by omega), hib]; push_cast; rfl
    have hse2 : (c : Int) % ((leavesL t.ns).length : Int) = (ia : Int) := by rw [hia]; push_cast; rfl
    have hsf2 : (d : Int) % ((leavesL t.ns).length : Int) = (ib : Int) := by rw [hib]; push_cast; rfl
    obtain ⟨xt1, xt2, xt3⟩ := rr_ok_t hA (by omega)
    obtain ⟨yt1, yt2, yt3⟩ := rr_ok_t hB (by omega)
    have HSM := Lib.hid (tree_small he)
    have HSX := Lib.hid (tree_small xt1)
    have hxs := rrQ_size hA
    have hys := rrQ_size hB
    obtain ⟨_, _, hxl, hxok, _⟩ := treeErr_zero xt1
    obtain ⟨_, _, hyl, _, _⟩ := treeErr_zero yt1
    have hxp : (flat (rrQt t la)).ps.length ≤ 17 := by rw [flat_ps]; omega
    have hyp : (flat (rrQt t lb)).ps.length ≤ 17 := by rw [flat_ps]; omega
    have HLV : Hid (∀ W, Up w W → Calls Try.prog 11 #[.agg #[.slice pp t.ps.length pc, .slice (some ⟨nb, no, none⟩) t.ns.length nc]] W fun e w' => Up W w' ∧ ∃ v, e = .returned (.tuple #[v, .int .i64 0]) ∧ IntsAt Any w' v (leavesL t.ns)) := fun W hW => by
      refine (leaves_t Any W _ t (HT0.out.keep (hW.kept _)) (by omega) (by omega) HSM.out).mono ?_
      rintro e w' ⟨h1, ⟨h2, _⟩ | ⟨_, u, rfl, h3⟩⟩
      · exact absurd he h2
      · exact ⟨h1, u, rfl, h3.sub fun _ _ _ => trivial⟩
    have HFA : Hid (∀ W, Up w W → Calls Try.prog 29 #[.agg #[.slice pp t.ps.length pc, .slice (some ⟨nb, no, none⟩) t.ns.length nc], .string (gs t.ns la)] W fun e w' => e = .returned (.int .i64 la) ∧ Up W w') := fun W hW => by
      have h := find31_t Any W _ t (gs t.ns la) (HT0.out.keep (hW.kept _)) (by omega)
      have e := fd_at he hA
      unfold fdN at e
      rw [e] at h; exact h
    have HFB : Hid (∀ W, Up w W → Calls Try.prog 29 #[.agg #[.slice pp t.ps.length pc, .slice (some ⟨nb, no, none⟩) t.ns.length nc], .string (gs t.ns lb)] W fun e w' => e = .returned (.int .i64 lb) ∧ Up W w') := fun W hW => by
      have h := find31_t Any W _ t (gs t.ns lb) (HT0.out.keep (hW.kept _)) (by omega)
      have e := fd_at he hB
      unfold fdN at e
      rw [e] at h; exact h
    have HRA : Hid (∀ W, Up w W → Calls Try.prog 12 #[.agg #[.slice pp t.ps.length pc, .slice (some ⟨nb, no, none⟩) t.ns.length nc], .int .i64 la] W fun e w' => Up W w' ∧ ∃ v, e = .returned (.tuple #[v, .int .i64 0]) ∧ TreeAt Any w' v (flat (rrQt t la))) := fun W hW => by
      refine (reroot_t Any W _ t la (HT0.out.keep (hW.kept _)) (by omega) (by omega) HSM.out).mono ?_
      rintro e w' ⟨h1, v, rfl, h2⟩
      rw [xt3] at h2
      exact ⟨h1, v, by rw [xt2], h2⟩
    have HRB : Hid (∀ W, Up w W → Calls Try.prog 12 #[.agg #[.slice pp t.ps.length pc, .slice (some ⟨nb, no, none⟩) t.ns.length nc], .int .i64 lb] W fun e w' => Up W w' ∧ ∃ v, e = .returned (.tuple #[v, .int .i64 0]) ∧ TreeAt Any w' v (flat (rrQt t lb))) := fun W hW => by
      refine (reroot_t Any W _ t lb (HT0.out.keep (hW.kept _)) (by omega) (by omega) HSM.out).mono ?_
      rintro e w' ⟨h1, v, rfl, h2⟩
      rw [yt3] at h2
      exact ⟨h1, v, by rw [yt2], h2⟩
    obtain ⟨lx, hfx, hX, hlx⟩ := fd_ok xt1 ((rrx_names hA).mem_iff.2 (leaf_name hB))
    obtain ⟨zt1, zt2, zt3⟩ := rr_ok_t hX (by omega)
    have htw : rrQt (flat (rrQt t la)) lx = rrQt t lb := rr_twice hA hB rfl hX hlx
    rw [htw] at zt3
    have HFX : Hid (∀ W v, TreeAt Any W v (flat (rrQt t la)) → Calls Try.prog 29 #[v, .string (gs t.ns lb)] W fun e w' => e = .returned (.int .i64 lx) ∧ Up W w') := fun W v hv => by
      have h := find31_t Any W v (flat (rrQt t la)) (gs t.ns lb) hv (by omega)
      unfold fdN at hfx
      rw [hfx] at h; exact h
    have HRX : Hid (∀ W v, TreeAt Any W v (flat (rrQt t la)) → Calls Try.prog 12 #[v, .int .i64 lx] W fun e w' => Up W w' ∧ ∃ v, e = .returned (.tuple #[v, .int .i64 0]) ∧ TreeAt Any w' v (flat (rrQt t lb))) := fun W v hv => by
      refine (reroot_t Any W v (flat (rrQt t la)) lx hv (by omega) (by omega) HSX.out).mono ?_
      rintro e w' ⟨h1, v, rfl, h2⟩
      rw [zt3] at h2
      exact ⟨h1, v, by rw [zt2], h2⟩
    have HFN : Hid (∀ W v, TreeAt Any W v (flat (rrQt t la)) → Calls Try.prog 29 #[v, .string (gs t.ns la)] W fun e w' => e = .returned (.int .i64 (fdN (flat (rrQt t la)).ns (gs t.ns la))) ∧ Up W w') := fun W v hv => find31_t Any W v (flat (rrQt t la)) (gs t.ns la) hv (by omega)
    have HCK : Hid (∀ W v, TreeAt Any W v (flat (rrQt t la)) → Calls Try.prog 26 #[v] W fun e w' => e = .returned (.int .i64 0) ∧ Up W w') := fun W v hv => by
      have h := check_t Any W v (flat (rrQt t la)) hv (by omega) (by omega) HSX.out
      rw [xt1] at h; exact h
    have HST : Hid (∀ W v u, TreeAt Any W v (flat (rrQt t lb)) → TreeAt Any W u (flat (rrQt t lb)) → Calls Try.prog 32 #[v, u] W fun e w' => e = .returned (.bool true) ∧ Up W w') := fun W v u hv hu => sameTree_yes Any Any W v u (flat (rrQt t lb)) hv hu (by omega) (by omega)
    have HLL : Hid ((sortS (fltN t.ns)).length ≤ 1000000) := by
      unfold Hid
      rw [sortS_len]
      have h1 : (fltN t.ns).length ≤ t.ns.length := List.length_filter_le _ _
      omega
    have HNX : Hid (∀ W v, TreeAt Any W v (flat (rrQt t la)) → Calls Try.prog 31 #[v] W fun e w' => Up W w' ∧ ∃ u, e = .returned u ∧ StrsAt Any w' u (sortS (fltN t.ns))) := fun W v hv => by
      refine (names31_t Any W v (flat (rrQt t la)) hv (by omega)).mono ?_
      rintro e w' ⟨h1, u, rfl, h2⟩
      rw [rrx_sorted hA] at h2
      exact ⟨h1, u, rfl, h2.strs.sub fun _ _ _ => trivial⟩
    have HNY : Hid (∀ W v, TreeAt Any W v (flat (rrQt t lb)) → Calls Try.prog 31 #[v] W fun e w' => Up W w' ∧ ∃ u, e = .returned u ∧ StrsAt Any w' u (sortS (fltN t.ns))) := fun W v hv => by
      refine (names31_t Any W v (flat (rrQt t lb)) hv (by omega)).mono ?_
      rintro e w' ⟨h1, u, rfl, h2⟩
      rw [rrx_sorted hB] at h2
      exact ⟨h1, u, rfl, h2.strs.sub fun _ _ _ => trivial⟩
    have HNT : Hid (∀ W v, TreeAt Any W v t → Calls Try.prog 31 #[v] W fun e w' => Up W w' ∧ ∃ u, e = .returned u ∧ StrsAt Any w' u (sortS (fltN t.ns))) := fun W v hv => by
      refine (names31_t Any W v t hv (by omega)).mono ?_
      rintro e w' ⟨h1, u, rfl, h2⟩
      exact ⟨h1, u, rfl, h2.strs.sub fun _ _ _ => trivial⟩
    have HEQ : Hid (∀ W u v, StrsAt Any W u (sortS (fltN t.ns)) → StrsAt Any W v (sortS (fltN t.ns)) → Calls Try.prog 30 #[u, v] W (EqPost W true)) := fun W u v h1 h2 => by
      have h := equal_str_t Any Any W u v _ _ h1 h2 HLL.out HLL.out
      rw [decide_eq_true rfl] at h; exact h
    have HPL := Lib.hid (rrx_place hA (by omega))
    have HXP := Lib.hid hxp
    clear hfx hX hlx zt1 zt2 zt3 htw xt1 xt2 xt3 yt1 yt2 yt3 hxs hys hxl hxok hyl hxp hyp hA hB hf he hok hia hib HSM HSX
    have hu := Up.alloc w (.cells #[.slice pp t.ps.length pc, .slice (some ⟨nb, no, none⟩) t.ns.length nc] 25)
    have b0 := box2_0 w (.slice pp t.ps.length pc) (.slice (some ⟨nb, no, none⟩) t.ns.length nc) 25
    have b1 := box2_1 w (.slice pp t.ps.length pc) (.slice (some ⟨nb, no, none⟩) t.ns.length nc) 25
    have HB0 := Lib.hid b0
    have HB1 := Lib.hid b1
    have HCA := Lib.hid hca
    have HCB := Lib.hid hcb
    have HU := Lib.hid hu
    have hlen : 0 ≤ (la : Int) ∧ (la : Int) < (t.ns.length : Int) ∧ 0 ≤ (lb : Int) ∧ (lb : Int) < (t.ns.length : Int) := by omega
    obtain ⟨l1, l2, l3, l4⟩ := hlen
    have HLA := Lib.hid hla
    have HLB := Lib.hid hlb
    have HLZ := Lib.hid hlz
    clear hl hN hca hcb hu hla hlb hlz
    generalize hLN : leavesL t.ns = LN at *
    clear hLN
    have HGI : Hid (∀ W v, IntsAt Any W v LN → ∃ lp lc, v = .slice lp LN.length lc ∧ ∀ k, k < LN.length → ∃ b off, lp = some ⟨b, off, none⟩ ∧ W.cell? ⟨b, off + k, none⟩ = some (.int .i64 (gi LN k))) := fun W v h => by
      obtain ⟨lp, lc, rfl, _, hc⟩ := SlAt.open h
      exact ⟨lp, lc, rfl, hc⟩
    generalize hmm : LN.length = m at *
    clear hmm
    generalize flat (rrQt t la) = X at *
    generalize flat (rrQt t lb) = Y at *
    generalize gs t.ns la = na at *
    generalize gs t.ns lb = nbm at *
    generalize sortS (fltN t.ns) = SN at *
    go_enter Try.func7, Try.ntmps7
    go_wp2_with fail
    generalize w.alloc (.cells #[.slice pp t.ps.length pc, .slice (some ⟨nb, no, none⟩) t.ns.length nc] 25) = w1 at *
    refine (HF.out w1 HU.out).mono ?_
    rintro e w2 ⟨rfl, hu2⟩
    have HU2 := Lib.hid (HU.out.trans hu2)
    have b0 := hu2.cell HB0.out
    have b1 := hu2.cell HB1.out
    have HB02 := Lib.hid b0
    have HB12 := Lib.hid b1
    clear hu2 HF HB0 HB1
    go_wp2_with fail
    refine (HLV.out w2 HU2.out).mono ?_
    rintro e w3 ⟨hu3, v3, rfl, hL3⟩
    obtain ⟨lp, lc, rfl, hcells⟩ := HGI.out _ _ hL3
    obtain ⟨lbk, lo, rfl, hcz⟩ := hcells _ (show m - 1 < m by omega)
    obtain ⟨_, _, e1, hcia⟩ := hcells _ hial
    cases e1
    obtain ⟨_, _, e1, hcib⟩ := hcells _ hibl
    cases e1
    rw [HLZ.out] at hcz
    rw [HLA.out] at hcia
    rw [HLB.out] at hcib
    have b0 := hu3.cell HB02.out
    have b1 := hu3.cell HB12.out
    have HB03 := Lib.hid b0
    have HB13 := Lib.hid b1
    have HU3 := Lib.hid (HU2.out.trans hu3)
    have j0 : ((m : Int) == 0) = false := beq_eq_false_iff_ne.2 (by omega)
    have j1 : (0 : Int) ≤ (m : Int) - 1 := by omega
    have j2 : (m : Int) - 1 < (m : Int) := by omega
    have j3 : ((m : Int) - 1).toNat = m - 1 := by omega
    have j4 : wrap64 ((m : Int) - 1) = (m : Int) - 1 := by unfold wrap64; omega
    have j5 : decide ((t.ns.length : Int) ≤ (lz : Int)) = false := decide_eq_false (by omega)
    have HCIA := Lib.hid hcia
    have HCIB := Lib.hid hcib
    clear hu3 hL3 hcells hcia hcib HLZ HLA HLB
    go_wp2_with fail
    go_big_quiet (fail)
    rw [show decide (t.ns.length ≤ lz) = false from decide_eq_false (by omega)]
    have hu4 : Up w3 (w3.drewN nq) := Up.drewN w3 nq
    have HU4 := Lib.hid (HU3.out.trans hu4)
    have b0 := hu4.cell HB03.out
    have b1 := hu4.cell HB13.out
    have HB04 := Lib.hid b0
    have HB14 := Lib.hid b1
    have k1 := hu4.cell HCIA.out
    have k2 := hu4.cell HCIB.out
    have k3 := HU4.out.cell HCA.out
    have k4 := HU4.out.cell HCB.out
    clear hse hsf
    have hnz2 : (m : Int) ≠ 0 := by omega
    have m1 : (0 : Int) ≤ (ia : Int) := Int.natCast_nonneg _
    have m2 : (ia : Int) < (m : Int) := Int.ofNat_lt.2 hial
    have m3 : (0 : Int) ≤ (ib : Int) := Int.natCast_nonneg _
    have m4 : (ib : Int) < (m : Int) := Int.ofNat_lt.2 hibl
    clear hu4 hcz j1 j2 j3 j4 j5
    generalize w3.drewN nq = w4 at *
    go_wp2_with fail
    go_big_quiet (fail)
    have hu5 : Up w4 (w4.drewN nq) := Up.drewN w4 nq
    have HU5 := Lib.hid (HU4.out.trans hu5)
    have HB05 := Lib.hid (hu5.cell HB04.out)
    have HB15 := Lib.hid (hu5.cell HB14.out)
    clear hu5 b0 b1 k1 k2 k3 k4 m1 m2 m3 m4 hnz2 hse2 hsf2 HCA HCB HCIA HCIB
    generalize w4.drewN nq = w5 at *
    have HFA5 : Hid (∀ W, Up w5 W → Calls Try.prog 29 #[.agg #[.slice pp t.ps.length pc, .slice (some ⟨nb, no, none⟩) t.ns.length nc], .string na] W fun e w' => e = .returned (.int .i64 la) ∧ Up W w') := fun W hW => HFA.out W (HU5.out.trans hW)
    have HRA5 : Hid (∀ W, Up w5 W → Calls Try.prog 12 #[.agg #[.slice pp t.ps.length pc, .slice (some ⟨nb, no, none⟩) t.ns.length nc], .int .i64 la] W fun e w' => Up W w' ∧ ∃ v, e = .returned (.tuple #[v, .int .i64 0]) ∧ TreeAt Any w' v X) := fun W hW => HRA.out W (HU5.out.trans hW)
    go_wp2_with fail
    go_cut [11, 12] from 73 to 80 (fun p q wx => ∃ (b : Nat) (pq : Option Addr) (cq : Nat) (nq : Option Addr) (dq : Nat), p = .pointer (some ⟨b, 0, none⟩) ∧ q = .int .i64 0 ∧ Up w5 wx ∧ wx.heap[b]? = some (Obj.cells #[.slice pq (X).ps.length cq, .slice nq (X).ns.length dq] 25 (0, 0)) ∧ IntsAt Any wx (.slice pq (X).ps.length cq) (X).ps ∧ StrsAt Any wx (.slice nq (X).ns.length dq) (X).ns)
    case first =>
      refine region_T (by kernel_rfl) 11 (fun w' => w'.cell? ⟨w.heap.size, 0, none⟩ = some (.slice pp t.ps.length pc) ∧ w'.cell? ⟨w.heap.size, 1, none⟩ = some (.slice (some ⟨nb, no, none⟩) t.ns.length nc)) ⟨HB05.out, HB15.out⟩ (fun hS => ?_)
      simp only [List.size_toArray, List.length_cons, List.length_nil, Nat.reduceAdd, Array.replicate_succ, Array.replicate_zero, List.push_toArray, List.nil_append, List.cons_append]
      have Hr1yr10 : Hid (Up w5 w5.drew) := Up.drewN w5 1
      refine anyT.take (i := 0) (v := ?gv0r1t1) rfl (by kernel_rfl) (fun _ _ _ h => h) (by rfl) (fun w hSw => ?gy0r1t1) hS ?gr0r1t1
      case gy0r1t1 =>
        (try dsimp only at hSw)
        go_simp
        try with_reducible rfl
      try simp only [Act.put, List.setIfInBounds_toArray, List.set_cons_zero, List.set_cons_succ]
      refine anyT.take (i := 1) (v := ?gv1r1t1) rfl (by kernel_rfl) (fun _ _ _ h => h) (by rfl) (fun w hSw => ?gy1r1t1) hS ?gr1r1t1
      case gy1r1t1 =>
        (try dsimp only at hSw)
        go_simp
        try with_reducible rfl
      try simp only [Act.put, List.setIfInBounds_toArray, List.set_cons_zero, List.set_cons_succ]
      refine anyT.take (i := 2) (v := ?gv2r1t1) rfl (by kernel_rfl) (fun _ _ _ h => h) (by rfl) (fun w hSw => ?gy2r1t1) hS ?gr2r1t1
      case gy2r1t1 =>
        (try dsimp only at hSw)
        go_simp
        try with_reducible rfl
      try simp only [Act.put, List.setIfInBounds_toArray, List.set_cons_zero, List.set_cons_succ]
      generalize w5.drew = yr10 at *
      refine anyT.step2 (i := 3) (i2 := 8) rfl rfl (by kernel_rfl) (fun K' hK => ?_) (fun K' hK => ?_)
      · go_simp
        refine (HFA5.out _ Hr1yr10.out).mono ?_
        rintro e yr11 ⟨rfl, hux⟩
        have Hr1yr11 := Lib.hid (Hr1yr10.out.trans hux)
        clear hux
        refine hK.out _ _ (fun _ => ⟨Hr1yr11.out.cell HB05.out, Hr1yr11.out.cell HB15.out⟩) (fun hS => ?_)
        try simp only [List.setIfInBounds_toArray, List.set_cons_zero, List.set_cons_succ]
        refine anyT.step2 (i := 4) (i2 := 8) rfl rfl (by kernel_rfl) (fun K' hK => ?_) (fun K' hK => ?_)
        · go_simp
          refine (HRA5.out _ Hr1yr11.out).mono ?_
          rintro e yr12 ⟨hux, vx, rfl, htx⟩
          have Hr1yr12 := Lib.hid (Hr1yr11.out.trans hux)
          obtain ⟨Px, Nx, rfl, hPx, hNx⟩ := htx
          obtain ⟨pq, cq, rfl, _, _⟩ := SlAt.open hPx
          obtain ⟨nq, dq, rfl, _, _⟩ := SlAt.open hNx
          have HPr1yr12 : Hid (IntsAt Any yr12 (.slice pq (X).ps.length cq) (X).ps) := hPx
          have HNr1yr12 : Hid (StrsAt Any yr12 (.slice nq (X).ns.length dq) (X).ns) := hNx
          clear hux hPx hNx
          refine hK.out _ _ (fun _ => ⟨Hr1yr12.out.cell HB05.out, Hr1yr12.out.cell HB15.out⟩) (fun hS => ?_)
          try simp only [List.setIfInBounds_toArray, List.set_cons_zero, List.set_cons_succ]
          replace hS := hS ⟨10, by decide, rfl⟩
          refine anyT.take (i := 5) (v := ?gv5r1t2) rfl (by kernel_rfl) (fun _ _ _ h => h) (by rfl) (fun w hSw => ?gy5r1t2) hS ?gr5r1t2
          case gy5r1t2 =>
            (try dsimp only at hSw)
            go_simp
            try with_reducible rfl
          try simp only [Act.put, List.setIfInBounds_toArray, List.set_cons_zero, List.set_cons_succ]
          refine anyT.take (i := 6) (v := ?gv6r1t2) rfl (by kernel_rfl) (fun _ _ _ h => h) (by rfl) (fun w hSw => ?gy6r1t2) hS ?gr6r1t2
          case gy6r1t2 =>
            (try dsimp only at hSw)
            go_simp
            try with_reducible rfl
          try simp only [Act.put, List.setIfInBounds_toArray, List.set_cons_zero, List.set_cons_succ]
          refine anyT.take (i := 7) (v := ?gv7r1t2) rfl (by kernel_rfl) (fun _ _ _ h => h) (by rfl) (fun w hSw => ?gy7r1t2) hS ?gr7r1t2
          case gy7r1t2 =>
            (try dsimp only at hSw)
            go_simp
            try with_reducible rfl
          try simp only [Act.put, List.setIfInBounds_toArray, List.set_cons_zero, List.set_cons_succ]
          refine anyT.step (i := 8) rfl (by kernel_rfl) (fun K' hK => ?_)
          go_simp
          have hux := Up.alloc yr12 (.cells #[.slice none 0 0, .slice none 0 0] 25)
          have hnb := blk_alloc_new yr12 (.cells #[.slice none 0 0, .slice none 0 0] 25)
          generalize yr12.alloc (.cells #[.slice none 0 0, .slice none 0 0] 25) = yr13 at *
          have Hr1yr13 := Lib.hid (Hr1yr12.out.trans hux)
          have HBr1yr13 := Lib.hid hnb
          have HOr1 : Hid (w5.heap.size ≤ yr12.heap.size) := Hr1yr12.out.size
          have HPr1yr13 := Lib.hid (HPr1yr12.out.keep (hux.kept _))
          have HNr1yr13 := Lib.hid (HNr1yr12.out.keep (hux.kept _))
          clear hux hnb
          generalize yr12.heap.size = br1 at *
          refine hK.out _ _ (fun _ => ⟨Hr1yr13.out.cell HB05.out, Hr1yr13.out.cell HB15.out⟩) (fun hS => ?_)
          try simp only [List.setIfInBounds_toArray, List.set_cons_zero, List.set_cons_succ]
          have HFIN := Lib.hid (rr_fin Hr1yr13.out HBr1yr13.out HOr1.out HPr1yr13.out HNr1yr13.out)
          obtain ⟨g1, g2, g3, g4⟩ := boxed HBr1yr13.out
          refine anyT.step (i := 9) rfl (by kernel_rfl) (fun K' hK => ?_)
          go_simp
          refine hK.out _ _ (fun _ => ⟨HFIN.out.1.cell HB05.out, HFIN.out.1.cell HB15.out⟩) (fun hS => ?_)
          try simp only [List.setIfInBounds_toArray, List.set_cons_zero, List.set_cons_succ]
          refine anyT.step (i := 10) rfl (by kernel_rfl) (fun K' hK => ?_)
          go_simp
          refine hK.out _ _ (not_more (by kernel_rfl)) (fun hS => ?_)
          refine anyT.done (by kernel_rfl) ?_
          go_wp2_with fail
          go_meet
          case rel => exact ⟨br1, _, _, _, _, rfl, rfl, HFIN.out⟩
        · go_simp
          have hux := Up.alloc yr11 (.cells #[.slice none 0 0, .slice none 0 0] 25)
          have hnb := blk_alloc_new yr11 (.cells #[.slice none 0 0, .slice none 0 0] 25)
          generalize yr11.alloc (.cells #[.slice none 0 0, .slice none 0 0] 25) = yr14 at *
          have Hr1yr14 := Lib.hid (Hr1yr11.out.trans hux)
          have HBr1yr14 := Lib.hid hnb
          have HOr1 : Hid (w5.heap.size ≤ yr11.heap.size) := Hr1yr11.out.size
          clear hux hnb
          generalize yr11.heap.size = br1 at *
          refine hK.out _ _ (fun _ => ⟨Hr1yr14.out.cell HB05.out, Hr1yr14.out.cell HB15.out⟩) (fun hS => ?_)
          try simp only [List.setIfInBounds_toArray, List.set_cons_zero, List.set_cons_succ]
          refine anyT.step (i := 4) rfl (by kernel_rfl) (fun K' hK => ?_)
          go_simp
          refine (HRA5.out _ Hr1yr14.out).mono ?_
          rintro e yr15 ⟨hux, vx, rfl, htx⟩
          have Hr1yr15 := Lib.hid (Hr1yr14.out.trans hux)
          have HBr1yr15 : Hid (yr15.heap[br1]? = some (Obj.cells #[.slice none 0 0, .slice none 0 0] 25 (0, 0))) := (Below.block hux br1 (Array.getElem?_eq_some_iff.1 HBr1yr14.out).1).trans HBr1yr14.out
          obtain ⟨Px, Nx, rfl, hPx, hNx⟩ := htx
          obtain ⟨pq, cq, rfl, _, _⟩ := SlAt.open hPx
          obtain ⟨nq, dq, rfl, _, _⟩ := SlAt.open hNx
          have HPr1yr15 : Hid (IntsAt Any yr15 (.slice pq (X).ps.length cq) (X).ps) := hPx
          have HNr1yr15 : Hid (StrsAt Any yr15 (.slice nq (X).ns.length dq) (X).ns) := hNx
          clear hux hPx hNx
          refine hK.out _ _ (fun _ => ⟨Hr1yr15.out.cell HB05.out, Hr1yr15.out.cell HB15.out⟩) (fun hS => ?_)
          try simp only [List.setIfInBounds_toArray, List.set_cons_zero, List.set_cons_succ]
          replace hS := hS ⟨10, by decide, rfl⟩
          refine anyT.take (i := 5) (v := ?gv5r1t3) rfl (by kernel_rfl) (fun _ _ _ h => h) (by rfl) (fun w hSw => ?gy5r1t3) hS ?gr5r1t3
          case gy5r1t3 =>
            (try dsimp only at hSw)
            go_simp
            try with_reducible rfl
          try simp only [Act.put, List.setIfInBounds_toArray, List.set_cons_zero, List.set_cons_succ]
          refine anyT.take (i := 6) (v := ?gv6r1t3) rfl (by kernel_rfl) (fun _ _ _ h => h) (by rfl) (fun w hSw => ?gy6r1t3) hS ?gr6r1t3
          case gy6r1t3 =>
            (try dsimp only at hSw)
            go_simp
            try with_reducible rfl
          try simp only [Act.put, List.setIfInBounds_toArray, List.set_cons_zero, List.set_cons_succ]
          refine anyT.take (i := 7) (v := ?gv7r1t3) rfl (by kernel_rfl) (fun _ _ _ h => h) (by rfl) (fun w hSw => ?gy7r1t3) hS ?gr7r1t3
          case gy7r1t3 =>
            (try dsimp only at hSw)
            go_simp
            try with_reducible rfl
          try simp only [Act.put, List.setIfInBounds_toArray, List.set_cons_zero, List.set_cons_succ]
          have HFIN := Lib.hid (rr_fin Hr1yr15.out HBr1yr15.out HOr1.out HPr1yr15.out HNr1yr15.out)
          obtain ⟨g1, g2, g3, g4⟩ := boxed HBr1yr15.out
          refine anyT.step (i := 9) rfl (by kernel_rfl) (fun K' hK => ?_)
          go_simp
          refine hK.out _ _ (fun _ => ⟨HFIN.out.1.cell HB05.out, HFIN.out.1.cell HB15.out⟩) (fun hS => ?_)
          try simp only [List.setIfInBounds_toArray, List.set_cons_zero, List.set_cons_succ]
          refine anyT.step (i := 10) rfl (by kernel_rfl) (fun K' hK => ?_)
          go_simp
          refine hK.out _ _ (not_more (by kernel_rfl)) (fun hS => ?_)
          refine anyT.done (by kernel_rfl) ?_
          go_wp2_with fail
          go_meet
          case rel => exact ⟨br1, _, _, _, _, rfl, rfl, HFIN.out⟩
      · go_simp
        have hux := Up.alloc yr10 (.cells #[.slice none 0 0, .slice none 0 0] 25)
        have hnb := blk_alloc_new yr10 (.cells #[.slice none 0 0, .slice none 0 0] 25)
        generalize yr10.alloc (.cells #[.slice none 0 0, .slice none 0 0] 25) = yr16 at *
        have Hr1yr16 := Lib.hid (Hr1yr10.out.trans hux)
        have HBr1yr16 := Lib.hid hnb
        have HOr1 : Hid (w5.heap.size ≤ yr10.heap.size) := Hr1yr10.out.size
        clear hux hnb
        generalize yr10.heap.size = br1 at *
        refine hK.out _ _ (fun _ => ⟨Hr1yr16.out.cell HB05.out, Hr1yr16.out.cell HB15.out⟩) (fun hS => ?_)
        try simp only [List.setIfInBounds_toArray, List.set_cons_zero, List.set_cons_succ]
        refine anyT.step (i := 3) rfl (by kernel_rfl) (fun K' hK => ?_)
        go_simp
        refine (HFA5.out _ Hr1yr16.out).mono ?_
        rintro e yr17 ⟨rfl, hux⟩
        have Hr1yr17 := Lib.hid (Hr1yr16.out.trans hux)
        have HBr1yr17 : Hid (yr17.heap[br1]? = some (Obj.cells #[.slice none 0 0, .slice none 0 0] 25 (0, 0))) := (Below.block hux br1 (Array.getElem?_eq_some_iff.1 HBr1yr16.out).1).trans HBr1yr16.out
        clear hux
        refine hK.out _ _ (fun _ => ⟨Hr1yr17.out.cell HB05.out, Hr1yr17.out.cell HB15.out⟩) (fun hS => ?_)
        try simp only [List.setIfInBounds_toArray, List.set_cons_zero, List.set_cons_succ]
        refine anyT.step (i := 4) rfl (by kernel_rfl) (fun K' hK => ?_)
        go_simp
        refine (HRA5.out _ Hr1yr17.out).mono ?_
        rintro e yr18 ⟨hux, vx, rfl, htx⟩
        have Hr1yr18 := Lib.hid (Hr1yr17.out.trans hux)
        have HBr1yr18 : Hid (yr18.heap[br1]? = some (Obj.cells #[.slice none 0 0, .slice none 0 0] 25 (0, 0))) := (Below.block hux br1 (Array.getElem?_eq_some_iff.1 HBr1yr17.out).1).trans HBr1yr17.out
        obtain ⟨Px, Nx, rfl, hPx, hNx⟩ := htx
        obtain ⟨pq, cq, rfl, _, _⟩ := SlAt.open hPx
        obtain ⟨nq, dq, rfl, _, _⟩ := SlAt.open hNx
        have HPr1yr18 : Hid (IntsAt Any yr18 (.slice pq (X).ps.length cq) (X).ps) := hPx
        have HNr1yr18 : Hid (StrsAt Any yr18 (.slice nq (X).ns.length dq) (X).ns) := hNx
        clear hux hPx hNx
        refine hK.out _ _ (fun _ => ⟨Hr1yr18.out.cell HB05.out, Hr1yr18.out.cell HB15.out⟩) (fun hS => ?_)
        try simp only [List.setIfInBounds_toArray, List.set_cons_zero, List.set_cons_succ]
        replace hS := hS ⟨10, by decide, rfl⟩
        refine anyT.take (i := 5) (v := ?gv5r1t4) rfl (by kernel_rfl) (fun _ _ _ h => h) (by rfl) (fun w hSw => ?gy5r1t4) hS ?gr5r1t4
        case gy5r1t4 =>
          (try dsimp only at hSw)
          go_simp
          try with_reducible rfl
        try simp only [Act.put, List.setIfInBounds_toArray, List.set_cons_zero, List.set_cons_succ]
        refine anyT.take (i := 6) (v := ?gv6r1t4) rfl (by kernel_rfl) (fun _ _ _ h => h) (by rfl) (fun w hSw => ?gy6r1t4) hS ?gr6r1t4
        case gy6r1t4 =>
          (try dsimp only at hSw)
          go_simp
          try with_reducible rfl
        try simp only [Act.put, List.setIfInBounds_toArray, List.set_cons_zero, List.set_cons_succ]
        refine anyT.take (i := 7) (v := ?gv7r1t4) rfl (by kernel_rfl) (fun _ _ _ h => h) (by rfl) (fun w hSw => ?gy7r1t4) hS ?gr7r1t4
        case gy7r1t4 =>
          (try dsimp only at hSw)
          go_simp
          try with_reducible rfl
        try simp only [Act.put, List.setIfInBounds_toArray, List.set_cons_zero, List.set_cons_succ]
        have HFIN := Lib.hid (rr_fin Hr1yr18.out HBr1yr18.out HOr1.out HPr1yr18.out HNr1yr18.out)
        obtain ⟨g1, g2, g3, g4⟩ := boxed HBr1yr18.out
        refine anyT.step (i := 9) rfl (by kernel_rfl) (fun K' hK => ?_)
        go_simp
        refine hK.out _ _ (fun _ => ⟨HFIN.out.1.cell HB05.out, HFIN.out.1.cell HB15.out⟩) (fun hS => ?_)
        try simp only [List.setIfInBounds_toArray, List.set_cons_zero, List.set_cons_succ]
        refine anyT.step (i := 10) rfl (by kernel_rfl) (fun K' hK => ?_)
        go_simp
        refine hK.out _ _ (not_more (by kernel_rfl)) (fun hS => ?_)
        refine anyT.done (by kernel_rfl) ?_
        go_wp2_with fail
        go_meet
        case rel => exact ⟨br1, _, _, _, _, rfl, rfl, HFIN.out⟩
    case rest =>
      obtain ⟨bx, xp, xc, xn, xd, rfl, rfl, hux, hbx, hPx, hNx⟩ := hcut
      obtain ⟨w6, rfl⟩ : ∃ w6 : World, w6 = wc := ⟨_, rfl⟩
      have HU6 := Lib.hid (HU5.out.trans hux)
      have HB06 := Lib.hid (hux.cell HB05.out)
      have HB16 := Lib.hid (hux.cell HB15.out)
      have HBX6 := Lib.hid hbx
      have HTX6 : Hid (TreeAt Any w6 (.agg #[.slice xp X.ps.length xc, .slice xn X.ns.length xd]) X) := ⟨_, _, rfl, hPx, hNx⟩
      have HFB6 : Hid (∀ W, Up w6 W → Calls Try.prog 29 #[.agg #[.slice pp t.ps.length pc, .slice (some ⟨nb, no, none⟩) t.ns.length nc], .string nbm] W fun e w' => e = .returned (.int .i64 lb) ∧ Up W w') := fun W hW => HFB.out W (HU6.out.trans hW)
      have HRB6 : Hid (∀ W, Up w6 W → Calls Try.prog 12 #[.agg #[.slice pp t.ps.length pc, .slice (some ⟨nb, no, none⟩) t.ns.length nc], .int .i64 lb] W fun e w' => Up W w' ∧ ∃ v, e = .returned (.tuple #[v, .int .i64 0]) ∧ TreeAt Any w' v Y) := fun W hW => HRB.out W (HU6.out.trans hW)
      clear hux hbx hPx hNx HFA5 HRA5 HFA HRA HB05 HB15
      go_wp2_with fail
      go_cut [13, 14] from 81 to 88 (fun p q wx => ∃ (b : Nat) (pq : Option Addr) (cq : Nat) (nq : Option Addr) (dq : Nat), p = .pointer (some ⟨b, 0, none⟩) ∧ q = .int .i64 0 ∧ Up w6 wx ∧ wx.heap[b]? = some (Obj.cells #[.slice pq (Y).ps.length cq, .slice nq (Y).ns.length dq] 25 (0, 0)) ∧ IntsAt Any wx (.slice pq (Y).ps.length cq) (Y).ps ∧ StrsAt Any wx (.slice nq (Y).ns.length dq) (Y).ns)
      case first =>
        refine region_T (by kernel_rfl) 11 (fun w' => w'.cell? ⟨w.heap.size, 0, none⟩ = some (.slice pp t.ps.length pc) ∧ w'.cell? ⟨w.heap.size, 1, none⟩ = some (.slice (some ⟨nb, no, none⟩) t.ns.length nc)) ⟨HB06.out, HB16.out⟩ (fun hS => ?_)
        simp only [List.size_toArray, List.length_cons, List.length_nil, Nat.reduceAdd, Array.replicate_succ, Array.replicate_zero, List.push_toArray, List.nil_append, List.cons_append]
        have Hr2yr20 : Hid (Up w6 w6.drew) := Up.drewN w6 1
        refine anyT.take (i := 0) (v := ?gv0r2t1) rfl (by kernel_rfl) (fun _ _ _ h => h) (by rfl) (fun w hSw => ?gy0r2t1) hS ?gr0r2t1
        case gy0r2t1 =>
          (try dsimp only at hSw)
          go_simp
          try with_reducible rfl
        try simp only [Act.put, List.setIfInBounds_toArray, List.set_cons_zero, List.set_cons_succ]
        refine anyT.take (i := 1) (v := ?gv1r2t1) rfl (by kernel_rfl) (fun _ _ _ h => h) (by rfl) (fun w hSw => ?gy1r2t1) hS ?gr1r2t1
        case gy1r2t1 =>
          (try dsimp only at hSw)
          go_simp
          try with_reducible rfl
        try simp only [Act.put, List.setIfInBounds_toArray, List.set_cons_zero, List.set_cons_succ]
        refine anyT.take (i := 2) (v := ?gv2r2t1) rfl (by kernel_rfl) (fun _ _ _ h => h) (by rfl) (fun w hSw => ?gy2r2t1) hS ?gr2r2t1
        case gy2r2t1 =>
          (try dsimp only at hSw)
          go_simp
          try with_reducible rfl
        try simp only [Act.put, List.setIfInBounds_toArray, List.set_cons_zero, List.set_cons_succ]
        generalize w6.drew = yr20 at *
        refine anyT.step2 (i := 3) (i2 := 8) rfl rfl (by kernel_rfl) (fun K' hK => ?_) (fun K' hK => ?_)
        · go_simp
          refine (HFB6.out _ Hr2yr20.out).mono ?_
          rintro e yr21 ⟨rfl, hux⟩
          have Hr2yr21 := Lib.hid (Hr2yr20.out.trans hux)
          clear hux
          refine hK.out _ _ (fun _ => ⟨Hr2yr21.out.cell HB06.out, Hr2yr21.out.cell HB16.out⟩) (fun hS => ?_)
          try simp only [List.setIfInBounds_toArray, List.set_cons_zero, List.set_cons_succ]
          refine anyT.step2 (i := 4) (i2 := 8) rfl rfl (by kernel_rfl) (fun K' hK => ?_) (fun K' hK => ?_)
          · go_simp
            refine (HRB6.out _ Hr2yr21.out).mono ?_
            rintro e yr22 ⟨hux, vx, rfl, htx⟩
            have Hr2yr22 := Lib.hid (Hr2yr21.out.trans hux)
            obtain ⟨Px, Nx, rfl, hPx, hNx⟩ := htx
            obtain ⟨pq, cq, rfl, _, _⟩ := SlAt.open hPx
            obtain ⟨nq, dq, rfl, _, _⟩ := SlAt.open hNx
            have HPr2yr22 : Hid (IntsAt Any yr22 (.slice pq (Y).ps.length cq) (Y).ps) := hPx
            have HNr2yr22 : Hid (StrsAt Any yr22 (.slice nq (Y).ns.length dq) (Y).ns) := hNx
            clear hux hPx hNx
            refine hK.out _ _ (fun _ => ⟨Hr2yr22.out.cell HB06.out, Hr2yr22.out.cell HB16.out⟩) (fun hS => ?_)
            try simp only [List.setIfInBounds_toArray, List.set_cons_zero, List.set_cons_succ]
            replace hS := hS ⟨10, by decide, rfl⟩
            refine anyT.take (i := 5) (v := ?gv5r2t2) rfl (by kernel_rfl) (fun _ _ _ h => h) (by rfl) (fun w hSw => ?gy5r2t2) hS ?gr5r2t2
            case gy5r2t2 =>
              (try dsimp only at hSw)
              go_simp
              try with_reducible rfl
            try simp only [Act.put, List.setIfInBounds_toArray, List.set_cons_zero, List.set_cons_succ]
            refine anyT.take (i := 6) (v := ?gv6r2t2) rfl (by kernel_rfl) (fun _ _ _ h => h) (by rfl) (fun w hSw => ?gy6r2t2) hS ?gr6r2t2
            case gy6r2t2 =>
              (try dsimp only at hSw)
              go_simp
              try with_reducible rfl
            try simp only [Act.put, List.setIfInBounds_toArray, List.set_cons_zero, List.set_cons_succ]
            refine anyT.take (i := 7) (v := ?gv7r2t2) rfl (by kernel_rfl) (fun _ _ _ h => h) (by rfl) (fun w hSw => ?gy7r2t2) hS ?gr7r2t2
            case gy7r2t2 =>
              (try dsimp only at hSw)
              go_simp
              try with_reducible rfl
            try simp only [Act.put, List.setIfInBounds_toArray, List.set_cons_zero, List.set_cons_succ]
            refine anyT.step (i := 8) rfl (by kernel_rfl) (fun K' hK => ?_)
            go_simp
            have hux := Up.alloc yr22 (.cells #[.slice none 0 0, .slice none 0 0] 25)
            have hnb := blk_alloc_new yr22 (.cells #[.slice none 0 0, .slice none 0 0] 25)
            generalize yr22.alloc (.cells #[.slice none 0 0, .slice none 0 0] 25) = yr23 at *
            have Hr2yr23 := Lib.hid (Hr2yr22.out.trans hux)
            have HBr2yr23 := Lib.hid hnb
            have HOr2 : Hid (w6.heap.size ≤ yr22.heap.size) := Hr2yr22.out.size
            have HPr2yr23 := Lib.hid (HPr2yr22.out.keep (hux.kept _))
            have HNr2yr23 := Lib.hid (HNr2yr22.out.keep (hux.kept _))
            clear hux hnb
            generalize yr22.heap.size = br2 at *
            refine hK.out _ _ (fun _ => ⟨Hr2yr23.out.cell HB06.out, Hr2yr23.out.cell HB16.out⟩) (fun hS => ?_)
            try simp only [List.setIfInBounds_toArray, List.set_cons_zero, List.set_cons_succ]
            have HFIN := Lib.hid (rr_fin Hr2yr23.out HBr2yr23.out HOr2.out HPr2yr23.out HNr2yr23.out)
            obtain ⟨g1, g2, g3, g4⟩ := boxed HBr2yr23.out
            refine anyT.step (i := 9) rfl (by kernel_rfl) (fun K' hK => ?_)
            go_simp
            refine hK.out _ _ (fun _ => ⟨HFIN.out.1.cell HB06.out, HFIN.out.1.cell HB16.out⟩) (fun hS => ?_)
            try simp only [List.setIfInBounds_toArray, List.set_cons_zero, List.set_cons_succ]
            refine anyT.step (i := 10) rfl (by kernel_rfl) (fun K' hK => ?_)
            go_simp
            refine hK.out _ _ (not_more (by kernel_rfl)) (fun hS => ?_)
            refine anyT.done (by kernel_rfl) ?_
            go_wp2_with fail
            go_meet
            case rel => exact ⟨br2, _, _, _, _, rfl, rfl, HFIN.out⟩
          · go_simp
            have hux := Up.alloc yr21 (.cells #[.slice none 0 0, .slice none 0 0] 25)
            have hnb := blk_alloc_new yr21 (.cells #[.slice none 0 0, .slice none 0 0] 25)
            generalize yr21.alloc (.cells #[.slice none 0 0, .slice none 0 0] 25) = yr24 at *
            have Hr2yr24 := Lib.hid (Hr2yr21.out.trans hux)
            have HBr2yr24 := Lib.hid hnb
            have HOr2 : Hid (w6.heap.size ≤ yr21.heap.size) := Hr2yr21.out.size
            clear hux hnb
            generalize yr21.heap.size = br2 at *
            refine hK.out _ _ (fun _ => ⟨Hr2yr24.out.cell HB06.out, Hr2yr24.out.cell HB16.out⟩) (fun hS => ?_)
            try simp only [List.setIfInBounds_toArray, List.set_cons_zero, List.set_cons_succ]
            refine anyT.step (i := 4) rfl (by kernel_rfl) (fun K' hK => ?_)
            go_simp
            refine (HRB6.out _ Hr2yr24.out).mono ?_
            rintro e yr25 ⟨hux, vx, rfl, htx⟩
            have Hr2yr25 := Lib.hid (Hr2yr24.out.trans hux)
            have HBr2yr25 : Hid (yr25.heap[br2]? = some (Obj.cells #[.slice none 0 0, .slice none 0 0] 25 (0, 0))) := (Below.block hux br2 (Array.getElem?_eq_some_iff.1 HBr2yr24.out).1).trans HBr2yr24.out
            obtain ⟨Px, Nx, rfl, hPx, hNx⟩ := htx
            obtain ⟨pq, cq, rfl, _, _⟩ := SlAt.open hPx
            obtain ⟨nq, dq, rfl, _, _⟩ := SlAt.open hNx
            have HPr2yr25 : Hid (IntsAt Any yr25 (.slice pq (Y).ps.length cq) (Y).ps) := hPx
            have HNr2yr25 : Hid (StrsAt Any yr25 (.slice nq (Y).ns.length dq) (Y).ns) := hNx
            clear hux hPx hNx
            refine hK.out _ _ (fun _ => ⟨Hr2yr25.out.cell HB06.out, Hr2yr25.out.cell HB16.out⟩) (fun hS => ?_)
            try simp only [List.setIfInBounds_toArray, List.set_cons_zero, List.set_cons_succ]
            replace hS := hS ⟨10, by decide, rfl⟩
            refine anyT.take (i := 5) (v := ?gv5r2t3) rfl (by kernel_rfl) (fun _ _ _ h => h) (by rfl) (fun w hSw => ?gy5r2t3) hS ?gr5r2t3
            case gy5r2t3 =>
              (try dsimp only at hSw)
              go_simp
              try with_reducible rfl
            try simp only [Act.put, List.setIfInBounds_toArray, List.set_cons_zero, List.set_cons_succ]
            refine anyT.take (i := 6) (v := ?gv6r2t3) rfl (by kernel_rfl) (fun _ _ _ h => h) (by rfl) (fun w hSw => ?gy6r2t3) hS ?gr6r2t3
            case gy6r2t3 =>
              (try dsimp only at hSw)
              go_simp
              try with_reducible rfl
            try simp only [Act.put, List.setIfInBounds_toArray, List.set_cons_zero, List.set_cons_succ]
            refine anyT.take (i := 7) (v := ?gv7r2t3) rfl (by kernel_rfl) (fun _ _ _ h => h) (by rfl) (fun w hSw => ?gy7r2t3) hS ?gr7r2t3
            case gy7r2t3 =>
              (try dsimp only at hSw)
              go_simp
              try with_reducible rfl
            try simp only [Act.put, List.setIfInBounds_toArray, List.set_cons_zero, List.set_cons_succ]
            have HFIN := Lib.hid (rr_fin Hr2yr25.out HBr2yr25.out HOr2.out HPr2yr25.out HNr2yr25.out)
            obtain ⟨g1, g2, g3, g4⟩ := boxed HBr2yr25.out
            refine anyT.step (i := 9) rfl (by kernel_rfl) (fun K' hK => ?_)
            go_simp
            refine hK.out _ _ (fun _ => ⟨HFIN.out.1.cell HB06.out, HFIN.out.1.cell HB16.out⟩) (fun hS => ?_)
            try simp only [List.setIfInBounds_toArray, List.set_cons_zero, List.set_cons_succ]
            refine anyT.step (i := 10) rfl (by kernel_rfl) (fun K' hK => ?_)
            go_simp
            refine hK.out _ _ (not_more (by kernel_rfl)) (fun hS => ?_)
            refine anyT.done (by kernel_rfl) ?_
            go_wp2_with fail
            go_meet
            case rel => exact ⟨br2, _, _, _, _, rfl, rfl, HFIN.out⟩
        · go_simp
          have hux := Up.alloc yr20 (.cells #[.slice none 0 0, .slice none 0 0] 25)
          have hnb := blk_alloc_new yr20 (.cells #[.slice none 0 0, .slice none 0 0] 25)
          generalize yr20.alloc (.cells #[.slice none 0 0, .slice none 0 0] 25) = yr26 at *
          have Hr2yr26 := Lib.hid (Hr2yr20.out.trans hux)
          have HBr2yr26 := Lib.hid hnb
          have HOr2 : Hid (w6.heap.size ≤ yr20.heap.size) := Hr2yr20.out.size
          clear hux hnb
          generalize yr20.heap.size = br2 at *
          refine hK.out _ _ (fun _ => ⟨Hr2yr26.out.cell HB06.out, Hr2yr26.out.cell HB16.out⟩) (fun hS => ?_)
          try simp only [List.setIfInBounds_toArray, List.set_cons_zero, List.set_cons_succ]
          refine anyT.step (i := 3) rfl (by kernel_rfl) (fun K' hK => ?_)
          go_simp
          refine (HFB6.out _ Hr2yr26.out).mono ?_
          rintro e yr27 ⟨rfl, hux⟩
          have Hr2yr27 := Lib.hid (Hr2yr26.out.trans hux)
          have HBr2yr27 : Hid (yr27.heap[br2]? = some (Obj.cells #[.slice none 0 0, .slice none 0 0] 25 (0, 0))) := (Below.block hux br2 (Array.getElem?_eq_some_iff.1 HBr2yr26.out).1).trans HBr2yr26.out
          clear hux
          refine hK.out _ _ (fun _ => ⟨Hr2yr27.out.cell HB06.out, Hr2yr27.out.cell HB16.out⟩) (fun hS => ?_)
          try simp only [List.setIfInBounds_toArray, List.set_cons_zero, List.set_cons_succ]
          refine anyT.step (i := 4) rfl (by kernel_rfl) (fun K' hK => ?_)
          go_simp
          refine (HRB6.out _ Hr2yr27.out).mono ?_
          rintro e yr28 ⟨hux, vx, rfl, htx⟩
          have Hr2yr28 := Lib.hid (Hr2yr27.out.trans hux)
          have HBr2yr28 : Hid (yr28.heap[br2]? = some (Obj.cells #[.slice none 0 0, .slice none 0 0] 25 (0, 0))) := (Below.block hux br2 (Array.getElem?_eq_some_iff.1 HBr2yr27.out).1).trans HBr2yr27.out
          obtain ⟨Px, Nx, rfl, hPx, hNx⟩ := htx
          obtain ⟨pq, cq, rfl, _, _⟩ := SlAt.open hPx
          obtain ⟨nq, dq, rfl, _, _⟩ := SlAt.open hNx
          have HPr2yr28 : Hid (IntsAt Any yr28 (.slice pq (Y).ps.length cq) (Y).ps) := hPx
          have HNr2yr28 : Hid (StrsAt Any yr28 (.slice nq (Y).ns.length dq) (Y).ns) := hNx
          clear hux hPx hNx
          refine hK.out _ _ (fun _ => ⟨Hr2yr28.out.cell HB06.out, Hr2yr28.out.cell HB16.out⟩) (fun hS => ?_)
          try simp only [List.setIfInBounds_toArray, List.set_cons_zero, List.set_cons_succ]
          replace hS := hS ⟨10, by decide, rfl⟩
          refine anyT.take (i := 5) (v := ?gv5r2t4) rfl (by kernel_rfl) (fun _ _ _ h => h) (by rfl) (fun w hSw => ?gy5r2t4) hS ?gr5r2t4
          case gy5r2t4 =>
            (try dsimp only at hSw)
            go_simp
            try with_reducible rfl
          try simp only [Act.put, List.setIfInBounds_toArray, List.set_cons_zero, List.set_cons_succ]
          refine anyT.take (i := 6) (v := ?gv6r2t4) rfl (by kernel_rfl) (fun _ _ _ h => h) (by rfl) (fun w hSw => ?gy6r2t4) hS ?gr6r2t4
          case gy6r2t4 =>
            (try dsimp only at hSw)
            go_simp
            try with_reducible rfl
          try simp only [Act.put, List.setIfInBounds_toArray, List.set_cons_zero, List.set_cons_succ]
          refine anyT.take (i := 7) (v := ?gv7r2t4) rfl (by kernel_rfl) (fun _ _ _ h => h) (by rfl) (fun w hSw => ?gy7r2t4) hS ?gr7r2t4
          case gy7r2t4 =>
            (try dsimp only at hSw)
            go_simp
            try with_reducible rfl
          try simp only [Act.put, List.setIfInBounds_toArray, List.set_cons_zero, List.set_cons_succ]
          have HFIN := Lib.hid (rr_fin Hr2yr28.out HBr2yr28.out HOr2.out HPr2yr28.out HNr2yr28.out)
          obtain ⟨g1, g2, g3, g4⟩ := boxed HBr2yr28.out
          refine anyT.step (i := 9) rfl (by kernel_rfl) (fun K' hK => ?_)
          go_simp
          refine hK.out _ _ (fun _ => ⟨HFIN.out.1.cell HB06.out, HFIN.out.1.cell HB16.out⟩) (fun hS => ?_)
          try simp only [List.setIfInBounds_toArray, List.set_cons_zero, List.set_cons_succ]
          refine anyT.step (i := 10) rfl (by kernel_rfl) (fun K' hK => ?_)
          go_simp
          refine hK.out _ _ (not_more (by kernel_rfl)) (fun hS => ?_)
          refine anyT.done (by kernel_rfl) ?_
          go_wp2_with fail
          go_meet
          case rel => exact ⟨br2, _, _, _, _, rfl, rfl, HFIN.out⟩
      case rest =>
        obtain ⟨by1, yp, yc, yn, yd, rfl, rfl, huy, hby, hPy, hNy⟩ := hcut
        obtain ⟨w7, rfl⟩ : ∃ w7 : World, w7 = wc := ⟨_, rfl⟩
        have HU7 := Lib.hid (HU6.out.trans huy)
        have HB07 := Lib.hid (huy.cell HB06.out)
        have HB17 := Lib.hid (huy.cell HB16.out)
        have hx7 := (Below.block huy bx (Array.getElem?_eq_some_iff.1 HBX6.out).1).trans HBX6.out
        obtain ⟨x0, x1, _, _⟩ := boxed hx7
        obtain ⟨y0, y1, _, _⟩ := boxed hby
        have HX0 := Lib.hid x0
        have HX1 := Lib.hid x1
        have HY0 := Lib.hid y0
        have HY1 := Lib.hid y1
        have HTX7 := Lib.hid (HTX6.out.keep (huy.kept _))
        have HTY7 : Hid (TreeAt Any w7 (.agg #[.slice yp Y.ps.length yc, .slice yn Y.ns.length yd]) Y) := ⟨_, _, rfl, hPy, hNy⟩
        have HTT7 := Lib.hid (HT0.out.keep (HU7.out.kept _))
        clear huy hby hPy hNy HFB6 HRB6 HFB HRB HB06 HB16 hx7 x0 x1 y0 y1 HBX6 HTX6
        have HNA7 : Hid (∀ W v, Up w7 W → (v = .agg #[.slice xp X.ps.length xc, .slice xn X.ns.length xd] ∨ v = .agg #[.slice yp Y.ps.length yc, .slice yn Y.ns.length yd] ∨ v = .agg #[.slice pp t.ps.length pc, .slice (some ⟨nb, no, none⟩) t.ns.length nc]) → Calls Try.prog 31 #[v] W fun e w' => Up W w' ∧ ∃ u, e = .returned u ∧ StrsAt Any w' u SN) := fun W v hW hv => by
          rcases hv with rfl | rfl | rfl
          · exact HNX.out W _ (HTX7.out.keep (hW.kept _))
          · exact HNY.out W _ (HTY7.out.keep (hW.kept _))
          · exact HNT.out W _ (HTT7.out.keep (hW.kept _))
        have HCK7 : Hid (∀ W, Up w7 W → Calls Try.prog 26 #[.agg #[.slice xp X.ps.length xc, .slice xn X.ns.length xd]] W fun e w' => e = .returned (.int .i64 0) ∧ Up W w') := fun W hW => HCK.out W _ (HTX7.out.keep (hW.kept _))
        clear HNX HNY HNT HCK
        go_wp2_with fail
        have hup : Hid (Up w7 (w7.drewN 1)) := Up.drewN w7 1
        go_region_held3 (fun w' => Hid (Up w7 w') ∧ w'.cell? ⟨w.heap.size, 0, none⟩ = some (.slice pp t.ps.length pc) ∧ w'.cell? ⟨w.heap.size, 1, none⟩ = some (.slice (some ⟨nb, no, none⟩) t.ns.length nc) ∧ w'.cell? ⟨bx, 0, none⟩ = some (.slice xp X.ps.length xc) ∧ w'.cell? ⟨bx, 1, none⟩ = some (.slice xn X.ns.length xd) ∧ w'.cell? ⟨by1, 0, none⟩ = some (.slice yp Y.ps.length yc) ∧ w'.cell? ⟨by1, 1, none⟩ = some (.slice yn Y.ns.length yd)) (exact ⟨hup, hup.out.cell HB07.out, hup.out.cell HB17.out, hup.out.cell HX0.out, hup.out.cell HX1.out, hup.out.cell HY0.out, hup.out.cell HY1.out⟩) (first
          | (go_at_call 26; refine (HCK7.out _ hup.out).mono ?_; rintro e w10 ⟨rfl, hb10⟩; have hup : Hid (Up w7 w10) := hup.out.trans hb10; clear hb10)
          | (go_at_call 31; have hq := HS12.out; refine (HNA7.out _ _ hup.out (by first | exact .inr (.inr rfl) | exact .inl rfl | exact .inr (.inl rfl))).mono ?_; rintro e w13 ⟨hb13, v13, rfl, ho13⟩; have HS13 := Lib.hid ho13; have HS12 := Lib.hid (hq.keep (hb13.kept _)); have hup : Hid (Up w7 w13) := hup.out.trans hb13; clear hb13 ho13 hq)
          | (go_at_call 31; refine (HNA7.out _ _ hup.out (by first | exact .inl rfl | exact .inr (.inl rfl) | exact .inr (.inr rfl))).mono ?_; rintro e w12 ⟨hb12, v12, rfl, ho12⟩; have HS12 := Lib.hid ho12; have hup : Hid (Up w7 w12) := hup.out.trans hb12; clear hb12 ho12)
          | (go_at_call 30; refine (HEQ.out _ _ _ HS12.out HS13.out).mono ?_; rintro e w14 ⟨rfl, n14, rfl⟩; have hup : Hid (Up w7 (w13.drewN n14)) := hup.out.trans (Up.drewN _ _); clear HS12 HS13))
        have HUW := Lib.hid (HU7.out.trans hup.out)
        have HB08 := Lib.hid (hup.out.cell HB07.out)
        have HX08 := Lib.hid (hup.out.cell HX0.out)
        have HX18 := Lib.hid (hup.out.cell HX1.out)
        have HY08 := Lib.hid (hup.out.cell HY0.out)
        have HY18 := Lib.hid (hup.out.cell HY1.out)
        have HTX8 := Lib.hid (HTX7.out.keep (hup.out.kept _))
        have HTY8 := Lib.hid (HTY7.out.keep (hup.out.kept _))
        clear hup HB07 HB17 HX0 HX1 HY0 HY1 HTX7 HTY7 HTT7 HNA7 HCK7 HEQ HLL HU7
        generalize w13.drewN n14 = w8 at *
        have HFX8 : Hid (∀ W, Up w8 W → Calls Try.prog 29 #[.agg #[.slice xp X.ps.length xc, .slice xn X.ns.length xd], .string nbm] W fun e w' => e = .returned (.int .i64 lx) ∧ Up W w') := fun W hW => HFX.out W _ (HTX8.out.keep (hW.kept _))
        have HRX8 : Hid (∀ W, Up w8 W → Calls Try.prog 12 #[.agg #[.slice xp X.ps.length xc, .slice xn X.ns.length xd], .int .i64 lx] W fun e w' => Up W w' ∧ ∃ v, e = .returned (.tuple #[v, .int .i64 0]) ∧ TreeAt Any w' v Y) := fun W hW => HRX.out W _ (HTX8.out.keep (hW.kept _))
        go_wp2_with fail
        go_cut [15, 16] from 116 to 123 (fun p q wx => ∃ (b : Nat) (pq : Option Addr) (cq : Nat) (nq : Option Addr) (dq : Nat), p = .pointer (some ⟨b, 0, none⟩) ∧ q = .int .i64 0 ∧ Up w8 wx ∧ wx.heap[b]? = some (Obj.cells #[.slice pq (Y).ps.length cq, .slice nq (Y).ns.length dq] 25 (0, 0)) ∧ IntsAt Any wx (.slice pq (Y).ps.length cq) (Y).ps ∧ StrsAt Any wx (.slice nq (Y).ns.length dq) (Y).ns)
        case first =>
          refine region_T (by kernel_rfl) 11 (fun w' => w'.cell? ⟨bx, 0, none⟩ = some (.slice xp X.ps.length xc) ∧ w'.cell? ⟨bx, 1, none⟩ = some (.slice xn X.ns.length xd)) ⟨HX08.out, HX18.out⟩ (fun hS => ?_)
          simp only [List.size_toArray, List.length_cons, List.length_nil, Nat.reduceAdd, Array.replicate_succ, Array.replicate_zero, List.push_toArray, List.nil_append, List.cons_append]
          have Hr3yr30 : Hid (Up w8 w8.drew) := Up.drewN w8 1
          refine anyT.take (i := 0) (v := ?gv0r3t1) rfl (by kernel_rfl) (fun _ _ _ h => h) (by rfl) (fun w hSw => ?gy0r3t1) hS ?gr0r3t1
          case gy0r3t1 =>
            (try dsimp only at hSw)
            go_simp
            try with_reducible rfl
          try simp only [Act.put, List.setIfInBounds_toArray, List.set_cons_zero, List.set_cons_succ]
          refine anyT.take (i := 1) (v := ?gv1r3t1) rfl (by kernel_rfl) (fun _ _ _ h => h) (by rfl) (fun w hSw => ?gy1r3t1) hS ?gr1r3t1
          case gy1r3t1 =>
            (try dsimp only at hSw)
            go_simp
            try with_reducible rfl
          try simp only [Act.put, List.setIfInBounds_toArray, List.set_cons_zero, List.set_cons_succ]
          refine anyT.take (i := 2) (v := ?gv2r3t1) rfl (by kernel_rfl) (fun _ _ _ h => h) (by rfl) (fun w hSw => ?gy2r3t1) hS ?gr2r3t1
          case gy2r3t1 =>
            (try dsimp only at hSw)
            go_simp
            try with_reducible rfl
          try simp only [Act.put, List.setIfInBounds_toArray, List.set_cons_zero, List.set_cons_succ]
          generalize w8.drew = yr30 at *
          refine anyT.step2 (i := 3) (i2 := 8) rfl rfl (by kernel_rfl) (fun K' hK => ?_) (fun K' hK => ?_)
          · go_simp
            refine (HFX8.out _ Hr3yr30.out).mono ?_
            rintro e yr31 ⟨rfl, hux⟩
            have Hr3yr31 := Lib.hid (Hr3yr30.out.trans hux)
            clear hux
            refine hK.out _ _ (fun _ => ⟨Hr3yr31.out.cell HX08.out, Hr3yr31.out.cell HX18.out⟩) (fun hS => ?_)
            try simp only [List.setIfInBounds_toArray, List.set_cons_zero, List.set_cons_succ]
            refine anyT.step2 (i := 4) (i2 := 8) rfl rfl (by kernel_rfl) (fun K' hK => ?_) (fun K' hK => ?_)
            · go_simp
              refine (HRX8.out _ Hr3yr31.out).mono ?_
              rintro e yr32 ⟨hux, vx, rfl, htx⟩
              have Hr3yr32 := Lib.hid (Hr3yr31.out.trans hux)
              obtain ⟨Px, Nx, rfl, hPx, hNx⟩ := htx
              obtain ⟨pq, cq, rfl, _, _⟩ := SlAt.open hPx
              obtain ⟨nq, dq, rfl, _, _⟩ := SlAt.open hNx
              have HPr3yr32 : Hid (IntsAt Any yr32 (.slice pq (Y).ps.length cq) (Y).ps) := hPx
              have HNr3yr32 : Hid (StrsAt Any yr32 (.slice nq (Y).ns.length dq) (Y).ns) := hNx
              clear hux hPx hNx
              refine hK.out _ _ (fun _ => ⟨Hr3yr32.out.cell HX08.out, Hr3yr32.out.cell HX18.out⟩) (fun hS => ?_)
              try simp only [List.setIfInBounds_toArray, List.set_cons_zero, List.set_cons_succ]
              replace hS := hS ⟨10, by decide, rfl⟩
              refine anyT.take (i := 5) (v := ?gv5r3t2) rfl (by kernel_rfl) (fun _ _ _ h => h) (by rfl) (fun w hSw => ?gy5r3t2) hS ?gr5r3t2
              case gy5r3t2 =>
                (try dsimp only at hSw)
                go_simp
                try with_reducible rfl
              try simp only [Act.put, List.setIfInBounds_toArray, List.set_cons_zero, List.set_cons_succ]
              refine anyT.take (i := 6) (v := ?gv6r3t2) rfl (by kernel_rfl) (fun _ _ _ h => h) (by rfl) (fun w hSw => ?gy6r3t2) hS ?gr6r3t2
              case gy6r3t2 =>
                (try dsimp only at hSw)
                go_simp
                try with_reducible rfl
              try simp only [Act.put, List.setIfInBounds_toArray, List.set_cons_zero, List.set_cons_succ]
              refine anyT.take (i := 7) (v := ?gv7r3t2) rfl (by kernel_rfl) (fun _ _ _ h => h) (by rfl) (fun w hSw => ?gy7r3t2) hS ?gr7r3t2
              case gy7r3t2 =>
                (try dsimp only at hSw)
                go_simp
                try with_reducible rfl
              try simp only [Act.put, List.setIfInBounds_toArray, List.set_cons_zero, List.set_cons_succ]
              refine anyT.step (i := 8) rfl (by kernel_rfl) (fun K' hK => ?_)
              go_simp
              have hux := Up.alloc yr32 (.cells #[.slice none 0 0, .slice none 0 0] 25)
              have hnb := blk_alloc_new yr32 (.cells #[.slice none 0 0, .slice none 0 0] 25)
              generalize yr32.alloc (.cells #[.slice none 0 0, .slice none 0 0] 25) = yr33 at *
              have Hr3yr33 := Lib.hid (Hr3yr32.out.trans hux)
              have HBr3yr33 := Lib.hid hnb
              have HOr3 : Hid (w8.heap.size ≤ yr32.heap.size) := Hr3yr32.out.size
              have HPr3yr33 := Lib.hid (HPr3yr32.out.keep (hux.kept _))
              have HNr3yr33 := Lib.hid (HNr3yr32.out.keep (hux.kept _))
              clear hux hnb
              generalize yr32.heap.size = br3 at *
              refine hK.out _ _ (fun _ => ⟨Hr3yr33.out.cell HX08.out, Hr3yr33.out.cell HX18.out⟩) (fun hS => ?_)
              try simp only [List.setIfInBounds_toArray, List.set_cons_zero, List.set_cons_succ]
              have HFIN := Lib.hid (rr_fin Hr3yr33.out HBr3yr33.out HOr3.out HPr3yr33.out HNr3yr33.out)
              obtain ⟨g1, g2, g3, g4⟩ := boxed HBr3yr33.out
              refine anyT.step (i := 9) rfl (by kernel_rfl) (fun K' hK => ?_)
              go_simp
              refine hK.out _ _ (fun _ => ⟨HFIN.out.1.cell HX08.out, HFIN.out.1.cell HX18.out⟩) (fun hS => ?_)
              try simp only [List.setIfInBounds_toArray, List.set_cons_zero, List.set_cons_succ]
              refine anyT.step (i := 10) rfl (by kernel_rfl) (fun K' hK => ?_)
              go_simp
              refine hK.out _ _ (not_more (by kernel_rfl)) (fun hS => ?_)
              refine anyT.done (by kernel_rfl) ?_
              go_wp2_with fail
              go_meet
              case rel => exact ⟨br3, _, _, _, _, rfl, rfl, HFIN.out⟩
            · go_simp
              have hux := Up.alloc yr31 (.cells #[.slice none 0 0, .slice none 0 0] 25)
              have hnb := blk_alloc_new yr31 (.cells #[.slice none 0 0, .slice none 0 0] 25)
              generalize yr31.alloc (.cells #[.slice none 0 0, .slice none 0 0] 25) = yr34 at *
              have Hr3yr34 := Lib.hid (Hr3yr31.out.trans hux)
              have HBr3yr34 := Lib.hid hnb
              have HOr3 : Hid (w8.heap.size ≤ yr31.heap.size) := Hr3yr31.out.size
              clear hux hnb
              generalize yr31.heap.size = br3 at *
              refine hK.out _ _ (fun _ => ⟨Hr3yr34.out.cell HX08.out, Hr3yr34.out.cell HX18.out⟩) (fun hS => ?_)
              try simp only [List.setIfInBounds_toArray, List.set_cons_zero, List.set_cons_succ]
              refine anyT.step (i := 4) rfl (by kernel_rfl) (fun K' hK => ?_)
              go_simp
              refine (HRX8.out _ Hr3yr34.out).mono ?_
              rintro e yr35 ⟨hux, vx, rfl, htx⟩
              have Hr3yr35 := Lib.hid (Hr3yr34.out.trans hux)
              have HBr3yr35 : Hid (yr35.heap[br3]? = some (Obj.cells #[.slice none 0 0, .slice none 0 0] 25 (0, 0))) := (Below.block hux br3 (Array.getElem?_eq_some_iff.1 HBr3yr34.out).1).trans HBr3yr34.out
              obtain ⟨Px, Nx, rfl, hPx, hNx⟩ := htx
              obtain ⟨pq, cq, rfl, _, _⟩ := SlAt.open hPx
              obtain ⟨nq, dq, rfl, _, _⟩ := SlAt.open hNx
              have HPr3yr35 : Hid (IntsAt Any yr35 (.slice pq (Y).ps.length cq) (Y).ps) := hPx
              have HNr3yr35 : Hid (StrsAt Any yr35 (.slice nq (Y).ns.length dq) (Y).ns) := hNx
              clear hux hPx hNx
              refine hK.out _ _ (fun _ => ⟨Hr3yr35.out.cell HX08.out, Hr3yr35.out.cell HX18.out⟩) (fun hS => ?_)
              try simp only [List.setIfInBounds_toArray, List.set_cons_zero, List.set_cons_succ]
              replace hS := hS ⟨10, by decide, rfl⟩
              refine anyT.take (i := 5) (v := ?gv5r3t3) rfl (by kernel_rfl) (fun _ _ _ h => h) (by rfl) (fun w hSw => ?gy5r3t3) hS ?gr5r3t3
              case gy5r3t3 =>
                (try dsimp only at hSw)
                go_simp
                try with_reducible rfl
              try simp only [Act.put, List.setIfInBounds_toArray, List.set_cons_zero, List.set_cons_succ]
              refine anyT.take (i := 6) (v := ?gv6r3t3) rfl (by kernel_rfl) (fun _ _ _ h => h) (by rfl) (fun w hSw => ?gy6r3t3) hS ?gr6r3t3
              case gy6r3t3 =>
                (try dsimp only at hSw)
                go_simp
                try with_reducible rfl
              try simp only [Act.put, List.setIfInBounds_toArray, List.set_cons_zero, List.set_cons_succ]
              refine anyT.take (i := 7) (v := ?gv7r3t3) rfl (by kernel_rfl) (fun _ _ _ h => h) (by rfl) (fun w hSw => ?gy7r3t3) hS ?gr7r3t3
              case gy7r3t3 =>
                (try dsimp only at hSw)
                go_simp
                try with_reducible rfl
              try simp only [Act.put, List.setIfInBounds_toArray, List.set_cons_zero, List.set_cons_succ]
              have HFIN := Lib.hid (rr_fin Hr3yr35.out HBr3yr35.out HOr3.out HPr3yr35.out HNr3yr35.out)
              obtain ⟨g1, g2, g3, g4⟩ := boxed HBr3yr35.out
              refine anyT.step (i := 9) rfl (by kernel_rfl) (fun K' hK => ?_)
              go_simp
              refine hK.out _ _ (fun _ => ⟨HFIN.out.1.cell HX08.out, HFIN.out.1.cell HX18.out⟩) (fun hS => ?_)
              try simp only [List.setIfInBounds_toArray, List.set_cons_zero, List.set_cons_succ]
              refine anyT.step (i := 10) rfl (by kernel_rfl) (fun K' hK => ?_)
              go_simp
              refine hK.out _ _ (not_more (by kernel_rfl)) (fun hS => ?_)
              refine anyT.done (by kernel_rfl) ?_
              go_wp2_with fail
              go_meet
              case rel => exact ⟨br3, _, _, _, _, rfl, rfl, HFIN.out⟩
          · go_simp
            have hux := Up.alloc yr30 (.cells #[.slice none 0 0, .slice none 0 0] 25)
            have hnb := blk_alloc_new yr30 (.cells #[.slice none 0 0, .slice none 0 0] 25)
            generalize yr30.alloc (.cells #[.slice none 0 0, .slice none 0 0] 25) = yr36 at *
            have Hr3yr36 := Lib.hid (Hr3yr30.out.trans hux)
            have HBr3yr36 := Lib.hid hnb
            have HOr3 : Hid (w8.heap.size ≤ yr30.heap.size) := Hr3yr30.out.size
            clear hux hnb
            generalize yr30.heap.size = br3 at *
            refine hK.out _ _ (fun _ => ⟨Hr3yr36.out.cell HX08.out, Hr3yr36.out.cell HX18.out⟩) (fun hS => ?_)
            try simp only [List.setIfInBounds_toArray, List.set_cons_zero, List.set_cons_succ]
            refine anyT.step (i := 3) rfl (by kernel_rfl) (fun K' hK => ?_)
            go_simp
            refine (HFX8.out _ Hr3yr36.out).mono ?_
            rintro e yr37 ⟨rfl, hux⟩
            have Hr3yr37 := Lib.hid (Hr3yr36.out.trans hux)
            have HBr3yr37 : Hid (yr37.heap[br3]? = some (Obj.cells #[.slice none 0 0, .slice none 0 0] 25 (0, 0))) := (Below.block hux br3 (Array.getElem?_eq_some_iff.1 HBr3yr36.out).1).trans HBr3yr36.out
            clear hux
            refine hK.out _ _ (fun _ => ⟨Hr3yr37.out.cell HX08.out, Hr3yr37.out.cell HX18.out⟩) (fun hS => ?_)
            try simp only [List.setIfInBounds_toArray, List.set_cons_zero, List.set_cons_succ]
            refine anyT.step (i := 4) rfl (by kernel_rfl) (fun K' hK => ?_)
            go_simp
            refine (HRX8.out _ Hr3yr37.out).mono ?_
            rintro e yr38 ⟨hux, vx, rfl, htx⟩
            have Hr3yr38 := Lib.hid (Hr3yr37.out.trans hux)
            have HBr3yr38 : Hid (yr38.heap[br3]? = some (Obj.cells #[.slice none 0 0, .slice none 0 0] 25 (0, 0))) := (Below.block hux br3 (Array.getElem?_eq_some_iff.1 HBr3yr37.out).1).trans HBr3yr37.out
            obtain ⟨Px, Nx, rfl, hPx, hNx⟩ := htx
            obtain ⟨pq, cq, rfl, _, _⟩ := SlAt.open hPx
            obtain ⟨nq, dq, rfl, _, _⟩ := SlAt.open hNx
            have HPr3yr38 : Hid (IntsAt Any yr38 (.slice pq (Y).ps.length cq) (Y).ps) := hPx
            have HNr3yr38 : Hid (StrsAt Any yr38 (.slice nq (Y).ns.length dq) (Y).ns) := hNx
            clear hux hPx hNx
            refine hK.out _ _ (fun _ => ⟨Hr3yr38.out.cell HX08.out, Hr3yr38.out.cell HX18.out⟩) (fun hS => ?_)
            try simp only [List.setIfInBounds_toArray, List.set_cons_zero, List.set_cons_succ]
            replace hS := hS ⟨10, by decide, rfl⟩
            refine anyT.take (i := 5) (v := ?gv5r3t4) rfl (by kernel_rfl) (fun _ _ _ h => h) (by rfl) (fun w hSw => ?gy5r3t4) hS ?gr5r3t4
            case gy5r3t4 =>
              (try dsimp only at hSw)
              go_simp
              try with_reducible rfl
            try simp only [Act.put, List.setIfInBounds_toArray, List.set_cons_zero, List.set_cons_succ]
            refine anyT.take (i := 6) (v := ?gv6r3t4) rfl (by kernel_rfl) (fun _ _ _ h => h) (by rfl) (fun w hSw => ?gy6r3t4) hS ?gr6r3t4
            case gy6r3t4 =>
              (try dsimp only at hSw)
              go_simp
              try with_reducible rfl
            try simp only [Act.put, List.setIfInBounds_toArray, List.set_cons_zero, List.set_cons_succ]
            refine anyT.take (i := 7) (v := ?gv7r3t4) rfl (by kernel_rfl) (fun _ _ _ h => h) (by rfl) (fun w hSw => ?gy7r3t4) hS ?gr7r3t4
            case gy7r3t4 =>
              (try dsimp only at hSw)
              go_simp
              try with_reducible rfl
            try simp only [Act.put, List.setIfInBounds_toArray, List.set_cons_zero, List.set_cons_succ]
            have HFIN := Lib.hid (rr_fin Hr3yr38.out HBr3yr38.out HOr3.out HPr3yr38.out HNr3yr38.out)
            obtain ⟨g1, g2, g3, g4⟩ := boxed HBr3yr38.out
            refine anyT.step (i := 9) rfl (by kernel_rfl) (fun K' hK => ?_)
            go_simp
            refine hK.out _ _ (fun _ => ⟨HFIN.out.1.cell HX08.out, HFIN.out.1.cell HX18.out⟩) (fun hS => ?_)
            try simp only [List.setIfInBounds_toArray, List.set_cons_zero, List.set_cons_succ]
            refine anyT.step (i := 10) rfl (by kernel_rfl) (fun K' hK => ?_)
            go_simp
            refine hK.out _ _ (not_more (by kernel_rfl)) (fun hS => ?_)
            refine anyT.done (by kernel_rfl) ?_
            go_wp2_with fail
            go_meet
            case rel => exact ⟨br3, _, _, _, _, rfl, rfl, HFIN.out⟩
        case rest =>
          obtain ⟨bz, zp, zc, zn, zd, rfl, rfl, huz, hbz, hPz, hNz⟩ := hcut
          obtain ⟨w9, rfl⟩ : ∃ w9 : World, w9 = wc := ⟨_, rfl⟩
          have HU9 := Lib.hid (HUW.out.trans huz)
          obtain ⟨z0, z1, _, _⟩ := boxed hbz
          have x0 := huz.cell HX08.out
          have x1 := huz.cell HX18.out
          have y0 := huz.cell HY08.out
          have y1 := huz.cell HY18.out
          have HX09 := Lib.hid x0
          have HX19 := Lib.hid x1
          have HTX9 := Lib.hid (HTX8.out.keep (huz.kept _))
          have HS9 : Hid (Calls Try.prog 32 #[.agg #[.slice zp Y.ps.length zc, .slice zn Y.ns.length zd], .agg #[.slice yp Y.ps.length yc, .slice yn Y.ns.length yd]] w9 fun e w' => e = .returned (.bool true) ∧ Up w9 w') := HST.out w9 _ _ ⟨_, _, rfl, hPz, hNz⟩ (HTY8.out.keep (huz.kept _))
          clear huz hbz hPz hNz HFX8 HRX8 HFX HRX HX08 HX18 HY08 HY18 HTX8 HTY8 HST HUW
          go_wp2_with fail
          refine HS9.out.mono ?_
          rintro e w10 ⟨rfl, hu10⟩
          have x0 := hu10.cell HX09.out
          have x1 := hu10.cell HX19.out
          have HU10 := Lib.hid (HU9.out.trans hu10)
          have HTX10 := Lib.hid (HTX9.out.keep (hu10.kept _))
          have HFN10 := Lib.hid (HFN.out w10 _ HTX10.out)
          have HX010 := Lib.hid x0
          have HX110 := Lib.hid x1
          clear hu10 y0 y1 z0 z1 HS9 HX09 HX19 HTX9
          go_wp2_with fail
          refine HFN10.out.mono ?_
          rintro e w11 ⟨rfl, hu11⟩
          have x0 := hu11.cell HX010.out
          have x1 := hu11.cell HX110.out
          have HU11 := Lib.hid (HU10.out.trans hu11)
          have HX011 := Lib.hid x0
          have HPX11 : Hid (∀ W, Up w11 W → IntsAt Any W (.slice xp X.ps.length xc) X.ps) := fun W hW => by
            obtain ⟨P, N, e, hP, _⟩ := HTX10.out.keep ((hu11.trans hW).kept _)
            injection e with e
            have := congrArg Array.toList e
            simp at this
            rw [← this.1] at hP; exact hP
          clear hu11 HFN10 HX010 HX110
          rcases HPL.out with ⟨p1, p2, p3⟩ | ⟨p1, p2, n, p3, p4, p5, p6⟩
          · have d1 : ((m : Int) == 1) = true := by rw [p1]; rfl
            have d2 : ((X.ps.length : Int) == 1) = true := by rw [p2]; rfl
            rw [p3]
            clear p1 p2 p3 HPL
            go_wp2_with (first | (go_at_call 20; refine (HAW.out _).mono ?_; rintro e w' ⟨rfl, hu⟩) | fail)
            go_ret
            exact ⟨rfl, HU11.out.trans hu⟩
          · have d1 : ((m : Int) == 1) = false := beq_eq_false_iff_ne.2 (by omega)
            have P2 := Lib.hid p2
            have P4 := Lib.hid p4
            have P5 := Lib.hid p5
            have P6 := Lib.hid p6
            rw [p3]
            clear p1 p2 p3 p4 p5 p6 HPL
            go_wp2_with fail
            clear x0 x1
            go_loopw [18, 20, 152] (fun q _ i wr => ∃ k : Nat, k ≤ X.ps.length ∧ i = .int .i64 k ∧ q = .int .i64 (cntI X.ps 0 k) ∧ wr = w11) (fun _ _ i _ => X.ps.length - (intOf i).toNat)
            case atStart => exact ⟨0, Nat.zero_le _, rfl, rfl, rfl⟩
            case round =>
              obtain ⟨k, hk, rfl, rfl, rfl⟩ := hrel
              have HCS : Hid (cntI X.ps 0 (k + 1) = if gi X.ps k = 0 then cntI X.ps 0 k + 1 else cntI X.ps 0 k) := rfl
              have hcj : cntI X.ps 0 k ≤ k := cntI_le31 X.ps 0 k
              have hx17 := HXP.out
              by_cases hlt : k < X.ps.length
              · obtain ⟨b2, off, e1, hcell⟩ := ints_get (HPX11.out _ (Up.refl _)) hlt
                have i1 : (0 : Int) ≤ (k : Int) := by omega
                have i2 : (k : Int) < (X.ps.length : Int) := by omega
                have hk17 : k < 17 := by omega
                have HLT := Lib.hid hlt
                have HK17 := Lib.hid hk17
                have HC17 : Hid (cntI X.ps 0 k < 17) := by unfold Hid; omega
                subst e1
                clear hx17 hcj
                generalize gi X.ps k = gk at *
                generalize cntI X.ps 0 k = ck at *
                by_cases e : gk = 0
                · have d3 : (gk == 0) = true := by simpa using e
                  have HF : Hid (cntI X.ps 0 (k + 1) = ck + 1) := by unfold Hid; rw [HCS.out, if_pos e]
                  clear e
                  go_wp2_with fail
                  go_roundw
                  case rel => exact ⟨k + 1, HLT.out, by have := HK17.out; go_num, by rw [HF.out]; have hc17 : ck < 17 := HC17.out; rw [show wrap64 ((ck : Int) + 1) = ((ck + 1 : Nat) : Int) by unfold wrap64; omega], trivial⟩
                  case measure => have := HLT.out; have := HK17.out; simp [intOf]; omega
                · have d3 : (gk == 0) = false := by simpa using e
                  have HF : Hid (cntI X.ps 0 (k + 1) = ck) := by unfold Hid; rw [HCS.out, if_neg e]
                  clear e
                  go_wp2_with fail
                  go_roundw
                  case rel => exact ⟨k + 1, HLT.out, by have := HK17.out; go_num, by rw [HF.out], trivial⟩
                  case measure => have := HLT.out; have := HK17.out; simp [intOf]; omega
              · obtain rfl : k = X.ps.length := by omega
                obtain ⟨b2, off, e1, hcell⟩ := ints_get (HPX11.out _ (Up.refl _)) P5.out
                rw [P6.out] at hcell
                have x0 := HX011.out
                have i1 : (0 : Int) ≤ (n : Int) := by omega
                have i2 : (n : Int) < (X.ps.length : Int) := Int.ofNat_lt.2 P5.out
                have d4 : decide ((0 : Int) < (n : Int)) = true := decide_eq_true (Int.ofNat_lt.2 P4.out)
                have i3 : (0 : Int) < (n : Int) := Int.ofNat_lt.2 P4.out
                rw [P2.out]
                subst e1
                clear hcj hx17 hlt hk
                go_wp2_with (first | (go_at_call 20; refine (HAW.out _).mono ?_; rintro e w' ⟨rfl, hu⟩) | fail)
                go_ret
                exact ⟨rfl, HU11.out.trans hu⟩
end Go.Proofs.Ytcaialhoclodjaa
