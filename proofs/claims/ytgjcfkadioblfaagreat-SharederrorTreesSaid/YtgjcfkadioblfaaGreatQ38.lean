/- The contract of layer 31's reference's Great. The walk of SharederrorTrees. -/
import Derived.Test.YtgjcfkadioblfaaGreatQ28
import Derived.Test.YtgjcfkadioblfaaGreatQ29
import Derived.Test.YtgjcfkadioblfaaGreatQ37
import Derived.Test.YtgjcfkadioblfaaGreatQ8
namespace Go.Proofs.YtgjcfkadioblfaaGreat
open Go.RowKit Go.Deep
def gt31B (t : Tre) (n : Nat) : Bool := (decide (n < t.ps.length) && decide (t.ps.length ≤ 64)) || decide (66 < t.ps.length) || decide (t.ps.length + 2 < t.ns.length) || (List.range t.ns.length).any fun k => decide (20 < (gs t.ns k).size)
set_option maxRecDepth 100000 in
set_option maxHeartbeats 2000000 in
theorem great31_t (S : Nat → Prop) (w : World) (v : Value) (t : Tre) (n : Nat) (hT : TreeAt S w v t) (hp : t.ps.length ≤ 9223372036854775807) (hn : t.ns.length ≤ 9223372036854775807) (hz : ∀ k, (gs t.ns k).size ≤ 9223372036854775807) :
    Calls Tryz.prog 10 #[v, .int .i64 n] w fun e w' => e = .returned (.bool (gt31B t n)) ∧ Below w.heap.size w w' := by
  obtain ⟨P, N, rfl, hP, hN⟩ := hT
  have hu := Up.alloc w (.cells #[P, N] 25)
  have HU := Lib.hid hu
  have HN := Lib.hid (StrsAt.keep hN (hu.kept S))
  obtain ⟨pp, pc, rfl, _, _⟩ := SlAt.open hP
  obtain ⟨np, nc, rfl, _, _⟩ := SlAt.open hN
  have HB0 := Lib.hid (box2_0 w (.slice pp t.ps.length pc) (.slice np t.ns.length nc) 25)
  have HB1 := Lib.hid (box2_1 w (.slice pp t.ps.length pc) (.slice np t.ns.length nc) 25)
  have hc0 := HB0.out
  have hc1 := HB1.out
  have HZ := Lib.hid hz
  have HE : Hid (gt31B t n = ((decide (n < t.ps.length) && decide (t.ps.length ≤ 64)) || decide (66 < t.ps.length) || decide (t.ps.length + 2 < t.ns.length) || (List.range t.ns.length).any fun k => decide (20 < (gs t.ns k).size))) := rfl
  clear hu hP hN hz
  generalize gt31B t n = r at *
  obtain ⟨ps, ns⟩ := t
  simp only at *
  generalize ps.length = m at *
  go_enter Tryz.func10, Tryz.ntmps10
  go_wp2_with fail
  all_goals generalize w.alloc (.cells #[.slice pp m pc, .slice np ns.length nc] 25) = w1 at *
  all_goals try (go_ret; exact ⟨ret_bool (by rw [HE.out]; clear HE; symm; simp; omega), HU.out⟩)
  all_goals have HT : Hid (∀ k, k < ns.length → decide (20 < (gs ns k).size) = true → r = true) := fun k hk hb => by rw [HE.out, any_at (p := fun k => decide (20 < (gs ns k).size)) hk hb]; simp
  all_goals have HF : Hid ((∀ k, k < ns.length → decide (20 < (gs ns k).size) = false) → r = false) := fun hb => by rw [HE.out, any_none (p := fun k => decide (20 < (gs ns k).size)) hb]; clear HE; simp; omega
  all_goals clear HE
  all_goals go_loop [5] (fun i => ∃ k : Nat, k ≤ ns.length ∧ i = .int .i64 k ∧ Hid (∀ j, j < k → decide (20 < (gs ns j).size) = false)) (fun i => ns.length - (intOf i).toNat)
  case atStart => exact ⟨0, Nat.zero_le _, rfl, fun j hj => absurd hj (Nat.not_lt_zero _)⟩
  case atStart => exact ⟨0, Nat.zero_le _, rfl, fun j hj => absurd hj (Nat.not_lt_zero _)⟩
  all_goals
    obtain ⟨k, hk, rfl, hd⟩ := hrel
    by_cases hlt : k < ns.length
    · obtain ⟨b, off, rfl, hc⟩ := strs_get HN.out hlt
      have i1 : (0 : Int) ≤ (k : Int) := by omega
      have i2 : (k : Int) < (ns.length : Int) := by omega
      have hzk := HZ.out k
      have HTK := Lib.hid (HT.out k hlt)
      have HDK : Hid (decide (20 < (gs ns k).size) = false → ∀ j, j < k + 1 → decide (20 < (gs ns j).size) = false) := fun hx j hj => if e : j = k then by subst e; exact hx else hd.out j (by omega)
      generalize gs ns k = y at *
      by_cases h1 : 20 < y.size
      · have e0 : decide ((20 : Int) < (y.size : Int)) = true := by simp; omega
        have HQ := Lib.hid (HTK.out (by simpa using h1))
        clear h1
        go_wp2_with fail
        go_ret
        exact ⟨ret_bool HQ.out.symm, HU.out⟩
      · have e0 : decide ((20 : Int) < (y.size : Int)) = false := by simp; omega
        have HQ := Lib.hid (HDK.out (by simpa using h1))
        clear h1
        go_wp2_with fail
        go_round
        case rel => exact ⟨k + 1, by omega, by go_num, HQ.out⟩
        case measure => simp [intOf]; omega
    · obtain rfl : k = ns.length := by omega
      have HQ := Lib.hid (HF.out hd.out)
      clear hlt hk
      go_wp2_with fail
      go_ret
      exact ⟨ret_bool HQ.out.symm, HU.out⟩
end Go.Proofs.YtgjcfkadioblfaaGreat
namespace Go.Proofs.YtgjcfkadioblfaaGreat
open Go.RowKit Go.Deep
theorem gn_small {l : List ByteArray} (h : gnB l = false) : l.length ≤ 34 ∧ ∀ k, (gs l k).size ≤ 20 := by
  unfold gnB at h
  simp only [Bool.or_eq_false_iff, Bool.and_eq_false_iff, decide_eq_false_iff_not] at h
  refine ⟨by omega, fun k => ?_⟩
  by_cases hk : k < l.length
  · have := any_false h.2 hk
    simpa using this
  · have : gs l k = ByteArray.empty := by simp [gs, show l.length ≤ k by omega]
    rw [this]; exact Nat.zero_le _
theorem gt31_small {t : Tre} {n : Nat} (h : gt31B t n = false) : t.ps.length ≤ 66 ∧ t.ns.length ≤ 68 ∧ ∀ k, (gs t.ns k).size ≤ 20 := by
  unfold gt31B at h
  simp only [Bool.or_eq_false_iff, Bool.and_eq_false_iff, decide_eq_false_iff_not] at h
  refine ⟨by omega, by omega, fun k => ?_⟩
  by_cases hk : k < t.ns.length
  · have := any_false h.2 hk
    simpa using this
  · have : gs t.ns k = ByteArray.empty := by simp [gs, show t.ns.length ≤ k by omega]
    rw [this]; exact Nat.zero_le _
theorem cf_small {l : List Grp} (hl : l.length ≤ 258) : (cfL l).length ≤ 1000000 ∧ ∀ k, (gl (cfL l) k).length ≤ 1000000 := by
  have hrow : ∀ x ∈ cfL l, x.length ≤ 1000000 := fun x hx => by
    unfold cfL at hx
    split at hx
    · unfold cfK at hx
      obtain ⟨i, _, hx⟩ := List.mem_flatMap.1 hx
      unfold cfRow at hx
      obtain ⟨j, _, rfl⟩ := List.mem_map.1 hx
      simp
    · cases hx
  refine ⟨?_, fun k => ?_⟩
  · unfold cfL
    split
    · have h1 := cfK_len l l.length
      have h2 : l.length * l.length ≤ 258 * 258 := Nat.mul_le_mul hl hl
      omega
    · exact Nat.zero_le _
  · by_cases hk : k < (cfL l).length
    · exact hrow _ (gl_mem hk)
    · have : gl (cfL l) k = [] := by simp [gl, show (cfL l).length ≤ k by omega]
      rw [this]; exact Nat.zero_le _
theorem con_small {t : Tre} {names : List ByteArray} {l : List Grp} (hl : l.length ≤ 258) : (conL t names l).length ≤ 1000000 := by
  unfold conL
  split
  · exact Nat.zero_le _
  · have := conK_len t names l l.length; omega
theorem sh_small (names : List ByteArray) (l : List Grp) : (shTree names l).ps.length ≤ 1000000 ∧ (shTree names l).ns.length ≤ 1000000 := by
  by_cases h : shErr names l = 0
  · rw [shTree_fin h, flat_ps, flat_ns]
    have := fin_size h
    exact ⟨by omega, by omega⟩
  · unfold shTree; rw [if_pos h]; exact ⟨Nat.zero_le _, Nat.zero_le _⟩
theorem raw_ok {names : List ByteArray} {l : List Grp} (h : shErr names l = 0) : (rawT names l).ps.length ≤ 1000000 := raw_small h
set_option maxRecDepth 100000 in
set_option maxHeartbeats 8000000 in
theorem trees_law (w : World) (v vn vl : Value) (t : Tre) (names : List ByteArray) (l : List Grp) (hT : TreeAt Any w v t) (hN : StrsAt Any w vn names) (hl : GrpsAt Any w vl l)
    (hp : t.ps.length ≤ 9223372036854775807) (hn : t.ns.length ≤ 9223372036854775807) (hz : ∀ k, (gs t.ns k).size ≤ 9223372036854775807) (hnn : names.length ≤ 9223372036854775807) (hnz : ∀ k, (gs names k).size ≤ 9223372036854775807)
    (hln : l.length ≤ 9223372036854775807) (hlr : ∀ k, (gg l k).src.length ≤ 9223372036854775807) :
    Calls Tryz.prog 3 #[v, vn, vl] w fun e w' => e = .returned (.bool true) ∧ Up w w' := by
  obtain ⟨P, N, rfl, hP, hNt⟩ := hT
  obtain ⟨pp, pc, rfl, _, _⟩ := SlAt.open hP
  obtain ⟨qn, qm, rfl, _, _⟩ := SlAt.open hNt
  obtain ⟨np, nc, rfl, _, _⟩ := SlAt.open hN
  obtain ⟨gp, gc, rfl, _⟩ := grps_open hl
  have hu := Up.alloc w (.cells #[.slice pp t.ps.length pc, .slice qn t.ns.length qm] 25)
  have HT1 : Hid (∀ W, Up (w.alloc (.cells #[.slice pp t.ps.length pc, .slice qn t.ns.length qm] 25)) W → TreeAt Any W (.agg #[.slice pp t.ps.length pc, .slice qn t.ns.length qm]) t) := fun W hW => TreeAt.keep ⟨_, _, rfl, hP, hNt⟩ ((hu.trans hW).kept _)
  have HN1 : Hid (∀ W, Up (w.alloc (.cells #[.slice pp t.ps.length pc, .slice qn t.ns.length qm] 25)) W → StrsAt Any W (.slice np names.length nc) names) := fun W hW => StrsAt.keep hN ((hu.trans hW).kept _)
  have HL1 : Hid (∀ W, Up (w.alloc (.cells #[.slice pp t.ps.length pc, .slice qn t.ns.length qm] 25)) W → GrpsAt Any W (.slice gp l.length gc) l) := fun W hW => hl.keep ((hu.trans hW).kept _)
  have HC0 := Lib.hid (box2_0 w (.slice pp t.ps.length pc) (.slice qn t.ns.length qm) 25)
  have HC1 := Lib.hid (box2_1 w (.slice pp t.ps.length pc) (.slice qn t.ns.length qm) 25)
  have hc0 := HC0.out
  have hc1 := HC1.out
  have HU := Lib.hid hu
  have HAW := Lib.hid awake35_t
  have HG1 := Lib.hid (great35_t Any _ _ l (HL1.out _ (Up.refl _)) hln hlr)
  have HG2 := Lib.hid (gnames_t Any _ _ names (HN1.out _ (Up.refl _)) hnn hnz)
  have HG3 := Lib.hid (great31_t Any _ _ t 16 (HT1.out _ (Up.refl _)) hp hn hz)
  clear hu hP hNt hN hl
  cases hg1 : gr35B l with
  | true =>
    rw [hg1] at HG1
    clear hg1
    go_enter Tryz.func3, Tryz.ntmps3
    go_wp2_with (first | (go_at_call 8; refine HG1.out.mono ?_; rintro e w' ⟨rfl, rfl⟩) | (go_at_call 11; refine (HAW.out _).mono ?_; rintro e w' ⟨rfl, hu⟩))
    go_ret
    exact ⟨rfl, HU.out.trans hu⟩
  | false =>
    cases hg2 : gnB names with
    | true =>
      rw [hg1] at HG1
      rw [hg2] at HG2
      clear hg1 hg2
      go_enter Tryz.func3, Tryz.ntmps3
      go_wp2_with (first | (go_at_call 8; refine HG1.out.mono ?_; rintro e w' ⟨rfl, rfl⟩) | (go_at_call 9; refine HG2.out.mono ?_; rintro e w' ⟨rfl, rfl⟩) | (go_at_call 11; refine (HAW.out _).mono ?_; rintro e w' ⟨rfl, hu⟩))
      go_ret
      exact ⟨rfl, HU.out.trans hu⟩
    | false =>
      cases hg3 : gt31B t 16 with
      | true =>
        rw [hg1] at HG1
        rw [hg2] at HG2
        rw [hg3] at HG3
        clear hg1 hg2 hg3
        go_enter Tryz.func3, Tryz.ntmps3
        go_wp2_with (first | (go_at_call 8; refine HG1.out.mono ?_; rintro e w' ⟨rfl, rfl⟩) | (go_at_call 9; refine HG2.out.mono ?_; rintro e w' ⟨rfl, rfl⟩) | fail)
        refine HG3.out.mono ?_
        rintro e w2 ⟨rfl, hu2⟩
        go_wp2_with fail
        refine (HAW.out _).mono ?_
        rintro e w3 ⟨rfl, hu3⟩
        go_wp2_with fail
        go_ret
        exact ⟨rfl, (HU.out.trans hu2).trans hu3⟩
      | false =>
        obtain ⟨hl2, hlr2⟩ := gr35_small hg1
        obtain ⟨hn2, hnz2⟩ := gn_small hg2
        obtain ⟨hp3, hn3, hz3⟩ := gt31_small hg3
        have hp4 : t.ps.length ≤ 1000000 := by omega
        have hn4 : t.ns.length ≤ 1000000 := by omega
        have hz4 : ∀ k, (gs t.ns k).size ≤ 70000 := fun k => by have := hz3 k; omega
        have hnn4 : names.length ≤ 1000000 := by omega
        have hnz4 : ∀ k, (gs names k).size ≤ 70000 := fun k => by have := hnz2 k; omega
        have hl4 : l.length ≤ 1000000 := by omega
        have hlr4 : ∀ k, (gg l k).src.length ≤ 1000000 := fun k => by have := hlr2 k; omega
        rw [hg1] at HG1
        rw [hg2] at HG2
        rw [hg3] at HG3
        have HA1 := Lib.hid (fun W hW => conflicts_t Any W _ l (HL1.out W hW) hl4 hlr4)
        have HA2 := Lib.hid (fun W hW => conflictsR_t Any W _ l (HL1.out W hW) hl4 hlr4)
        have HB1 := Lib.hid (fun W hW => shTree_t Any W _ _ names l (HN1.out W hW) (HL1.out W hW) hnn4 hnz4 hl4 hlr4 raw_ok)
        have HB2 := Lib.hid (fun W hW => treeR_t Any W _ _ names l (HN1.out W hW) (HL1.out W hW) hnz4 hnn4 hl4 hlr4)
        have HD1 := Lib.hid (fun W hW => consist_t Any W _ _ _ t names l (HT1.out W hW) (HN1.out W hW) (HL1.out W hW) hp4 hn4 hz4 hnn4 hl4 hlr4)
        have HD2 := Lib.hid (fun W hW => consistR_t Any W _ _ _ t names l (HT1.out W hW) (HN1.out W hW) (HL1.out W hW) hp4 hn4 hz4 hnn4 hl4 hlr4)
        have HCS := Lib.hid (cf_small hl2)
        have HNS := Lib.hid (con_small (t := t) (names := names) hl2)
        have HSS := Lib.hid (sh_small names l)
        clear hg1 hg2 hg3 hl2 hlr2 hn2 hnz2 hp3 hn3 hz3 hp4 hn4 hz4 hnn4 hnz4 hl4 hlr4 hp hn hz hnn hnz hln hlr HT1 HN1 HL1
        unfold CfPost at HA1 HA2
        unfold StPost at HB1 HB2
        unfold ConPost at HD1 HD2
        generalize cfL l = cf at *
        generalize gcErr l = ge at *
        generalize shTree names l = st at *
        generalize shRes names l = se at *
        generalize conL t names l = cl at *
        generalize conErr t names l = ce at *
        have d3 : (ge == ge) = true := by simp
        have d4 : (se == se) = true := by simp
        have d5 : (ce == ce) = true := by simp
        go_enter Tryz.func3, Tryz.ntmps3
        go_wp2_with (first | (go_at_call 8; refine HG1.out.mono ?_; rintro e w' ⟨rfl, rfl⟩) | (go_at_call 9; refine HG2.out.mono ?_; rintro e w' ⟨rfl, rfl⟩) | fail)
        refine HG3.out.mono ?_
        rintro e w1 ⟨rfl, hu1⟩
        have hu1 : Up _ w1 := hu1
        have hc0 := hu1.cell HC0.out
        have hc1 := hu1.cell HC1.out
        have HU1 := Lib.hid hu1
        have HK := Lib.hid (HA1.out w1 hu1)
        clear hu1
        go_wp2_with fail
        refine HK.out.mono ?_
        rintro e w2 ⟨hu2, av, rfl, ha2⟩
        obtain ⟨aq, ac, rfl, _, _⟩ := rows_open ha2
        have HU2 := Lib.hid (HU1.out.trans hu2)
        have hc0 := HU2.out.cell HC0.out
        have hc1 := HU2.out.cell HC1.out
        have HA := Lib.hid ha2
        have HK := Lib.hid (HA2.out w2 HU2.out)
        clear hu2 ha2 HU1
        go_wp2_with fail
        refine HK.out.mono ?_
        rintro e w3 ⟨hu3, bv, rfl, hb3⟩
        obtain ⟨bq, bc, rfl, _, _⟩ := rows_open hb3
        have HU3 := Lib.hid (HU2.out.trans hu3)
        have hc0 := HU3.out.cell HC0.out
        have hc1 := HU3.out.cell HC1.out
        have HA3 := Lib.hid (RowsAt.keep HA.out (hu3.kept _))
        have HB3 := Lib.hid hb3
        have HK := Lib.hid (HB1.out w3 HU3.out)
        clear hu3 hb3 HU2 HA
        go_wp2_with fail
        refine HK.out.mono ?_
        rintro e w4 ⟨hu4, xv, rfl, X1, X2, rfl, hx1, hx2⟩
        obtain ⟨x1p, x1c, rfl, _, _⟩ := SlAt.open hx1
        obtain ⟨x2p, x2c, rfl, _, _⟩ := SlAt.open hx2
        have hu5 := Up.alloc w4 (.cells #[.slice x1p st.ps.length x1c, .slice x2p st.ns.length x2c] 25)
        have HU5 := Lib.hid ((HU3.out.trans hu4).trans hu5)
        have hc0 := HU5.out.cell HC0.out
        have hc1 := HU5.out.cell HC1.out
        have HA5 := Lib.hid (RowsAt.keep HA3.out ((hu4.trans hu5).kept _))
        have HB5 := Lib.hid (RowsAt.keep HB3.out ((hu4.trans hu5).kept _))
        have HX5 : Hid (TreeAt Any (w4.alloc (.cells #[.slice x1p st.ps.length x1c, .slice x2p st.ns.length x2c] 25)) (.agg #[.slice x1p st.ps.length x1c, .slice x2p st.ns.length x2c]) st) := TreeAt.keep ⟨_, _, rfl, hx1, hx2⟩ (hu5.kept _)
        have HX0 := Lib.hid (box2_0 w4 (.slice x1p st.ps.length x1c) (.slice x2p st.ns.length x2c) 25)
        have HX1 := Lib.hid (box2_1 w4 (.slice x1p st.ps.length x1c) (.slice x2p st.ns.length x2c) 25)
        have HK := Lib.hid (HB2.out _ HU5.out)
        clear hu4 hu5 hx1 hx2 HU3 HA3 HB3
        go_wp2_with fail
        generalize w4.alloc (.cells #[.slice x1p st.ps.length x1c, .slice x2p st.ns.length x2c] 25) = w5 at *
        refine HK.out.mono ?_
        rintro e w6 ⟨hu6, yv, rfl, Y1, Y2, rfl, hy1, hy2⟩
        obtain ⟨y1p, y1c, rfl, _, _⟩ := SlAt.open hy1
        obtain ⟨y2p, y2c, rfl, _, _⟩ := SlAt.open hy2
        have hu7 := Up.alloc w6 (.cells #[.slice y1p st.ps.length y1c, .slice y2p st.ns.length y2c] 25)
        have HU7 := Lib.hid ((HU5.out.trans hu6).trans hu7)
        have hc0 := HU7.out.cell HC0.out
        have hc1 := HU7.out.cell HC1.out
        have HA7 := Lib.hid (RowsAt.keep HA5.out ((hu6.trans hu7).kept _))
        have HB7 := Lib.hid (RowsAt.keep HB5.out ((hu6.trans hu7).kept _))
        have HX7 := Lib.hid (TreeAt.keep HX5.out ((hu6.trans hu7).kept _))
        have HX70 := Lib.hid ((hu6.trans hu7).cell HX0.out)
        have HX71 := Lib.hid ((hu6.trans hu7).cell HX1.out)
        have HY7 : Hid (TreeAt Any (w6.alloc (.cells #[.slice y1p st.ps.length y1c, .slice y2p st.ns.length y2c] 25)) (.agg #[.slice y1p st.ps.length y1c, .slice y2p st.ns.length y2c]) st) := TreeAt.keep ⟨_, _, rfl, hy1, hy2⟩ (hu7.kept _)
        have HY0 := Lib.hid (box2_0 w6 (.slice y1p st.ps.length y1c) (.slice y2p st.ns.length y2c) 25)
        have HY1 := Lib.hid (box2_1 w6 (.slice y1p st.ps.length y1c) (.slice y2p st.ns.length y2c) 25)
        have HK := Lib.hid (HD1.out _ HU7.out)
        clear hu6 hu7 hy1 hy2 HU5 HA5 HB5 HX5 HX0 HX1
        go_wp2_with fail
        generalize w6.alloc (.cells #[.slice y1p st.ps.length y1c, .slice y2p st.ns.length y2c] 25) = w7 at *
        refine HK.out.mono ?_
        rintro e w8 ⟨hu8, cv, rfl, hcc8⟩
        obtain ⟨cq, cc, rfl, _, _⟩ := SlAt.open hcc8
        have hcc8 : IntsAt Any w8 (.slice cq cl.length cc) cl := hcc8
        have HU8 := Lib.hid (HU7.out.trans hu8)
        have hc0 := HU8.out.cell HC0.out
        have hc1 := HU8.out.cell HC1.out
        have HA8 := Lib.hid (RowsAt.keep HA7.out (hu8.kept _))
        have HB8 := Lib.hid (RowsAt.keep HB7.out (hu8.kept _))
        have HX8 := Lib.hid (TreeAt.keep HX7.out (hu8.kept _))
        have HX80 := Lib.hid (hu8.cell HX70.out)
        have HX81 := Lib.hid (hu8.cell HX71.out)
        have HY8 := Lib.hid (TreeAt.keep HY7.out (hu8.kept _))
        have HY80 := Lib.hid (hu8.cell HY0.out)
        have HY81 := Lib.hid (hu8.cell HY1.out)
        have HCC := Lib.hid hcc8
        have HK := Lib.hid (HD2.out _ HU8.out)
        clear hu8 hcc8 HU7 HA7 HB7 HX7 HX70 HX71 HY7 HY0 HY1
        go_wp2_with fail
        refine HK.out.mono ?_
        rintro e w9 ⟨hu9, dv, rfl, hd9⟩
        obtain ⟨dq, dc, rfl, _, _⟩ := SlAt.open hd9
        have hd9 : IntsAt Any w9 (.slice dq cl.length dc) cl := hd9
        have HU9 := Lib.hid (HU8.out.trans hu9)
        have HX9 := Lib.hid (TreeAt.keep HX8.out (hu9.kept _))
        have HX90 := Lib.hid (hu9.cell HX80.out)
        have HX91 := Lib.hid (hu9.cell HX81.out)
        have HY9 := Lib.hid (TreeAt.keep HY8.out (hu9.kept _))
        have HY90 := Lib.hid (hu9.cell HY80.out)
        have HY91 := Lib.hid (hu9.cell HY81.out)
        have HCC9 := Lib.hid (IntsAt.keep HCC.out (hu9.kept _))
        have HDD9 := Lib.hid hd9
        have HK := Lib.hid (sameTable_t Any Any w9 _ _ cf cf (RowsAt.keep HA8.out (hu9.kept _)) (RowsAt.keep HB8.out (hu9.kept _)) HCS.out.1 HCS.out.1 HCS.out.2 HCS.out.2)
        rw [decide_eq_true (rfl : cf = cf)] at HK
        clear hu9 hd9 hc0 hc1 HU8 HA8 HB8 HX8 HX80 HX81 HY8 HY80 HY81 HCC
        go_wp2_with fail
        refine HK.out.mono ?_
        rintro e w10 ⟨rfl, n10, rfl⟩
        have hu10 := Up.drewN w9 n10
        have HU10 := Lib.hid (HU9.out.trans hu10)
        have hx0 := hu10.cell HX90.out
        have hx1 := hu10.cell HX91.out
        have hy0 := hu10.cell HY90.out
        have hy1 := hu10.cell HY91.out
        have HK := Lib.hid (sameTree_yes Any Any _ _ _ st (TreeAt.keep HX9.out (hu10.kept _)) (TreeAt.keep HY9.out (hu10.kept _)) HSS.out.1 HSS.out.2)
        have HCC10 := Lib.hid (IntsAt.keep HCC9.out (hu10.kept _))
        have HDD10 := Lib.hid (IntsAt.keep HDD9.out (hu10.kept _))
        clear hu10 HU9 HX9 HX90 HX91 HY9 HY90 HY91 HCC9 HDD9
        generalize w9.drewN n10 = w10 at *
        go_wp2_with fail
        refine HK.out.mono ?_
        rintro e w11 ⟨rfl, hu11⟩
        have HU11 := Lib.hid (HU10.out.trans hu11)
        have HK := Lib.hid (equal_yes Any Any w11 _ _ cl cl (IntsAt.keep HCC10.out (hu11.kept _)) (IntsAt.keep HDD10.out (hu11.kept _)) HNS.out HNS.out rfl)
        clear hu11 hx0 hx1 hy0 hy1 HU10 HCC10 HDD10
        go_wp2_with fail
        refine HK.out.mono ?_
        rintro e w12 ⟨rfl, n12, rfl⟩
        have HU12 := Lib.hid (HU11.out.trans (Up.drewN w11 n12))
        go_wp2_with fail
        refine (HAW.out _).mono ?_
        rintro e w13 ⟨rfl, hu13⟩
        go_wp2_with fail
        go_ret
        exact ⟨rfl, (HU.out.trans HU12.out).trans hu13⟩
end Go.Proofs.YtgjcfkadioblfaaGreat
