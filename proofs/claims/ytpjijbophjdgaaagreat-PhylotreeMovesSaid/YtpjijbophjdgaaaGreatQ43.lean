/- The contract of layer 31's reference's SameTree, at any trees; Same. The contract of layer 31's reference's Same. -/
import Derived.Test.YtpjijbophjdgaaaGreatQ4
import Derived.Test.YtpjijbophjdgaaaGreatQ24
import Derived.Test.YtpjijbophjdgaaaGreatQ42
namespace Go.Proofs.YtpjijbophjdgaaaGreat
open Go.RowKit Go.Deep
theorem gi_extL {a b : List Int} (hl : a.length = b.length) (h : ∀ k, k < a.length → gi a k = gi b k) : a = b := by
  refine List.ext_getElem hl fun k h1 h2 => ?_
  have := h k h1
  simpa [gi, h1, h2] using this
theorem gs_extL {a b : List ByteArray} (hl : a.length = b.length) (h : ∀ k, k < a.length → gs a k = gs b k) : a = b := by
  refine List.ext_getElem hl fun k h1 h2 => ?_
  have := h k h1
  simpa [gs, h1, h2] using this
theorem tre_ext {t u : Tre} (h1 : t.ps = u.ps) (h2 : t.ns = u.ns) : t = u := by
  cases t; cases u
  simp only at h1 h2
  rw [h1, h2]
set_option maxRecDepth 100000 in
set_option maxHeartbeats 4000000 in
theorem sameTree_no (S T : Nat → Prop) (w : World) (v u : Value) (t q : Tre) (h : TreeAt S w v t) (h2 : TreeAt T w u q) (hp : t.ps.length ≤ 1000000) (hn : t.ns.length ≤ 1000000) (hne : t ≠ q) :
    Calls Tryz.prog 37 #[v, u] w fun e w' => e = .returned (.bool false) ∧ Up w w' := by
  obtain ⟨P, N, rfl, hP, hN⟩ := h
  obtain ⟨P2, N2, rfl, hP2, hN2⟩ := h2
  obtain ⟨pp, pc, rfl, _, _⟩ := SlAt.open hP
  obtain ⟨np, nc, rfl, _, _⟩ := SlAt.open hN
  obtain ⟨pp2, pc2, rfl, _, _⟩ := SlAt.open hP2
  obtain ⟨np2, nc2, rfl, _, _⟩ := SlAt.open hN2
  have hP : IntsAt S w (.slice pp t.ps.length pc) t.ps := hP
  have hN : StrsAt S w (.slice np t.ns.length nc) t.ns := hN
  have hP2 : IntsAt T w (.slice pp2 q.ps.length pc2) q.ps := hP2
  have hN2 : StrsAt T w (.slice np2 q.ns.length nc2) q.ns := hN2
  have hu1 := Up.alloc w (.cells #[.slice pp t.ps.length pc, .slice np t.ns.length nc] 45)
  have hu2 := Up.alloc (w.alloc (.cells #[.slice pp t.ps.length pc, .slice np t.ns.length nc] 45)) (.cells #[.slice pp2 q.ps.length pc2, .slice np2 q.ns.length nc2] 45)
  have hu := hu1.trans hu2
  have a0 := hu2.cell (box2_0 w (.slice pp t.ps.length pc) (.slice np t.ns.length nc) 45)
  have a1 := hu2.cell (box2_1 w (.slice pp t.ps.length pc) (.slice np t.ns.length nc) 45)
  have b0 := box2_0 (w.alloc (.cells #[.slice pp t.ps.length pc, .slice np t.ns.length nc] 45)) (.slice pp2 q.ps.length pc2) (.slice np2 q.ns.length nc2) 45
  have b1 := box2_1 (w.alloc (.cells #[.slice pp t.ps.length pc, .slice np t.ns.length nc] 45)) (.slice pp2 q.ps.length pc2) (.slice np2 q.ns.length nc2) 45
  rw [World.size_alloc] at b0 b1
  have HP := Lib.hid (IntsAt.keep hP (hu.kept S))
  have HN := Lib.hid (StrsAt.keep hN (hu.kept S))
  have HP2 := Lib.hid (IntsAt.keep hP2 (hu.kept T))
  have HN2 := Lib.hid (StrsAt.keep hN2 (hu.kept T))
  have HU := Lib.hid hu
  have A0 := Lib.hid a0
  have A1 := Lib.hid a1
  have B0' := Lib.hid b0
  have B1' := Lib.hid b1
  have HNE := Lib.hid hne
  have HBD := Lib.hid (And.intro hp hn)
  clear hP hN hP2 hN2 hu hu1 hu2 hne hp hn
  by_cases l0 : t.ps.length = q.ps.length
  rotate_left
  · have d0 : ((t.ps.length : Int) != (q.ps.length : Int)) = true := bne_iff_ne.2 (by omega)
    go_enter Tryz.func37, Tryz.ntmps37
    go_wp2_with fail
    go_ret
    exact ⟨rfl, HU.out⟩
  by_cases l1 : t.ns.length = q.ns.length
  rotate_left
  · have d0 : ((t.ps.length : Int) != (q.ps.length : Int)) = false := by rw [l0]; simp
    have d1 : ((t.ns.length : Int) != (q.ns.length : Int)) = true := bne_iff_ne.2 (by omega)
    have L0 := Lib.hid l0
    clear l0
    go_enter Tryz.func37, Tryz.ntmps37
    go_wp2_with fail
    go_ret
    exact ⟨rfl, HU.out⟩
  have d0 : ((t.ps.length : Int) != (q.ps.length : Int)) = false := by rw [l0]; simp
  have d1 : ((t.ns.length : Int) != (q.ns.length : Int)) = false := by rw [l1]; simp
  have L0 := Lib.hid l0
  have L1 := Lib.hid l1
  clear l0 l1
  go_enter Tryz.func37, Tryz.ntmps37
  go_wp2_with fail
  clear a0 a1 b0 b1
  clear d0 d1
  generalize (w.alloc (.cells #[.slice pp t.ps.length pc, .slice np t.ns.length nc] 45)).alloc (.cells #[.slice pp2 q.ps.length pc2, .slice np2 q.ns.length nc2] 45) = w1 at *
  go_loopw [5] (fun i wr => ∃ k : Nat, k ≤ t.ps.length ∧ i = .int .i64 k ∧ Hid (QD w1 wr) ∧ Hid (∀ j, j < k → gi t.ps j = gi q.ps j)) (fun i _ => t.ps.length - (intOf i).toNat)
  case atStart => exact ⟨0, Nat.zero_le _, rfl, QD.refl _, fun j hj => by omega⟩
  case round =>
    obtain ⟨k, hk, rfl, hQ, hd⟩ := hrel
    have HD := Lib.hid hd.out
    clear hd
    have a0 := hQ.out.up.cell A0.out
    have b0 := hQ.out.up.cell B0'.out
    by_cases hlt : k < t.ps.length
    · obtain ⟨b, off, rfl, hc⟩ := ints_get (IntsAt.keep HP.out (hQ.out.kept S)) hlt
      obtain ⟨b2, off2, rfl, hc2⟩ := ints_get (IntsAt.keep HP2.out (hQ.out.kept T)) (by rw [← L0.out]; exact hlt)
      have i1 : (0 : Int) ≤ (k : Int) := by omega
      have i2 : (k : Int) < (t.ps.length : Int) := by omega
      have i4 : (k : Int) < (q.ps.length : Int) := by have := L0.out; omega
      have i3 : (k : Int) < 1000000 := by have := HBD.out.1; omega
      have HLT := Lib.hid hlt
      by_cases e : gi t.ps k = gi q.ps k
      · have j1 : (gi t.ps k != gi q.ps k) = false := by rw [e]; simp
        have HD2 : Hid (∀ j, j < k + 1 → gi t.ps j = gi q.ps j) := fun j hj => by
          by_cases x : j = k
          · rw [x]; exact e
          · exact HD.out j (by omega)
        clear e hlt hk
        generalize gi t.ps k = x at *
        generalize gi q.ps k = y at *
        go_wp2_with fail
        go_quiet (fail)
        go_wp2_with fail
        go_roundw
        case rel => exact ⟨k + 1, HLT.out, by go_num, hQ.out.drewN nq, HD2.out⟩
        case measure => have := HLT.out; simp [intOf]; omega
      · have j1 : (gi t.ps k != gi q.ps k) = true := bne_iff_ne.2 e
        clear hlt hk
        generalize gi t.ps k = x at *
        generalize gi q.ps k = y at *
        go_wp2_with fail
        go_quiet (fail)
        go_wp2_with fail
        go_ret
        exact ⟨rfl, HU.out.trans (hQ.out.drewN nq).up⟩
    · obtain rfl : k = t.ps.length := by omega
      have HQ0 := Lib.hid hQ.out
      have HPS : Hid (t.ps = q.ps) := gi_extL L0.out HD.out
      have m1 : ¬ (t.ps.length : Int) < (t.ps.length : Int) := by omega
      clear hlt hk
      go_wp2_with fail
      go_loopw [6] (fun i wr => ∃ k : Nat, k ≤ t.ns.length ∧ i = .int .i64 k ∧ Hid (QD w1 wr) ∧ Hid (∀ j, j < k → gs t.ns j = gs q.ns j)) (fun i _ => t.ns.length - (intOf i).toNat)
      case atStart => exact ⟨0, Nat.zero_le _, rfl, HQ0.out, fun j hj => by omega⟩
      case round =>
        obtain ⟨k, hk, rfl, hQ, hd⟩ := hrel
        have HD := Lib.hid hd.out
        clear hd
        have a1 := hQ.out.up.cell A1.out
        have b1 := hQ.out.up.cell B1'.out
        by_cases hlt : k < t.ns.length
        · obtain ⟨b, off, rfl, hc⟩ := strs_get (StrsAt.keep HN.out (hQ.out.kept S)) hlt
          obtain ⟨b2, off2, rfl, hc2⟩ := strs_get (StrsAt.keep HN2.out (hQ.out.kept T)) (by rw [← L1.out]; exact hlt)
          have i1 : (0 : Int) ≤ (k : Int) := by omega
          have i2 : (k : Int) < (t.ns.length : Int) := by omega
          have i4 : (k : Int) < (q.ns.length : Int) := by have := L1.out; omega
          have i3 : (k : Int) < 1000000 := by have := HBD.out.2; omega
          have HLT := Lib.hid hlt
          by_cases e : gs t.ns k = gs q.ns k
          · have j1 : ((gs t.ns k).toList == (gs q.ns k).toList) = true := by rw [e]; simp
            have HD2 : Hid (∀ j, j < k + 1 → gs t.ns j = gs q.ns j) := fun j hj => by
              by_cases x : j = k
              · rw [x]; exact e
              · exact HD.out j (by omega)
            clear e hlt hk
            generalize gs t.ns k = x at *
            generalize gs q.ns k = y at *
            go_wp2_with fail
            go_quiet (fail)
            go_wp2_with fail
            go_roundw
            case rel => exact ⟨k + 1, HLT.out, by go_num, hQ.out.drewN nq, HD2.out⟩
            case measure => have := HLT.out; simp [intOf]; omega
          · have j1 : ((gs t.ns k).toList == (gs q.ns k).toList) = false := by
              rw [beq_eq_false_iff_ne, toList_data, toList_data]
              exact fun h => e (ba_ext h)
            clear hlt hk e
            generalize gs t.ns k = x at *
            generalize gs q.ns k = y at *
            go_wp2_with fail
            go_quiet (fail)
            go_wp2_with fail
            go_ret
            exact ⟨rfl, HU.out.trans (hQ.out.drewN nq).up⟩
        · obtain rfl : k = t.ns.length := by omega
          exact absurd (tre_ext HPS.out (gs_extL L1.out HD.out)) HNE.out
theorem sameTree_t (S T : Nat → Prop) (w : World) (v u : Value) (t q : Tre) (h : TreeAt S w v t) (h2 : TreeAt T w u q) (hp : t.ps.length ≤ 1000000) (hn : t.ns.length ≤ 1000000) :
    Calls Tryz.prog 37 #[v, u] w fun e w' => e = .returned (.bool (decide (t = q))) ∧ Up w w' := by
  by_cases e : t = q
  · subst e
    rw [decide_eq_true rfl]
    exact sameTree_yes S T w v u t h h2 hp hn
  · rw [decide_eq_false e]
    exact sameTree_no S T w v u t q h h2 hp hn e
end Go.Proofs.YtpjijbophjdgaaaGreat
namespace Go.Proofs.YtpjijbophjdgaaaGreat
open Go.RowKit Go.Deep
theorem smB_no {t q : Tre} (h : smE t q ≠ 0) : smB t q = false := by unfold smB; rw [decide_eq_false h]; rfl
theorem smB_ok {t q : Tre} (h : treeErr t = 0) (h2 : treeErr q = 0) : smE t q = 0 ∧ smB t q = decide (canR t = canR q) := by
  have h0 : smE t q = 0 := by unfold smE; rw [if_neg (by simp [h, h2])]
  exact ⟨h0, by unfold smB; rw [decide_eq_true h0, Bool.true_and, canR_canT h, canR_canT h2]⟩
theorem canR_len {t : Tre} (h : treeErr t = 0) : (canR t).ps.length ≤ 1000000 ∧ (canR t).ns.length ≤ 1000000 := by
  rw [canR_canT h]; exact can_ok_len h
set_option maxRecDepth 100000 in
set_option maxHeartbeats 4000000 in
theorem same31R_t (S T : Nat → Prop) (w : World) (v u : Value) (t q : Tre) (hT : TreeAt S w v t) (hQ : TreeAt T w u q) (hp : t.ps.length ≤ 1000000) (hn : t.ns.length ≤ 1000000) (hz : ∀ k, (gs t.ns k).size ≤ 70000) (hp2 : q.ps.length ≤ 1000000) (hn2 : q.ns.length ≤ 1000000) (hz2 : ∀ k, (gs q.ns k).size ≤ 70000) :
    Calls Tryz.prog 32 #[v, u] w fun e w' => e = .returned (.tuple #[.bool (smB t q), .int .i64 (smE t q)]) ∧ Up w w' := by
  obtain ⟨P, N, rfl, hP, hN⟩ := hT
  obtain ⟨P2, N2, rfl, hP2, hN2⟩ := hQ
  have hu1 := Up.alloc w (.cells #[P, N] 45)
  have hu2 := Up.alloc (w.alloc (.cells #[P, N] 45)) (.cells #[P2, N2] 45)
  have HA0 := Lib.hid (hu2.cell (box2_0 w P N 45))
  have HA1 := Lib.hid (hu2.cell (box2_1 w P N 45))
  have c0 := box2_0 (w.alloc (.cells #[P, N] 45)) P2 N2 45
  have c1 := box2_1 (w.alloc (.cells #[P, N] 45)) P2 N2 45
  rw [World.size_alloc] at c0 c1
  have HC0 := Lib.hid c0
  have HC1 := Lib.hid c1
  have a0 := HA0.out
  have a1 := HA1.out
  have hu := hu1.trans hu2
  have HT := Lib.hid (TreeAt.keep ⟨P, N, rfl, hP, hN⟩ (hu.kept S))
  have HQ := Lib.hid (TreeAt.keep ⟨P2, N2, rfl, hP2, hN2⟩ (hu.kept T))
  have HU := Lib.hid hu
  have HCK := Lib.hid (checkR_t S _ _ t HT.out hp hn hz)
  have HSE : Hid (smE t q = if treeErr t ≠ 0 ∨ treeErr q ≠ 0 then 1 else 0) := rfl
  have HBD := Lib.hid (And.intro hp hn)
  have HBD2 := Lib.hid (And.intro hp2 hn2)
  have HZ := Lib.hid hz
  have HZ2 := Lib.hid hz2
  clear hu1 hu2 hu hP hN hP2 hN2 hz hz2 hp hn hp2 hn2
  go_enter Tryz.func32, Tryz.ntmps32
  go_wp2_with fail
  generalize (w.alloc (.cells #[P, N] 45)).alloc (.cells #[P2, N2] 45) = w1 at *
  refine HCK.out.mono ?_
  rintro e w2 ⟨rfl, hu2⟩
  have hu2 : Up w1 w2 := hu2
  have a0 := hu2.cell HA0.out
  have a1 := hu2.cell HA1.out
  have c0 := hu2.cell HC0.out
  have c1 := hu2.cell HC1.out
  have HU2 := Lib.hid hu2
  clear hu2 HCK
  by_cases he : treeErr t = 0
  · have HTE := Lib.hid he
    have HCK2 := Lib.hid (checkR_t T w2 _ q (HQ.out.keep (HU2.out.kept T)) HBD2.out.1 HBD2.out.2 HZ2.out)
    rw [he]
    clear he
    go_wp2_with fail
    refine HCK2.out.mono ?_
    rintro e w3 ⟨rfl, hu3⟩
    have hu3 : Up w2 w3 := hu3
    have HU3 := Lib.hid (HU2.out.trans hu3)
    have a0 := HU3.out.cell HA0.out
    have a1 := HU3.out.cell HA1.out
    have c0 := HU3.out.cell HC0.out
    have c1 := HU3.out.cell HC1.out
    clear hu3 HCK2
    by_cases he2 : treeErr q = 0
    · have HQE := Lib.hid he2
      rw [he2]
      clear he2
      go_wp2_with fail
      refine (canonR_t S w3 _ t (HT.out.keep (HU3.out.kept S)) HBD.out.1 HBD.out.2 HZ.out).mono ?_
      rintro e w4 ⟨hu4, ⟨h0, -⟩ | ⟨-, v4, rfl, P4, N4, rfl, hP4, hN4⟩⟩
      · exact absurd HTE.out h0
      obtain ⟨pp4, pc4, rfl, -, -⟩ := SlAt.open hP4
      obtain ⟨np4, nc4, rfl, -, -⟩ := SlAt.open hN4
      have hP4 : IntsAt _ w4 (.slice pp4 (canR t).ps.length pc4) (canR t).ps := hP4
      have hN4 : StrsAt _ w4 (.slice np4 (canR t).ns.length nc4) (canR t).ns := hN4
      have hal := Up.alloc w4 (.cells #[.slice pp4 (canR t).ps.length pc4, .slice np4 (canR t).ns.length nc4] 45)
      have d0 := box2_0 w4 (.slice pp4 (canR t).ps.length pc4) (.slice np4 (canR t).ns.length nc4) 45
      have d1 := box2_1 w4 (.slice pp4 (canR t).ps.length pc4) (.slice np4 (canR t).ns.length nc4) 45
      have HT4 : Hid (TreeAt Any (w4.alloc (.cells #[.slice pp4 (canR t).ps.length pc4, .slice np4 (canR t).ns.length nc4] 45)) (.agg #[.slice pp4 (canR t).ps.length pc4, .slice np4 (canR t).ns.length nc4]) (canR t)) := (TreeAt.keep ⟨_, _, rfl, hP4, hN4⟩ (hal.kept _)).sub fun _ _ _ => trivial
      have HU5 := Lib.hid (HU3.out.trans (hu4.trans hal))
      have a0 := HU5.out.cell HA0.out
      have a1 := HU5.out.cell HA1.out
      have c0 := HU5.out.cell HC0.out
      have c1 := HU5.out.cell HC1.out
      have HD0 := Lib.hid d0
      have HD1 := Lib.hid d1
      clear hu4 hal hP4 hN4
      go_wp2_with fail
      generalize w4.alloc (.cells #[.slice pp4 (canR t).ps.length pc4, .slice np4 (canR t).ns.length nc4] 45) = w5 at *
      generalize w4.heap.size = b4 at *
      refine (canonR_t T w5 _ q (HQ.out.keep (HU5.out.kept T)) HBD2.out.1 HBD2.out.2 HZ2.out).mono ?_
      rintro e w6 ⟨hu6, ⟨h0, -⟩ | ⟨-, v6, rfl, P6, N6, rfl, hP6, hN6⟩⟩
      · exact absurd HQE.out h0
      obtain ⟨pp6, pc6, rfl, -, -⟩ := SlAt.open hP6
      obtain ⟨np6, nc6, rfl, -, -⟩ := SlAt.open hN6
      have hP6 : IntsAt _ w6 (.slice pp6 (canR q).ps.length pc6) (canR q).ps := hP6
      have hN6 : StrsAt _ w6 (.slice np6 (canR q).ns.length nc6) (canR q).ns := hN6
      have hal := Up.alloc w6 (.cells #[.slice pp6 (canR q).ps.length pc6, .slice np6 (canR q).ns.length nc6] 45)
      have e0 := box2_0 w6 (.slice pp6 (canR q).ps.length pc6) (.slice np6 (canR q).ns.length nc6) 45
      have e1 := box2_1 w6 (.slice pp6 (canR q).ps.length pc6) (.slice np6 (canR q).ns.length nc6) 45
      have hu7 := hu6.trans hal
      have d0 := hu7.cell HD0.out
      have d1 := hu7.cell HD1.out
      have HT6 : Hid (TreeAt Any (w6.alloc (.cells #[.slice pp6 (canR q).ps.length pc6, .slice np6 (canR q).ns.length nc6] 45)) (.agg #[.slice pp6 (canR q).ps.length pc6, .slice np6 (canR q).ns.length nc6]) (canR q)) := (TreeAt.keep ⟨_, _, rfl, hP6, hN6⟩ (hal.kept _)).sub fun _ _ _ => trivial
      have HT5 := Lib.hid (HT4.out.keep (hu7.kept _))
      have HU7 := Lib.hid (HU5.out.trans hu7)
      clear hu6 hal hP6 hN6 a0 a1 c0 c1 hu7
      go_wp2_with fail
      generalize w6.alloc (.cells #[.slice pp6 (canR q).ps.length pc6, .slice np6 (canR q).ns.length nc6] 45) = w7 at *
      generalize w6.heap.size = b6 at *
      refine (sameTree_t Any Any _ _ _ (canR t) (canR q) HT5.out HT6.out (canR_len HTE.out).1 (canR_len HTE.out).2).mono ?_
      rintro e w8 ⟨rfl, hu8⟩
      have HU8 := Lib.hid hu8
      have HOK := Lib.hid (smB_ok HTE.out HQE.out)
      clear hu8
      generalize decide (canR t = canR q) = r at *
      go_wp2_with fail
      exact ⟨rfl, .tuple #[.bool r, .int .i64 0], by simp [results, Tryz.results32, go_sem], by rw [HOK.out.1, HOK.out.2], HU.out.trans (HU7.out.trans HU8.out)⟩
    · have he1 : (treeErr q != 0) = true := by simpa using he2
      have HX : Hid (smE t q = 1) := by unfold Hid; rw [HSE.out, if_pos (.inr he2)]
      clear he2
      generalize treeErr q = te at he1 ⊢
      go_wp2_with fail
      exact ⟨rfl, .tuple #[.bool false, .int .i64 1], by simp [results, Tryz.results32, go_sem], by rw [HX.out, smB_no (by rw [HX.out]; decide)], HU.out.trans HU3.out⟩
  · have he1 : (treeErr t != 0) = true := by simpa using he
    have HX : Hid (smE t q = 1) := by unfold Hid; rw [HSE.out, if_pos (.inl he)]
    clear he
    generalize treeErr t = te at he1 ⊢
    go_wp2_with fail
    exact ⟨rfl, .tuple #[.bool false, .int .i64 1], by simp [results, Tryz.results32, go_sem], by rw [HX.out, smB_no (by rw [HX.out]; decide)], HU.out.trans HU2.out⟩
end Go.Proofs.YtpjijbophjdgaaaGreat
