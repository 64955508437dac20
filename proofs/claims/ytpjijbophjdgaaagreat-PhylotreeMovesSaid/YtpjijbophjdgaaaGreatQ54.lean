/- The walk of PhylotreeMoves. -/
import Derived.Test.YtpjijbophjdgaaaGreatQ43
import Derived.Test.YtpjijbophjdgaaaGreatQ53
import Derived.Test.YtpjijbophjdgaaaGreatQ47
import Derived.Test.YtpjijbophjdgaaaGreatQ34
import Derived.Test.YtpjijbophjdgaaaGreatQ37
namespace Go.Proofs.YtpjijbophjdgaaaGreat
open Go.RowKit Go.Deep
theorem rrRes_len (t : Tre) (x : Int) : (rrRes t x).ps.length ≤ 1000000 ∧ (rrRes t x).ns.length ≤ 1000000 := by
  unfold rrRes
  split
  · exact ⟨by simp, by simp⟩
  · rename_i h
    have hc : rrCode t x = 0 := Classical.not_not.1 h
    unfold rrCode at hc
    split at hc
    · exact absurd hc (by assumption)
    · split at hc
      · exact absurd hc (by decide)
      · have : (rrT t x).ns.length = (rrT t x).ps.length := by unfold rrT; rw [flat_ps, flat_ns]
        omega
theorem rsT_len (t : Tre) (L : List Int) : (rsT t L).ps.length ≤ 1000000 ∧ (rsT t L).ns.length ≤ 1000000 := by
  unfold rsT
  split
  · exact ⟨by simp, by simp⟩
  · rename_i h
    have h4 := (rs_facts (Classical.not_not.1 h)).2.2.2
    have : (flat (sortR (contrR (rsR t L)))).ns.length = (flat (sortR (contrR (rsR t L)))).ps.length := by rw [flat_ps, flat_ns]
    omega
set_option maxRecDepth 100000 in
set_option maxHeartbeats 16000000 in
theorem moves_law (w : World) (v u : Value) (t q : Tre) (x : Int) (lv : Value) (l : List Int) (hT : TreeAt Any w v t) (hQ : TreeAt Any w u q) (hL : IntsAt Any w lv l) (hp : t.ps.length ≤ 9223372036854775807) (hn : t.ns.length ≤ 9223372036854775807) (hz : ∀ k, (gs t.ns k).size ≤ 9223372036854775807) (hp2 : q.ps.length ≤ 9223372036854775807) (hn2 : q.ns.length ≤ 9223372036854775807) (hz2 : ∀ k, (gs q.ns k).size ≤ 9223372036854775807) (hll : l.length ≤ 9223372036854775807) :
    Calls Tryz.prog 4 #[v, u, .int .i64 x, lv] w fun e w' => e = .returned (.bool true) ∧ Up w w' := by
  obtain ⟨P, N, rfl, hP, hN⟩ := hT
  obtain ⟨pp, pc, rfl, -, -⟩ := SlAt.open hP
  obtain ⟨np, nc, rfl, -, -⟩ := SlAt.open hN
  obtain ⟨P2, N2, rfl, hP2, hN2⟩ := hQ
  obtain ⟨pp2, pc2, rfl, -, -⟩ := SlAt.open hP2
  obtain ⟨np2, nc2, rfl, -, -⟩ := SlAt.open hN2
  obtain ⟨lp, lc, rfl, -, -⟩ := SlAt.open hL
  have hP : IntsAt Any w (.slice pp t.ps.length pc) t.ps := hP
  have hN : StrsAt Any w (.slice np t.ns.length nc) t.ns := hN
  have hP2 : IntsAt Any w (.slice pp2 q.ps.length pc2) q.ps := hP2
  have hN2 : StrsAt Any w (.slice np2 q.ns.length nc2) q.ns := hN2
  have hL : IntsAt Any w (.slice lp l.length lc) l := hL
  have hu1 := Up.alloc w (.cells #[.slice pp t.ps.length pc, .slice np t.ns.length nc] 45)
  have hu2 := Up.alloc (w.alloc (.cells #[.slice pp t.ps.length pc, .slice np t.ns.length nc] 45)) (.cells #[.slice pp2 q.ps.length pc2, .slice np2 q.ns.length nc2] 45)
  have hu := hu1.trans hu2
  have b0 := hu2.cell (box2_0 w (.slice pp t.ps.length pc) (.slice np t.ns.length nc) 45)
  have b1 := hu2.cell (box2_1 w (.slice pp t.ps.length pc) (.slice np t.ns.length nc) 45)
  have a0 := box2_0 (w.alloc (.cells #[.slice pp t.ps.length pc, .slice np t.ns.length nc] 45)) (.slice pp2 q.ps.length pc2) (.slice np2 q.ns.length nc2) 45
  have a1 := box2_1 (w.alloc (.cells #[.slice pp t.ps.length pc, .slice np t.ns.length nc] 45)) (.slice pp2 q.ps.length pc2) (.slice np2 q.ns.length nc2) 45
  rw [World.size_alloc] at a0 a1
  have HB0 := Lib.hid b0
  have HB1 := Lib.hid b1
  have HA0 := Lib.hid a0
  have HA1 := Lib.hid a1
  have HT : Hid (TreeAt Any ((w.alloc (.cells #[.slice pp t.ps.length pc, .slice np t.ns.length nc] 45)).alloc (.cells #[.slice pp2 q.ps.length pc2, .slice np2 q.ns.length nc2] 45)) (.agg #[.slice pp t.ps.length pc, .slice np t.ns.length nc]) t) := TreeAt.keep ⟨_, _, rfl, hP, hN⟩ (hu.kept _)
  have HQ : Hid (TreeAt Any ((w.alloc (.cells #[.slice pp t.ps.length pc, .slice np t.ns.length nc] 45)).alloc (.cells #[.slice pp2 q.ps.length pc2, .slice np2 q.ns.length nc2] 45)) (.agg #[.slice pp2 q.ps.length pc2, .slice np2 q.ns.length nc2]) q) := TreeAt.keep ⟨_, _, rfl, hP2, hN2⟩ (hu.kept _)
  have HL := Lib.hid (IntsAt.keep hL (hu.kept _))
  have HG := Lib.hid (fun W (h : Up ((w.alloc (.cells #[.slice pp t.ps.length pc, .slice np t.ns.length nc] 45)).alloc (.cells #[.slice pp2 q.ps.length pc2, .slice np2 q.ns.length nc2] 45)) W) => lgreat31_t Any W _ t (HT.out.keep (h.kept _)) hp hn hz)
  have HG2 := Lib.hid (fun W (h : Up ((w.alloc (.cells #[.slice pp t.ps.length pc, .slice np t.ns.length nc] 45)).alloc (.cells #[.slice pp2 q.ps.length pc2, .slice np2 q.ns.length nc2] 45)) W) => lgreat31_t Any W _ q (HQ.out.keep (h.kept _)) hp2 hn2 hz2)
  have HU := Lib.hid hu
  have HAW := Lib.hid awake31_t
  clear hu hu1 hu2 hP hN hP2 hN2 hL hn hz hp hn2 hz2 hp2
  cases hg : gt31B t 16
  case true =>
    rw [hg] at HG
    clear hg
    go_enter Tryz.func4, Tryz.ntmps4
    go_wp2_with (first | (go_at_call 29; refine (HG.out _ (Up.refl _)).mono ?_; rintro e w1 ⟨rfl, hu1⟩) | (go_at_call 30; refine (HAW.out _).mono ?_; rintro e w' ⟨rfl, hu⟩) | fail)
    go_ret
    exact ⟨rfl, HU.out.trans (hu1.trans hu)⟩
  case false =>
  obtain ⟨sp, sn, sz⟩ := rd_small31 hg
  rw [hg] at HG
  cases hg2 : gt31B q 16
  case true =>
    rw [hg2] at HG2
    clear hg hg2 sp sn sz
    go_enter Tryz.func4, Tryz.ntmps4
    go_wp2_with fail
    refine (HG.out _ (Up.refl _)).mono ?_
    rintro e w1 ⟨rfl, hu1⟩
    have a0 := hu1.cell HA0.out
    have a1 := hu1.cell HA1.out
    go_wp2_with (first | (go_at_call 29; refine (HG2.out _ hu1).mono ?_; rintro e w2 ⟨rfl, hu2⟩) | (go_at_call 30; refine (HAW.out _).mono ?_; rintro e w' ⟨rfl, hu⟩) | fail)
    go_ret
    exact ⟨rfl, HU.out.trans (hu1.trans (hu2.trans hu))⟩
  case false =>
  obtain ⟨sp2, sn2, sz2⟩ := rd_small31 hg2
  rw [hg2] at HG2
  by_cases h12 : 12 < l.length
  · have d0 : decide ((12 : Int) < (l.length : Int)) = true := decide_eq_true (by omega)
    clear hg hg2 sp sn sz sp2 sn2 sz2
    go_enter Tryz.func4, Tryz.ntmps4
    go_wp2_with fail
    refine (HG.out _ (Up.refl _)).mono ?_
    rintro e w1 ⟨rfl, hu1⟩
    have a0 := hu1.cell HA0.out
    have a1 := hu1.cell HA1.out
    go_wp2_with (first | (go_at_call 29; refine (HG2.out _ hu1).mono ?_; rintro e w2 ⟨rfl, hu2⟩) | (go_at_call 30; refine (HAW.out _).mono ?_; rintro e w' ⟨rfl, hu⟩) | fail)
    go_ret
    exact ⟨rfl, HU.out.trans (hu1.trans (hu2.trans hu))⟩
  have d0 : decide ((12 : Int) < (l.length : Int)) = false := decide_eq_false (by omega)
  have hl1 : l.length ≤ 1000000 := by omega
  have hl2 : l.length ≤ 1000 := by omega
  have g1 : t.ps.length ≤ 1000000 := by omega
  have g2 : t.ns.length ≤ 1000000 := by omega
  have g3 : ∀ k, (gs t.ns k).size ≤ 70000 := fun k => Nat.le_trans (sz k) (by decide)
  have g4 : q.ps.length ≤ 1000000 := by omega
  have g5 : q.ns.length ≤ 1000000 := by omega
  have g6 : ∀ k, (gs q.ns k).size ≤ 70000 := fun k => Nat.le_trans (sz2 k) (by decide)
  have HSA := Lib.hid (fun W v u (hv : TreeAt Any W v t) (hu : TreeAt Any W u q) => same31_t Any W v u t q hv hu g1 g2 g3 g4 g5 g6)
  have HSA2 := Lib.hid (fun W v u (hv : TreeAt Any W v t) (hu : TreeAt Any W u q) => same31R_t Any Any W v u t q hv hu g1 g2 g3 g4 g5 g6)
  have HRR := Lib.hid (fun W v (hv : TreeAt Any W v t) => reroot_t Any W v t x hv g1 g2 g3)
  have HRR2 := Lib.hid (fun W v (hv : TreeAt Any W v t) => reroot31R_t Any W v t x hv g1 g2 g3)
  have HRS := Lib.hid (fun W v (hv : TreeAt Any W v t) y (hy : IntsAt Any W y l) => restrict_t Any W v y t l hv hy g1 g2 g3 hl1)
  have HRS2 := Lib.hid (fun W v (hv : TreeAt Any W v t) y (hy : IntsAt Any W y l) => restrict31R_t Any W v y t l hv hy g1 g2 g3 hl2)
  have HCL := Lib.hid (rrRes_len t x)
  have HPL := Lib.hid (rsT_len t l)
  clear hg hg2 h12 sp sn sz sp2 sn2 sz2 g1 g2 g3 g4 g5 g6 hl1 hl2
  go_enter Tryz.func4, Tryz.ntmps4
  go_wp2_with fail
  generalize ((w.alloc (.cells #[.slice pp t.ps.length pc, .slice np t.ns.length nc] 45)).alloc (.cells #[.slice pp2 q.ps.length pc2, .slice np2 q.ns.length nc2] 45)) = w1 at *
  generalize w.heap.size + 1 = ub at *
  generalize w.heap.size = tb at *
  refine (HG.out _ (Up.refl _)).mono ?_
  rintro e w2 ⟨rfl, hu2⟩
  have b0 := hu2.cell HB0.out
  have b1 := hu2.cell HB1.out
  have a0 := hu2.cell HA0.out
  have a1 := hu2.cell HA1.out
  have HU2 := Lib.hid hu2
  clear hu2 HG
  go_wp2_with fail
  refine (HG2.out _ HU2.out).mono ?_
  rintro e w3 ⟨rfl, hu3⟩
  have b0 := hu3.cell b0
  have b1 := hu3.cell b1
  have a0 := hu3.cell a0
  have a1 := hu3.cell a1
  have HU3 := Lib.hid (HU2.out.trans hu3)
  clear hu3 HG2
  go_wp2_with fail
  clear d0
  refine (HSA.out w3 _ _ (HT.out.keep (HU3.out.kept _)) (HQ.out.keep (HU3.out.kept _))).mono ?_
  rintro e w4 ⟨rfl, hu⟩
  have HU4 := Lib.hid (HU3.out.trans hu)
  have b0 := HU4.out.cell HB0.out
  have b1 := HU4.out.cell HB1.out
  have a0 := HU4.out.cell HA0.out
  have a1 := HU4.out.cell HA1.out
  clear hu
  go_wp2_with fail
  refine (HSA2.out w4 _ _ (HT.out.keep (HU4.out.kept _)) (HQ.out.keep (HU4.out.kept _))).mono ?_
  rintro e w5 ⟨rfl, hu⟩
  have HU5 := Lib.hid (HU4.out.trans hu)
  have b0 := HU5.out.cell HB0.out
  have b1 := HU5.out.cell HB1.out
  have a0 := HU5.out.cell HA0.out
  have a1 := HU5.out.cell HA1.out
  clear hu
  go_wp2_with fail
  refine (HRR.out w5 _ (HT.out.keep (HU5.out.kept _))).mono ?_
  rintro e w6 ⟨hu, cv, rfl, Pc, Nc, rfl, hPc, hNc⟩
  obtain ⟨cp, cc, rfl, -, -⟩ := SlAt.open hPc
  obtain ⟨cq, cd, rfl, -, -⟩ := SlAt.open hNc
  have hPc : IntsAt Any w6 (.slice cp (rrRes t x).ps.length cc) (rrRes t x).ps := hPc
  have hNc : StrsAt Any w6 (.slice cq (rrRes t x).ns.length cd) (rrRes t x).ns := hNc
  have hal := Up.alloc w6 (.cells #[.slice cp (rrRes t x).ps.length cc, .slice cq (rrRes t x).ns.length cd] 45)
  have c0 := box2_0 w6 (.slice cp (rrRes t x).ps.length cc) (.slice cq (rrRes t x).ns.length cd) 45
  have c1 := box2_1 w6 (.slice cp (rrRes t x).ps.length cc) (.slice cq (rrRes t x).ns.length cd) 45
  have HTc : Hid (TreeAt Any (w6.alloc (.cells #[.slice cp (rrRes t x).ps.length cc, .slice cq (rrRes t x).ns.length cd] 45)) (.agg #[.slice cp (rrRes t x).ps.length cc, .slice cq (rrRes t x).ns.length cd]) (rrRes t x)) := TreeAt.keep ⟨_, _, rfl, hPc, hNc⟩ (hal.kept _)
  have HU7 := Lib.hid (HU5.out.trans (hu.trans hal))
  have Hc0 := Lib.hid c0
  have Hc1 := Lib.hid c1
  have b0 := HU7.out.cell HB0.out
  have b1 := HU7.out.cell HB1.out
  have a0 := HU7.out.cell HA0.out
  have a1 := HU7.out.cell HA1.out
  clear hu hal hPc hNc c0 c1
  go_wp2_with fail
  generalize w6.alloc (.cells #[.slice cp (rrRes t x).ps.length cc, .slice cq (rrRes t x).ns.length cd] 45) = w7 at *
  generalize w6.heap.size = cb at *
  refine (HRR2.out w7 _ (HT.out.keep (HU7.out.kept _))).mono ?_
  rintro e w8 ⟨hu, dv, rfl, Pd, Nd, rfl, hPd, hNd⟩
  obtain ⟨dp, dc, rfl, -, -⟩ := SlAt.open hPd
  obtain ⟨dq, dd, rfl, -, -⟩ := SlAt.open hNd
  have hPd : IntsAt Any w8 (.slice dp (rrRes t x).ps.length dc) (rrRes t x).ps := hPd
  have hNd : StrsAt Any w8 (.slice dq (rrRes t x).ns.length dd) (rrRes t x).ns := hNd
  have hal := Up.alloc w8 (.cells #[.slice dp (rrRes t x).ps.length dc, .slice dq (rrRes t x).ns.length dd] 45)
  have d0 := box2_0 w8 (.slice dp (rrRes t x).ps.length dc) (.slice dq (rrRes t x).ns.length dd) 45
  have d1 := box2_1 w8 (.slice dp (rrRes t x).ps.length dc) (.slice dq (rrRes t x).ns.length dd) 45
  have HTd : Hid (TreeAt Any (w8.alloc (.cells #[.slice dp (rrRes t x).ps.length dc, .slice dq (rrRes t x).ns.length dd] 45)) (.agg #[.slice dp (rrRes t x).ps.length dc, .slice dq (rrRes t x).ns.length dd]) (rrRes t x)) := TreeAt.keep ⟨_, _, rfl, hPd, hNd⟩ (hal.kept _)
  have HU9 := Lib.hid (HU7.out.trans (hu.trans hal))
  have Hd0 := Lib.hid d0
  have Hd1 := Lib.hid d1
  have b0 := HU9.out.cell HB0.out
  have b1 := HU9.out.cell HB1.out
  have a0 := HU9.out.cell HA0.out
  have a1 := HU9.out.cell HA1.out
  have Hc0 := Lib.hid ((hu.trans hal).cell Hc0.out)
  have Hc1 := Lib.hid ((hu.trans hal).cell Hc1.out)
  have HTc := Lib.hid (HTc.out.keep ((hu.trans hal).kept _))
  clear hu hal hPd hNd d0 d1
  go_wp2_with fail
  generalize w8.alloc (.cells #[.slice dp (rrRes t x).ps.length dc, .slice dq (rrRes t x).ns.length dd] 45) = w9 at *
  generalize w8.heap.size = db at *
  refine (HRS.out w9 _ (HT.out.keep (HU9.out.kept _)) _ (IntsAt.keep HL.out (HU9.out.kept _))).mono ?_
  rintro e w10 ⟨hu, xv, rfl, Px, Nx, rfl, hPx, hNx⟩
  obtain ⟨xp, xc, rfl, -, -⟩ := SlAt.open hPx
  obtain ⟨xq, xd, rfl, -, -⟩ := SlAt.open hNx
  have hPx : IntsAt Any w10 (.slice xp (rsT t l).ps.length xc) (rsT t l).ps := hPx
  have hNx : StrsAt Any w10 (.slice xq (rsT t l).ns.length xd) (rsT t l).ns := hNx
  have hal := Up.alloc w10 (.cells #[.slice xp (rsT t l).ps.length xc, .slice xq (rsT t l).ns.length xd] 45)
  have x0 := box2_0 w10 (.slice xp (rsT t l).ps.length xc) (.slice xq (rsT t l).ns.length xd) 45
  have x1 := box2_1 w10 (.slice xp (rsT t l).ps.length xc) (.slice xq (rsT t l).ns.length xd) 45
  have HTx : Hid (TreeAt Any (w10.alloc (.cells #[.slice xp (rsT t l).ps.length xc, .slice xq (rsT t l).ns.length xd] 45)) (.agg #[.slice xp (rsT t l).ps.length xc, .slice xq (rsT t l).ns.length xd]) (rsT t l)) := TreeAt.keep ⟨_, _, rfl, hPx, hNx⟩ (hal.kept _)
  have HU11 := Lib.hid (HU9.out.trans (hu.trans hal))
  have Hx0 := Lib.hid x0
  have Hx1 := Lib.hid x1
  have b0 := HU11.out.cell HB0.out
  have b1 := HU11.out.cell HB1.out
  have a0 := HU11.out.cell HA0.out
  have a1 := HU11.out.cell HA1.out
  have Hc0 := Lib.hid ((hu.trans hal).cell Hc0.out)
  have Hc1 := Lib.hid ((hu.trans hal).cell Hc1.out)
  have HTc := Lib.hid (HTc.out.keep ((hu.trans hal).kept _))
  have Hd0 := Lib.hid ((hu.trans hal).cell Hd0.out)
  have Hd1 := Lib.hid ((hu.trans hal).cell Hd1.out)
  have HTd := Lib.hid (HTd.out.keep ((hu.trans hal).kept _))
  clear hu hal hPx hNx x0 x1
  go_wp2_with fail
  generalize w10.alloc (.cells #[.slice xp (rsT t l).ps.length xc, .slice xq (rsT t l).ns.length xd] 45) = w11 at *
  generalize w10.heap.size = xb at *
  refine (HRS2.out w11 _ (HT.out.keep (HU11.out.kept _)) _ (IntsAt.keep HL.out (HU11.out.kept _))).mono ?_
  rintro e w12 ⟨hu, yv, rfl, Py, Ny, rfl, hPy, hNy⟩
  obtain ⟨yp, yc, rfl, -, -⟩ := SlAt.open hPy
  obtain ⟨yq, yd, rfl, -, -⟩ := SlAt.open hNy
  have hPy : IntsAt Any w12 (.slice yp (rsT t l).ps.length yc) (rsT t l).ps := hPy
  have hNy : StrsAt Any w12 (.slice yq (rsT t l).ns.length yd) (rsT t l).ns := hNy
  have hal := Up.alloc w12 (.cells #[.slice yp (rsT t l).ps.length yc, .slice yq (rsT t l).ns.length yd] 45)
  have y0 := box2_0 w12 (.slice yp (rsT t l).ps.length yc) (.slice yq (rsT t l).ns.length yd) 45
  have y1 := box2_1 w12 (.slice yp (rsT t l).ps.length yc) (.slice yq (rsT t l).ns.length yd) 45
  have HTy : Hid (TreeAt Any (w12.alloc (.cells #[.slice yp (rsT t l).ps.length yc, .slice yq (rsT t l).ns.length yd] 45)) (.agg #[.slice yp (rsT t l).ps.length yc, .slice yq (rsT t l).ns.length yd]) (rsT t l)) := TreeAt.keep ⟨_, _, rfl, hPy, hNy⟩ (hal.kept _)
  have HU13 := Lib.hid (HU11.out.trans (hu.trans hal))
  have Hy0 := Lib.hid y0
  have Hy1 := Lib.hid y1
  have b0 := HU13.out.cell HB0.out
  have b1 := HU13.out.cell HB1.out
  have a0 := HU13.out.cell HA0.out
  have a1 := HU13.out.cell HA1.out
  have Hc0 := Lib.hid ((hu.trans hal).cell Hc0.out)
  have Hc1 := Lib.hid ((hu.trans hal).cell Hc1.out)
  have HTc := Lib.hid (HTc.out.keep ((hu.trans hal).kept _))
  have Hd0 := Lib.hid ((hu.trans hal).cell Hd0.out)
  have Hd1 := Lib.hid ((hu.trans hal).cell Hd1.out)
  have HTd := Lib.hid (HTd.out.keep ((hu.trans hal).kept _))
  have Hx0 := Lib.hid ((hu.trans hal).cell Hx0.out)
  have Hx1 := Lib.hid ((hu.trans hal).cell Hx1.out)
  have HTx := Lib.hid (HTx.out.keep ((hu.trans hal).kept _))
  clear hu hal hPy hNy y0 y1
  have c0 := Hc0.out
  have c1 := Hc1.out
  have d0 := Hd0.out
  have d1 := Hd1.out
  have x0 := Hx0.out
  have x1 := Hx1.out
  have y0 := Hy0.out
  have y1 := Hy1.out
  go_wp2_with fail
  generalize w12.alloc (.cells #[.slice yp (rsT t l).ps.length yc, .slice yq (rsT t l).ns.length yd] 45) = w13 at *
  generalize w12.heap.size = yb at *
  have HSM : Hid (∀ W v u, Up w13 W → ((v = .agg #[.slice cp (rrRes t x).ps.length cc, .slice cq (rrRes t x).ns.length cd] ∧ u = .agg #[.slice dp (rrRes t x).ps.length dc, .slice dq (rrRes t x).ns.length dd]) ∨ (v = .agg #[.slice xp (rsT t l).ps.length xc, .slice xq (rsT t l).ns.length xd] ∧ u = .agg #[.slice yp (rsT t l).ps.length yc, .slice yq (rsT t l).ns.length yd])) → Calls Tryz.prog 37 #[v, u] W fun e w' => e = .returned (.bool true) ∧ Up W w') := fun W v u h hvu => by
    rcases hvu with ⟨rfl, rfl⟩ | ⟨rfl, rfl⟩
    · exact sameTree_yes Any Any W _ _ (rrRes t x) (HTc.out.keep (h.kept _)) (HTd.out.keep (h.kept _)) HCL.out.1 HCL.out.2
    · exact sameTree_yes Any Any W _ _ (rsT t l) (HTx.out.keep (h.kept _)) (HTy.out.keep (h.kept _)) HPL.out.1 HPL.out.2
  have HUW := Lib.hid (HU.out.trans HU13.out)
  clear HSA HSA2 HRR HRR2 HRS HRS2 HT HQ HL HTc HTd HTx HTy HCL HPL a0 a1 b0 b1
  generalize smB t q = sb at *
  generalize smE t q = se at *
  generalize rrCode t x = rc at *
  generalize rsErr t l = rs at *
  refine (HSM.out _ _ _ (Up.refl _) (.inl ⟨rfl, rfl⟩)).mono ?_
  rintro e w20 ⟨rfl, hu⟩
  have HU20 := Lib.hid hu
  have x0 := hu.cell x0
  have x1 := hu.cell x1
  have y0 := hu.cell y0
  have y1 := hu.cell y1
  clear hu c0 c1 d0 d1
  go_wp2_with fail
  refine (HSM.out _ _ _ HU20.out (.inr ⟨rfl, rfl⟩)).mono ?_
  rintro e w21 ⟨rfl, hu⟩
  have HU21 := Lib.hid (HU20.out.trans hu)
  clear hu
  go_wp2_with fail
  refine (HAW.out _).mono ?_
  rintro e w22 ⟨rfl, hu⟩
  have HU22 := Lib.hid (HU21.out.trans hu)
  clear hu
  go_wp2_with fail
  go_ret
  exact ⟨rfl, HUW.out.trans HU22.out⟩
end Go.Proofs.YtpjijbophjdgaaaGreat
