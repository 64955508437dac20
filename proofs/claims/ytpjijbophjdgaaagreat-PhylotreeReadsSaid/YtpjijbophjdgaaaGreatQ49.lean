/- The walk of PhylotreeReads. -/
import Derived.Test.YtpjijbophjdgaaaGreatQ30
import Derived.Test.YtpjijbophjdgaaaGreatQ43
import Derived.Test.YtpjijbophjdgaaaGreatQ48
import Derived.Test.YtpjijbophjdgaaaGreatQ25
import Derived.Test.YtpjijbophjdgaaaGreatQ38
import Derived.Test.YtpjijbophjdgaaaGreatQ4
import Derived.Deep.RegionHeld3
namespace Go.Proofs.YtpjijbophjdgaaaGreat
open Go.RowKit Go.Deep
theorem rd_small31 {t : Tre} (h : gt31B t 16 = false) : t.ps.length ≤ 66 ∧ t.ns.length ≤ 68 ∧ ∀ k, (gs t.ns k).size ≤ 20 := by
  unfold gt31B at h
  simp only [Bool.or_eq_false_iff, Bool.and_eq_false_iff, decide_eq_false_iff_not] at h
  refine ⟨by omega, by omega, fun k => ?_⟩
  by_cases hk : k < t.ns.length
  · have h2 := any_false h.2 hk
    have := of_decide_eq_false h2
    omega
  · have : gs t.ns k = ByteArray.empty := by simp [gs, show t.ns.length ≤ k by omega]
    rw [this]; exact Nat.zero_le _
def lvX (t : Tre) : List Int := if treeErr t ≠ 0 then [] else leavesL t.ns
def cnX (t : Tre) : Tre := if treeErr t ≠ 0 then ⟨[], []⟩ else canT t
theorem lv_post {w w' : World} {t : Tre} {e : Ending} (h : LvPost w t e w') : Up w w' ∧ ∃ v, e = .returned (.tuple #[v, .int .i64 (txE t)]) ∧ IntsAt Any w' v (lvX t) := by
  obtain ⟨hu, ⟨h0, rfl⟩ | ⟨h0, v, rfl, hv⟩⟩ := h
  · refine ⟨hu, .slice none 0 0, by unfold txE; rw [if_pos h0], ?_⟩
    unfold lvX; rw [if_pos h0]
    exact ⟨none, 0, rfl, Nat.le_refl _, .inl rfl⟩
  · refine ⟨hu, v, by unfold txE; rw [if_neg (by simp [h0])], ?_⟩
    unfold lvX; rw [if_neg (by simp [h0])]
    exact hv.sub fun _ _ _ => trivial
theorem cn_post {w w' : World} {t : Tre} {e : Ending} (h : CnPost w t e w') : Up w w' ∧ ∃ v, e = .returned (.tuple #[v, .int .i64 (txE t)]) ∧ TreeAt Any w' v (cnX t) := by
  obtain ⟨hu, ⟨h0, rfl⟩ | ⟨h0, v, rfl, hv⟩⟩ := h
  · refine ⟨hu, .agg #[.slice none 0 0, .slice none 0 0], by unfold txE; rw [if_pos h0], ?_⟩
    unfold cnX; rw [if_pos h0]
    exact nil_tree _
  · refine ⟨hu, v, by unfold txE; rw [if_neg (by simp [h0])], ?_⟩
    unfold cnX; rw [if_neg (by simp [h0])]
    exact hv.sub fun _ _ _ => trivial
theorem cr_post {w w' : World} {t : Tre} {e : Ending} (h : CrPost w t e w') : Up w w' ∧ ∃ v, e = .returned (.tuple #[v, .int .i64 (txE t)]) ∧ TreeAt Any w' v (cnX t) := by
  obtain ⟨hu, ⟨h0, rfl⟩ | ⟨h0, v, rfl, hv⟩⟩ := h
  · refine ⟨hu, .agg #[.slice none 0 0, .slice none 0 0], by unfold txE; rw [if_pos h0], ?_⟩
    unfold cnX; rw [if_pos h0]
    exact nil_tree _
  · refine ⟨hu, v, by unfold txE; rw [if_neg (by simp [h0])], ?_⟩
    unfold cnX; rw [if_neg (by simp [h0]), ← canR_canT h0]
    exact hv.sub fun _ _ _ => trivial
theorem cnX_len (t : Tre) : (cnX t).ps.length ≤ 1000000 ∧ (cnX t).ns.length ≤ 1000000 := by
  unfold cnX
  split
  · exact ⟨by simp, by simp⟩
  · rename_i h
    obtain ⟨_, h1, h2, _, _⟩ := treeErr_zero (canT_ok (Classical.not_not.1 h))
    omega
theorem paT_len (s : ByteArray) : (paT s).ps.length ≤ 1000000 ∧ (paT s).ns.length ≤ 1000000 := by
  unfold paT
  split
  · exact ⟨by simp, by simp⟩
  · split
    · exact ⟨by simp, by simp⟩
    · rename_i h
      obtain ⟨_, h1, h2, _, _⟩ := treeErr_zero (Classical.not_not.1 h)
      omega
theorem lvX_len (t : Tre) (h : t.ns.length ≤ 1000000) : (lvX t).length ≤ 1000000 := by
  unfold lvX
  split
  · simp
  · exact Nat.le_trans (leavesK_len t.ns t.ns.length) h
set_option maxRecDepth 100000 in
set_option maxHeartbeats 16000000 in
theorem reads_law (w : World) (v : Value) (t : Tre) (a b : Int) (s : ByteArray) (hT : TreeAt Any w v t) (hp : t.ps.length ≤ 9223372036854775807) (hn : t.ns.length ≤ 9223372036854775807) (hz : ∀ k, (gs t.ns k).size ≤ 9223372036854775807) :
    Calls Tryz.prog 5 #[v, .int .i64 a, .int .i64 b, .string s] w fun e w' => e = .returned (.bool true) ∧ Up w w' := by
  obtain ⟨P, N, rfl, hP, hN⟩ := hT
  obtain ⟨pp, pc, rfl, -, -⟩ := SlAt.open hP
  obtain ⟨np, nc, rfl, -, -⟩ := SlAt.open hN
  have hP : IntsAt Any w (.slice pp t.ps.length pc) t.ps := hP
  have hN : StrsAt Any w (.slice np t.ns.length nc) t.ns := hN
  have hu := Up.alloc w (.cells #[.slice pp t.ps.length pc, .slice np t.ns.length nc] 45)
  have b0 := box2_0 w (.slice pp t.ps.length pc) (.slice np t.ns.length nc) 45
  have b1 := box2_1 w (.slice pp t.ps.length pc) (.slice np t.ns.length nc) 45
  have HB0 := Lib.hid b0
  have HB1 := Lib.hid b1
  have HT : Hid (TreeAt Any (w.alloc (.cells #[.slice pp t.ps.length pc, .slice np t.ns.length nc] 45)) (.agg #[.slice pp t.ps.length pc, .slice np t.ns.length nc]) t) := TreeAt.keep ⟨_, _, rfl, hP, hN⟩ (hu.kept _)
  have HG := Lib.hid (lgreat31_t Any _ _ t HT.out hp hn hz)
  have HU := Lib.hid hu
  have HAW := Lib.hid awake31_t
  clear hu hP hN hn hz hp
  cases hg : gt31B t 16
  case true =>
    rw [hg] at HG
    clear hg
    go_enter Tryz.func5, Tryz.ntmps5
    go_wp2_with (first | (go_at_call 29; refine HG.out.mono ?_; rintro e w1 ⟨rfl, hu1⟩) | (go_at_call 30; refine (HAW.out _).mono ?_; rintro e w' ⟨rfl, hu⟩) | fail)
    go_ret
    exact ⟨rfl, HU.out.trans (hu1.trans hu)⟩
  case false =>
  obtain ⟨sp, sn, sz⟩ := rd_small31 hg
  rw [hg] at HG
  by_cases h80 : 80 < s.size
  · have d0 : decide ((80 : Int) < (s.size : Int)) = true := decide_eq_true (by omega)
    clear hg
    go_enter Tryz.func5, Tryz.ntmps5
    go_wp2_with (first | (go_at_call 29; refine HG.out.mono ?_; rintro e w1 ⟨rfl, hu1⟩) | (go_at_call 30; refine (HAW.out _).mono ?_; rintro e w' ⟨rfl, hu⟩) | fail)
    go_ret
    exact ⟨rfl, HU.out.trans (hu1.trans hu)⟩
  have d0 : decide ((80 : Int) < (s.size : Int)) = false := decide_eq_false (by omega)
  have hs1 : s.size ≤ 1000 := by omega
  have g1 : t.ps.length ≤ 1000000 := by omega
  have g2 : t.ns.length ≤ 1000000 := by omega
  have g3 : ∀ k, (gs t.ns k).size ≤ 70000 := fun k => Nat.le_trans (sz k) (by decide)
  have HPR := Lib.hid (fun W v (hv : TreeAt Any W v t) => print_t Any W v t hv g1 g2 g3)
  have HPR2 := Lib.hid (fun W v (hv : TreeAt Any W v t) => printR31_t Any W v t hv g1 g2 g3)
  have HLV := Lib.hid (fun W v (hv : TreeAt Any W v t) => (leaves_t Any W v t hv g1 g2 g3).mono fun _ _ h => lv_post h)
  have HLV2 := Lib.hid (fun W v (hv : TreeAt Any W v t) => (leaves31R_t Any W v t hv g1 g2 g3).mono fun _ _ h => lv_post h)
  have HCN := Lib.hid (fun W v (hv : TreeAt Any W v t) => (pcanonical_t Any W v t hv g1 g2 g3).mono fun _ _ h => cn_post h)
  have HCN2 := Lib.hid (fun W v (hv : TreeAt Any W v t) => (canonR_t Any W v t hv g1 g2 g3).mono fun _ _ h => cr_post h)
  have HAN := Lib.hid (fun W v (hv : TreeAt Any W v t) => ancestor_t Any W v t a b hv g1 g2 g3)
  have HAN2 := Lib.hid (fun W v (hv : TreeAt Any W v t) => ancestor31R_t Any W v t a b hv g1 g2 g3)
  have HPA := Lib.hid (fun W => parse31_t W s hs1)
  have HPA2 := Lib.hid (fun W => parse31R_t W s hs1)
  have HCK : Hid (∀ W v, TreeAt Any W v t → Calls Tryz.prog 48 #[v] W fun e w' => e = .returned (.int .i64 (treeErr t)) ∧ Up W w') := fun W v hv => check_t Any W v t hv g1 g2 g3
  have HCK2 : Hid (∀ W v, TreeAt Any W v t → Calls Tryz.prog 49 #[v] W fun e w' => e = .returned (.int .i64 (treeErr t)) ∧ Up W w') := fun W v hv => checkR_t Any W v t hv g1 g2 g3
  have HCL := Lib.hid (cnX_len t)
  have HPL := Lib.hid (paT_len s)
  have HLL := Lib.hid (lvX_len t g2)
  clear hg h80 sp sn sz g1 g2 g3
  go_enter Tryz.func5, Tryz.ntmps5
  go_wp2_with fail
  generalize w.alloc (.cells #[.slice pp t.ps.length pc, .slice np t.ns.length nc] 45) = w1 at *
  generalize w.heap.size = tb at *
  refine HG.out.mono ?_
  rintro e w2 ⟨rfl, hu2⟩
  have HU2 := Lib.hid hu2
  have b0 := hu2.cell HB0.out
  have b1 := hu2.cell HB1.out
  clear hu2 HG
  go_wp2_with fail
  clear d0
  refine (HPR.out w2 _ (HT.out.keep (HU2.out.kept _))).mono ?_
  rintro e w3 ⟨hu, rfl⟩
  have HU3 := Lib.hid (HU2.out.trans hu)
  have b0 := HU3.out.cell HB0.out
  have b1 := HU3.out.cell HB1.out
  clear hu
  go_wp2_with fail
  refine (HPR2.out w3 _ (HT.out.keep (HU3.out.kept _))).mono ?_
  rintro e w4 ⟨hu, rfl⟩
  have HU4 := Lib.hid (HU3.out.trans hu)
  have b0 := HU4.out.cell HB0.out
  have b1 := HU4.out.cell HB1.out
  clear hu
  go_wp2_with fail
  refine (HLV.out w4 _ (HT.out.keep (HU4.out.kept _))).mono ?_
  rintro e w5 ⟨hu, lv, rfl, hl⟩
  obtain ⟨lp, lc, rfl, -, -⟩ := SlAt.open hl
  have HLl : Hid (IntsAt Any w5 (.slice lp (lvX t).length lc) (lvX t)) := hl
  have HU5 := Lib.hid (HU4.out.trans hu)
  have b0 := HU5.out.cell HB0.out
  have b1 := HU5.out.cell HB1.out
  clear hu hl
  go_wp2_with fail
  refine (HLV2.out w5 _ (HT.out.keep (HU5.out.kept _))).mono ?_
  rintro e w6 ⟨hu, mv, rfl, hm⟩
  obtain ⟨mp, mc, rfl, -, -⟩ := SlAt.open hm
  have HLm : Hid (IntsAt Any w6 (.slice mp (lvX t).length mc) (lvX t)) := hm
  have HU6 := Lib.hid (HU5.out.trans hu)
  have b0 := HU6.out.cell HB0.out
  have b1 := HU6.out.cell HB1.out
  have HLl := Lib.hid (HLl.out.keep ((hu).kept _))
  clear hu hm
  go_wp2_with fail
  refine (HCN.out w6 _ (HT.out.keep (HU6.out.kept _))).mono ?_
  rintro e w7 ⟨hu, cv, rfl, Pc, Nc, rfl, hPc, hNc⟩
  obtain ⟨cp, cc, rfl, -, -⟩ := SlAt.open hPc
  obtain ⟨cq, cd, rfl, -, -⟩ := SlAt.open hNc
  have hPc : IntsAt Any w7 (.slice cp (cnX t).ps.length cc) (cnX t).ps := hPc
  have hNc : StrsAt Any w7 (.slice cq (cnX t).ns.length cd) (cnX t).ns := hNc
  have hal := Up.alloc w7 (.cells #[.slice cp (cnX t).ps.length cc, .slice cq (cnX t).ns.length cd] 45)
  have c0 := box2_0 w7 (.slice cp (cnX t).ps.length cc) (.slice cq (cnX t).ns.length cd) 45
  have c1 := box2_1 w7 (.slice cp (cnX t).ps.length cc) (.slice cq (cnX t).ns.length cd) 45
  have HTc : Hid (TreeAt Any (w7.alloc (.cells #[.slice cp (cnX t).ps.length cc, .slice cq (cnX t).ns.length cd] 45)) (.agg #[.slice cp (cnX t).ps.length cc, .slice cq (cnX t).ns.length cd]) (cnX t)) := TreeAt.keep ⟨_, _, rfl, hPc, hNc⟩ (hal.kept _)
  have HU8 := Lib.hid (HU6.out.trans (hu.trans hal))
  have Hc0 := Lib.hid c0
  have Hc1 := Lib.hid c1
  have b0 := HU8.out.cell HB0.out
  have b1 := HU8.out.cell HB1.out
  have HLl := Lib.hid (HLl.out.keep ((hu.trans hal).kept _))
  have HLm := Lib.hid (HLm.out.keep ((hu.trans hal).kept _))
  clear hu hal hPc hNc c0 c1
  go_wp2_with fail
  generalize w7.alloc (.cells #[.slice cp (cnX t).ps.length cc, .slice cq (cnX t).ns.length cd] 45) = w8 at *
  generalize w7.heap.size = cb at *
  refine (HCN2.out w8 _ (HT.out.keep (HU8.out.kept _))).mono ?_
  rintro e w9 ⟨hu, dv, rfl, Pd, Nd, rfl, hPd, hNd⟩
  obtain ⟨dp, dc, rfl, -, -⟩ := SlAt.open hPd
  obtain ⟨dq, dd, rfl, -, -⟩ := SlAt.open hNd
  have hPd : IntsAt Any w9 (.slice dp (cnX t).ps.length dc) (cnX t).ps := hPd
  have hNd : StrsAt Any w9 (.slice dq (cnX t).ns.length dd) (cnX t).ns := hNd
  have hal := Up.alloc w9 (.cells #[.slice dp (cnX t).ps.length dc, .slice dq (cnX t).ns.length dd] 45)
  have d0 := box2_0 w9 (.slice dp (cnX t).ps.length dc) (.slice dq (cnX t).ns.length dd) 45
  have d1 := box2_1 w9 (.slice dp (cnX t).ps.length dc) (.slice dq (cnX t).ns.length dd) 45
  have HTd : Hid (TreeAt Any (w9.alloc (.cells #[.slice dp (cnX t).ps.length dc, .slice dq (cnX t).ns.length dd] 45)) (.agg #[.slice dp (cnX t).ps.length dc, .slice dq (cnX t).ns.length dd]) (cnX t)) := TreeAt.keep ⟨_, _, rfl, hPd, hNd⟩ (hal.kept _)
  have HU10 := Lib.hid (HU8.out.trans (hu.trans hal))
  have Hd0 := Lib.hid d0
  have Hd1 := Lib.hid d1
  have b0 := HU10.out.cell HB0.out
  have b1 := HU10.out.cell HB1.out
  have HLl := Lib.hid (HLl.out.keep ((hu.trans hal).kept _))
  have HLm := Lib.hid (HLm.out.keep ((hu.trans hal).kept _))
  have Hc0 := Lib.hid ((hu.trans hal).cell Hc0.out)
  have Hc1 := Lib.hid ((hu.trans hal).cell Hc1.out)
  have HTc := Lib.hid (HTc.out.keep ((hu.trans hal).kept _))
  clear hu hal hPd hNd d0 d1
  go_wp2_with fail
  generalize w9.alloc (.cells #[.slice dp (cnX t).ps.length dc, .slice dq (cnX t).ns.length dd] 45) = w10 at *
  generalize w9.heap.size = db at *
  refine (HAN.out w10 _ (HT.out.keep (HU10.out.kept _))).mono ?_
  rintro e w11 ⟨rfl, hu⟩
  have HU11 := Lib.hid (HU10.out.trans hu)
  have b0 := HU11.out.cell HB0.out
  have b1 := HU11.out.cell HB1.out
  have HLl := Lib.hid (HLl.out.keep ((hu).kept _))
  have HLm := Lib.hid (HLm.out.keep ((hu).kept _))
  have Hc0 := Lib.hid ((hu).cell Hc0.out)
  have Hc1 := Lib.hid ((hu).cell Hc1.out)
  have HTc := Lib.hid (HTc.out.keep ((hu).kept _))
  have Hd0 := Lib.hid ((hu).cell Hd0.out)
  have Hd1 := Lib.hid ((hu).cell Hd1.out)
  have HTd := Lib.hid (HTd.out.keep ((hu).kept _))
  clear hu
  go_wp2_with fail
  refine (HAN2.out w11 _ (HT.out.keep (HU11.out.kept _))).mono ?_
  rintro e w12 ⟨rfl, hu⟩
  have HU12 := Lib.hid (HU11.out.trans hu)
  have b0 := HU12.out.cell HB0.out
  have b1 := HU12.out.cell HB1.out
  have HLl := Lib.hid (HLl.out.keep ((hu).kept _))
  have HLm := Lib.hid (HLm.out.keep ((hu).kept _))
  have Hc0 := Lib.hid ((hu).cell Hc0.out)
  have Hc1 := Lib.hid ((hu).cell Hc1.out)
  have HTc := Lib.hid (HTc.out.keep ((hu).kept _))
  have Hd0 := Lib.hid ((hu).cell Hd0.out)
  have Hd1 := Lib.hid ((hu).cell Hd1.out)
  have HTd := Lib.hid (HTd.out.keep ((hu).kept _))
  clear hu
  go_wp2_with fail
  refine (HPA.out w12).mono ?_
  rintro e w13 ⟨hu, xv, rfl, Px, Nx, rfl, hPx, hNx⟩
  obtain ⟨xp, xc, rfl, -, -⟩ := SlAt.open hPx
  obtain ⟨xq, xd, rfl, -, -⟩ := SlAt.open hNx
  have hPx : IntsAt Any w13 (.slice xp (paT s).ps.length xc) (paT s).ps := hPx
  have hNx : StrsAt Any w13 (.slice xq (paT s).ns.length xd) (paT s).ns := hNx
  have hal := Up.alloc w13 (.cells #[.slice xp (paT s).ps.length xc, .slice xq (paT s).ns.length xd] 45)
  have x0 := box2_0 w13 (.slice xp (paT s).ps.length xc) (.slice xq (paT s).ns.length xd) 45
  have x1 := box2_1 w13 (.slice xp (paT s).ps.length xc) (.slice xq (paT s).ns.length xd) 45
  have HTx : Hid (TreeAt Any (w13.alloc (.cells #[.slice xp (paT s).ps.length xc, .slice xq (paT s).ns.length xd] 45)) (.agg #[.slice xp (paT s).ps.length xc, .slice xq (paT s).ns.length xd]) (paT s)) := TreeAt.keep ⟨_, _, rfl, hPx, hNx⟩ (hal.kept _)
  have HU14 := Lib.hid (HU12.out.trans (hu.trans hal))
  have Hx0 := Lib.hid x0
  have Hx1 := Lib.hid x1
  have b0 := HU14.out.cell HB0.out
  have b1 := HU14.out.cell HB1.out
  have HLl := Lib.hid (HLl.out.keep ((hu.trans hal).kept _))
  have HLm := Lib.hid (HLm.out.keep ((hu.trans hal).kept _))
  have Hc0 := Lib.hid ((hu.trans hal).cell Hc0.out)
  have Hc1 := Lib.hid ((hu.trans hal).cell Hc1.out)
  have HTc := Lib.hid (HTc.out.keep ((hu.trans hal).kept _))
  have Hd0 := Lib.hid ((hu.trans hal).cell Hd0.out)
  have Hd1 := Lib.hid ((hu.trans hal).cell Hd1.out)
  have HTd := Lib.hid (HTd.out.keep ((hu.trans hal).kept _))
  clear hu hal hPx hNx x0 x1
  go_wp2_with fail
  generalize w13.alloc (.cells #[.slice xp (paT s).ps.length xc, .slice xq (paT s).ns.length xd] 45) = w14 at *
  generalize w13.heap.size = xb at *
  refine (HPA2.out w14).mono ?_
  rintro e w15 ⟨hu, yv, rfl, Py, Ny, rfl, hPy, hNy⟩
  obtain ⟨yp, yc, rfl, -, -⟩ := SlAt.open hPy
  obtain ⟨yq, yd, rfl, -, -⟩ := SlAt.open hNy
  have hPy : IntsAt Any w15 (.slice yp (paT s).ps.length yc) (paT s).ps := hPy
  have hNy : StrsAt Any w15 (.slice yq (paT s).ns.length yd) (paT s).ns := hNy
  have hal := Up.alloc w15 (.cells #[.slice yp (paT s).ps.length yc, .slice yq (paT s).ns.length yd] 45)
  have y0 := box2_0 w15 (.slice yp (paT s).ps.length yc) (.slice yq (paT s).ns.length yd) 45
  have y1 := box2_1 w15 (.slice yp (paT s).ps.length yc) (.slice yq (paT s).ns.length yd) 45
  have HTy : Hid (TreeAt Any (w15.alloc (.cells #[.slice yp (paT s).ps.length yc, .slice yq (paT s).ns.length yd] 45)) (.agg #[.slice yp (paT s).ps.length yc, .slice yq (paT s).ns.length yd]) (paT s)) := TreeAt.keep ⟨_, _, rfl, hPy, hNy⟩ (hal.kept _)
  have HU16 := Lib.hid (HU14.out.trans (hu.trans hal))
  have Hy0 := Lib.hid y0
  have Hy1 := Lib.hid y1
  have b0 := HU16.out.cell HB0.out
  have b1 := HU16.out.cell HB1.out
  have HLl := Lib.hid (HLl.out.keep ((hu.trans hal).kept _))
  have HLm := Lib.hid (HLm.out.keep ((hu.trans hal).kept _))
  have Hc0 := Lib.hid ((hu.trans hal).cell Hc0.out)
  have Hc1 := Lib.hid ((hu.trans hal).cell Hc1.out)
  have HTc := Lib.hid (HTc.out.keep ((hu.trans hal).kept _))
  have Hd0 := Lib.hid ((hu.trans hal).cell Hd0.out)
  have Hd1 := Lib.hid ((hu.trans hal).cell Hd1.out)
  have HTd := Lib.hid (HTd.out.keep ((hu.trans hal).kept _))
  have Hx0 := Lib.hid ((hu.trans hal).cell Hx0.out)
  have Hx1 := Lib.hid ((hu.trans hal).cell Hx1.out)
  have HTx := Lib.hid (HTx.out.keep ((hu.trans hal).kept _))
  clear hu hal hPy hNy y0 y1
  go_wp2_with fail
  generalize w15.alloc (.cells #[.slice yp (paT s).ps.length yc, .slice yq (paT s).ns.length yd] 45) = w16 at *
  generalize w15.heap.size = yb at *
  have HTW := Lib.hid (HT.out.keep (HU16.out.kept _))
  have HK1 := Lib.hid (fun W (h : Up w16 W) => HCK.out W _ (HTW.out.keep (h.kept _)))
  have HK2 := Lib.hid (fun W (h : Up w16 W) => HCK2.out W _ (HTW.out.keep (h.kept _)))
  have HEQ : Hid (∀ W, Up w16 W → Calls Tryz.prog 18 #[.slice lp (lvX t).length lc, .slice mp (lvX t).length mc] W fun e w' => e = .returned (.bool true) ∧ Up W w') := fun W h => by
    refine (equal_int_t Any Any W _ _ (lvX t) (lvX t) (HLl.out.keep (h.kept _)) (HLm.out.keep (h.kept _)) HLL.out HLL.out).mono ?_
    rintro e w' ⟨rfl, n, rfl⟩
    exact ⟨by rw [decide_eq_true rfl], Up.drewN _ _⟩
  have HSM : Hid (∀ W v u, Up w16 W → ((v = .agg #[.slice cp (cnX t).ps.length cc, .slice cq (cnX t).ns.length cd] ∧ u = .agg #[.slice dp (cnX t).ps.length dc, .slice dq (cnX t).ns.length dd]) ∨ (v = .agg #[.slice xp (paT s).ps.length xc, .slice xq (paT s).ns.length xd] ∧ u = .agg #[.slice yp (paT s).ps.length yc, .slice yq (paT s).ns.length yd])) → Calls Tryz.prog 37 #[v, u] W fun e w' => e = .returned (.bool true) ∧ Up W w') := fun W v u h hvu => by
    rcases hvu with ⟨rfl, rfl⟩ | ⟨rfl, rfl⟩
    · exact sameTree_yes Any Any W _ _ (cnX t) (HTc.out.keep (h.kept _)) (HTd.out.keep (h.kept _)) HCL.out.1 HCL.out.2
    · exact sameTree_yes Any Any W _ _ (paT s) (HTx.out.keep (h.kept _)) (HTy.out.keep (h.kept _)) HPL.out.1 HPL.out.2
  have B0 := Lib.hid b0
  have B1 := Lib.hid b1
  have HUW := Lib.hid (HU.out.trans HU16.out)
  clear HPR HPR2 HLV HLV2 HCN HCN2 HAN HAN2 HPA HPA2 HCK HCK2 HT HTW HTc HTd HTx HTy HLl HLm HCL HPL HLL b0 b1
  generalize (⟨(txT t).toArray⟩ : ByteArray) = tx at *
  have hup : Hid (Up w16 (w16.drewN 1)) := Up.drewN w16 1
  go_region_held3 (fun w' => Hid (Up w16 w') ∧ w'.cell? ⟨tb, 0, none⟩ = some (.slice pp t.ps.length pc) ∧ w'.cell? ⟨tb, 1, none⟩ = some (.slice np t.ns.length nc) ∧ w'.cell? ⟨cb, 0, none⟩ = some (.slice cp (cnX t).ps.length cc) ∧ w'.cell? ⟨cb, 1, none⟩ = some (.slice cq (cnX t).ns.length cd) ∧ w'.cell? ⟨db, 0, none⟩ = some (.slice dp (cnX t).ps.length dc) ∧ w'.cell? ⟨db, 1, none⟩ = some (.slice dq (cnX t).ns.length dd) ∧ w'.cell? ⟨xb, 0, none⟩ = some (.slice xp (paT s).ps.length xc) ∧ w'.cell? ⟨xb, 1, none⟩ = some (.slice xq (paT s).ns.length xd) ∧ w'.cell? ⟨yb, 0, none⟩ = some (.slice yp (paT s).ps.length yc) ∧ w'.cell? ⟨yb, 1, none⟩ = some (.slice yq (paT s).ns.length yd)) (exact ⟨hup, hup.out.cell B0.out, hup.out.cell B1.out, hup.out.cell Hc0.out, hup.out.cell Hc1.out, hup.out.cell Hd0.out, hup.out.cell Hd1.out, hup.out.cell Hx0.out, hup.out.cell Hx1.out, hup.out.cell Hy0.out, hup.out.cell Hy1.out⟩) (first
    | (go_at_call 48; refine (HK1.out _ hup.out).mono ?_; rintro e w' ⟨rfl, hu⟩; have hup : Hid (Up w16 w') := hup.out.trans hu; clear hu)
    | (go_at_call 49; refine (HK2.out _ hup.out).mono ?_; rintro e w' ⟨rfl, hu⟩; have hup : Hid (Up w16 w') := hup.out.trans hu; clear hu)
    | (go_at_call 18; refine (HEQ.out _ hup.out).mono ?_; rintro e w' ⟨rfl, hu⟩; have hup : Hid (Up w16 w') := hup.out.trans hu; clear hu)
    | (go_at_call 37; refine (HSM.out _ _ _ hup.out (by first | exact .inl ⟨rfl, rfl⟩ | exact .inr ⟨rfl, rfl⟩)).mono ?_; rintro e w' ⟨rfl, hu⟩; have hup : Hid (Up w16 w') := hup.out.trans hu; clear hu)
    | (go_at_call 30; refine (HAW.out _).mono ?_; rintro e w' ⟨rfl, hu⟩; have hup : Hid (Up w16 w') := hup.out.trans hu; clear hu))
  go_wp2_with fail
  go_ret
  exact ⟨rfl, HUW.out.trans hup.out⟩
end Go.Proofs.YtpjijbophjdgaaaGreat
