/- The walk of ParsimonyVerifies. -/
import Derived.Test.YtflikmllpimaiaaB35
import Derived.Test.YtflikmllpimaiaaB38
import Derived.Test.YtflikmllpimaiaaB39
import Derived.Test.YtflikmllpimaiaaS
namespace Go.Proofs.Ytflikmllpimaiaa
open Go.RowKit Go.Deep
set_option maxHeartbeats 400000 in
theorem far1_t (w : World) (a : Option Addr) (m c : Nat) : FnIs 30 #[] #[.slice a m c] (.bool (decide (18 < m))) w := by
  unfold FnIs
  go_enter Try.func30, Try.ntmps30
  go_wp2_with fail
  go_ret
  exact ⟨ret_bool (by rw [Bool.eq_iff_iff]; simp; omega), rfl⟩
theorem rowsFar_t (S : Nat → Prop) (w : World) (v : Value) (xs : List (List Int)) (h : RowsAt S w v xs) (hn : xs.length ≤ 1000000) :
    Calls Try.prog 20 #[v, .func (.func 30) #[] #[]] w fun e w' => e = .returned (.bool (rowFar xs)) ∧ w = w' := by
  obtain ⟨f, hsl, hr⟩ := h
  exact rows_has_t 30 #[] (enters_of Try.func30 (by kernel_rfl) rfl) S w v xs.length f (fun k => decide (18 < (gl xs k).length)) hsl hn (fun k hk => by
    obtain ⟨a, c, e, _, _⟩ := SlAt.open (hr k hk)
    rw [e]; exact far1_t _ _ _ _)
theorem ver_best {t : Tre} {st : List Int} {cs : List (List Int)} (h : Valid t st cs) : verErr t st cs (asgL t st cs) (tabL t st cs) = 0 := by
  unfold verErr
  rw [if_neg (fun e => e h.par), if_neg, if_neg, if_neg (fun e => e (asg_cost h))]
  · rw [fitsBad_of (asg_fits h)]; simp
  · rw [allok_known (asg_ok h)]; simp
theorem ver_ne {t : Tre} {st : List Int} {cs : List (List Int)} (h : Valid t st cs) (all : List Int) {rows : List (List Int)} (hr : rows ≠ tabL t st cs) : verErr t st cs all rows = 18 := by
  unfold verErr
  rw [if_neg (fun e => e h.par), if_pos (.inr hr)]
theorem ver_zero {t : Tre} {st : List Int} {cs : List (List Int)} {all : List Int} {rows : List (List Int)} (h : Valid t st cs) (h0 : verErr t st cs all rows = 0) : AllOk t.ps.length cs.length all ∧ FitsB t st all ∧ costL t cs all = scoreN t st cs := by
  unfold verErr at h0
  rw [if_neg (fun e => e h.par)] at h0
  split at h0
  · cases h0
  · rename_i h1
    split at h0
    · cases h0
    · rename_i h2
      split at h0
      · cases h0
      · rename_i h3
        refine ⟨known_allok ?_, fits_of (by simpa using h2), by simpa using h3⟩
        by_cases e : knownErr all t.ps.length 0 cs.length = 0
        · exact e
        · exact absurd (.inl e) h1
theorem rows_dropLast {S : Nat → Prop} {w : World} {b o n cap : Nat} {xs : List (List Int)} (h : RowsAt S w (.slice (some ⟨b, o, none⟩) n cap) xs) : RowsAt S w (.slice (some ⟨b, o, none⟩) (xs.length - 1) cap) xs.dropLast := by
  obtain ⟨f, ⟨q, c, e, hc, h1⟩, h2⟩ := h
  injection e with e1 e2 e3
  subst e1; subst e2; subst e3
  refine ⟨f, ⟨_, _, by rw [List.length_dropLast], by rw [List.length_dropLast]; omega, ?_⟩, fun k hk => ?_⟩
  · rcases h1 with h1 | ⟨b', off, e, hS, h1⟩
    · exact .inl (by rw [List.length_dropLast]; omega)
    · injection e with e; injection e with e4 e5; subst e4; subst e5
      exact .inr ⟨_, _, rfl, hS, fun k hk => h1 k (by rw [List.length_dropLast] at hk; omega)⟩
  · rw [List.length_dropLast] at hk
    have e : gl xs.dropLast k = gl xs k := by have hk2 : k < xs.length := by omega
                                              simp [gl, hk, hk2]
    rw [e]; exact h2 k (by omega)
theorem gl_dropLast_le {xs : List (List Int)} {B : Nat} (h : ∀ k, (gl xs k).length ≤ B) (k : Nat) : (gl xs.dropLast k).length ≤ B := by
  by_cases hk : k < xs.length - 1
  · have e : gl xs.dropLast k = gl xs k := by have hk2 : k < xs.length := by omega
                                              simp [gl, hk, hk2]
    rw [e]; exact h k
  · simp [gl, hk]
theorem Owns.slAtB {base : Nat} {e : TypeId} {w : World} {g n cap : Nat} {vs : List Value} (h : Owns base e w (.slice (some ⟨g, 0, none⟩) n cap) vs) : SlAt (· = g) w (.slice (some ⟨g, 0, none⟩) n cap) vs.length (fun k => vs.getD k undef) := by
  obtain ⟨p, c, e1, hn, h1⟩ := h.slAt
  injection e1 with e2 e3 e4
  subst e2; subst e3; subst e4
  refine ⟨_, _, rfl, hn, ?_⟩
  rcases h1 with h1 | ⟨b, off, e5, _, h1⟩
  · exact .inl h1
  · injection e5 with e5; injection e5 with e6 e7
    subst e6; subst e7
    exact .inr ⟨_, _, rfl, rfl, h1⟩
def VerCond (t : Tre) (st : List Int) (cs : List (List Int)) (all : List Int) (rows : List (List Int)) : Prop := fineB t st cs = true ∧ all.length ≤ 14 ∧ rows.length ≤ 14 ∧ rowFar rows = false
set_option maxRecDepth 100000 in
set_option maxHeartbeats 4000000 in
theorem verifies_yes (w : World) (v vs vc va vr : Value) (t : Tre) (st : List Int) (cs : List (List Int)) (all : List Int) (rows : List (List Int)) (hT : TreeAt Any w v t) (hS : IntsAt Any w vs st) (hC : RowsAt Any w vc cs) (hA : IntsAt Any w va all) (hR : RowsAt Any w vr rows)
    (hz : Big t st cs) (hcond : VerCond t st cs all rows) : Calls Try.prog 7 #[v, vs, vc, va, vr] w (BoPost w true) := by
  obtain ⟨hf, hal, hrl, hrf⟩ := hcond
  obtain ⟨hg, hv⟩ := fine_sized hf
  obtain ⟨hsz, _⟩ := great_sized hg
  obtain ⟨P, N, rfl, hP, hN⟩ := hT
  obtain ⟨pp, pcap, rfl, hpcap, _⟩ := SlAt.open hP
  have hP0 : IntsAt Any w (.slice pp t.ps.length pcap) t.ps := hP
  obtain ⟨qA, capA, rfl, hcapA, _⟩ := SlAt.open hA
  have hA : IntsAt Any w (.slice qA all.length capA) all := hA
  obtain ⟨qC, capC, rfl, hcapC, _⟩ := rows_open hC
  obtain ⟨qR, capR, rfl, hcapR, _⟩ := rows_open hR
  have hu := Up.alloc w (.cells #[.slice pp t.ps.length pcap, N] 25)
  have hT1 : TreeAt Any (w.alloc (.cells #[.slice pp t.ps.length pcap, N] 25)) (.agg #[.slice pp t.ps.length pcap, N]) t := TreeAt.keep ⟨_, N, rfl, hP0, hN⟩ (hu.kept _)
  have HT := Lib.hid hT1
  have HS := Lib.hid (IntsAt.keep hS (hu.kept _))
  have HC := Lib.hid (hC.keep (hu.kept _))
  have HA := Lib.hid (IntsAt.keep hA (hu.kept _))
  have HR := Lib.hid (hR.keep (hu.kept _))
  have HU := Lib.hid hu
  have HB0 := Lib.hid (box2_0 w (.slice pp t.ps.length pcap) N 25)
  have HB1 := Lib.hid (box2_1 w (.slice pp t.ps.length pcap) N 25)
  have HFI := Lib.hid (fine_t Any _ _ _ _ t st cs HT.out HS.out HC.out hz)
  have HV := Lib.hid hv
  have HSZ := Lib.hid hsz
  have hrr : ∀ k, (gl rows k).length ≤ 1000000 := fun k => by
    by_cases hk : k < rows.length
    · have := any_false hrf hk; simp at this; omega
    · have : gl rows k = [] := by simp [gl, List.getElem?_eq_none (by omega : rows.length ≤ k)]
      rw [this]; simp
  have HRR := Lib.hid hrr
  obtain ⟨hps1, hps2, _, _, _⟩ := treeErr_zero hv.tree
  have hms := (matErr_zero hv.mat).2.1
  have hm1 := (matErr_zero hv.mat).1
  have i1 : decide (14 < (all.length : Int)) = false := by simp; omega
  have i2 : decide (14 < (rows.length : Int)) = false := by simp; omega
  clear hu hT1 hP hP0 hN hS hC hA hR hz hv hsz hg hrr
  go_enter Try.func7, Try.ntmps7
  go_wp2_with fail
  generalize w.alloc (.cells #[.slice pp t.ps.length pcap, N] 25) = w1 at *
  refine HFI.out.mono ?_
  rintro e w2 ⟨rfl, hu2⟩
  have HU2 := Lib.hid (HU.out.trans hu2)
  have hc0 := hu2.cell HB0.out
  have hc1 := hu2.cell HB1.out
  have HT2 := Lib.hid (HT.out.keep (hu2.kept _))
  have HS2 := Lib.hid (IntsAt.keep HS.out (hu2.kept _))
  have HC2 := Lib.hid (HC.out.keep (hu2.kept _))
  have HA2 := Lib.hid (IntsAt.keep HA.out (hu2.kept _))
  have HR2 := Lib.hid (HR.out.keep (hu2.kept _))
  have HRF := Lib.hid (rowsFar_t Any w2 _ rows HR2.out (by omega))
  rw [hf]
  rw [hrf] at HRF
  clear HU HB0 HB1 HT HS HC HA HR hu2 HFI hf hrf
  go_wp2_with fail
  refine HRF.out.mono ?_
  rintro e w2' ⟨rfl, rfl⟩
  clear HRF
  go_wp2_with fail
  -- the best assignment
  refine (assign_t Any w2 _ _ _ t st cs HT2.out HS2.out HC2.out HSZ.out).mono ?_
  rintro e w3 ⟨hu3, av, rfl, hav⟩
  have HU3 := Lib.hid (HU2.out.trans hu3)
  have hd0 := hu3.cell hc0
  have hd1 := hu3.cell hc1
  have HT3 := Lib.hid (HT2.out.keep (hu3.kept _))
  have HS3 := Lib.hid (IntsAt.keep HS2.out (hu3.kept _))
  have HC3 := Lib.hid (HC2.out.keep (hu3.kept _))
  have HA3 := Lib.hid (IntsAt.keep HA2.out (hu3.kept _))
  have HR3 := Lib.hid (HR2.out.keep (hu3.kept _))
  have hasg : assignN t st cs = asgL t st cs := by unfold assignN; rw [if_pos HV.out.par]
  rw [hasg] at hav
  have HB3 : Hid (IntsAt Any w3 av (asgL t st cs)) := IntsAt.sub hav fun _ _ _ => trivial
  have hp := HV.out.par
  rw [hp]
  clear hu3 HU2 hc0 hc1 HT2 HS2 HC2 HA2 HR2 hav hasg hp
  go_wp2_with fail
  -- the table
  refine (ptable_t Any w3 _ _ _ t st cs HT3.out HS3.out HC3.out HSZ.out).mono ?_
  rintro e w4 ⟨hu4, tv, rfl, htv⟩
  have htab : tableN t st cs = tabL t st cs := by unfold tableN; rw [if_pos HV.out.par]
  rw [htab] at htv
  obtain ⟨tp, tcap, rfl, htcap, _⟩ := rows_open htv
  rw [tabL_len] at htv htcap ⊢
  obtain ⟨tb, to, _, _, rfl, _, _⟩ := rows_get htv (k := 0) (by rw [tabL_len]; omega)
  have HU4 := Lib.hid (HU3.out.trans hu4)
  have he0 := hu4.cell hd0
  have he1 := hu4.cell hd1
  have HT4 := Lib.hid (HT3.out.keep (hu4.kept _))
  have HS4 := Lib.hid (IntsAt.keep HS3.out (hu4.kept _))
  have HC4 := Lib.hid (HC3.out.keep (hu4.kept _))
  have HA4 := Lib.hid (IntsAt.keep HA3.out (hu4.kept _))
  have HR4 := Lib.hid (HR3.out.keep (hu4.kept _))
  have HB4 := Lib.hid (IntsAt.keep HB3.out (hu4.kept _))
  have HX4 := Lib.hid htv
  have hp := HV.out.par
  rw [hp]
  clear hu4 HU3 hd0 hd1 HT3 HS3 HC3 HA3 HR3 HB3 htv htab hp
  go_wp2_with fail
  -- the score
  refine (score_t Any w4 _ _ _ t st cs HT4.out HS4.out HC4.out HSZ.out).mono ?_
  rintro e w5 ⟨hu5, rfl⟩
  have HU5 := Lib.hid (HU4.out.trans hu5)
  have hf0 := hu5.cell he0
  have hf1 := hu5.cell he1
  have HT5 := Lib.hid (HT4.out.keep (hu5.kept _))
  have HS5 := Lib.hid (IntsAt.keep HS4.out (hu5.kept _))
  have HC5 := Lib.hid (HC4.out.keep (hu5.kept _))
  have HA5 := Lib.hid (IntsAt.keep HA4.out (hu5.kept _))
  have HR5 := Lib.hid (HR4.out.keep (hu5.kept _))
  have HB5 := Lib.hid (IntsAt.keep HB4.out (hu5.kept _))
  have HX5 := Lib.hid (HX4.out.keep (hu5.kept _))
  have hp := HV.out.par
  rw [hp]
  have HAL : Hid ((asgL t st cs).length ≤ 1000000) := by unfold Hid; rw [asgL_len]; omega
  have HTL : Hid ((tabL t st cs).length ≤ 1000000 ∧ ∀ k, (gl (tabL t st cs) k).length ≤ 1000000) := ⟨by rw [tabL_len]; omega, fun k => by
    by_cases h : k < t.ps.length
    · rw [gl_tabL _ _ _ h, tabRow_len]; omega
    · simp [gl, tabL, h]⟩
  have HV1 := Lib.hid (verify_t Any w5 _ _ _ _ _ t st cs (asgL t st cs) (tabL t st cs) HT5.out HS5.out HC5.out HB5.out HX5.out HSZ.out HAL.out HTL.out.1 HTL.out.2)
  clear hu5 HU4 he0 he1 HT4 HS4 HC4 HA4 HR4 HB4 HX4 hp
  go_wp2_with fail
  refine HV1.out.mono ?_
  rintro e w6 ⟨rfl, hb⟩
  have hu6 : Up w5 w6 := hb
  have HU6 := Lib.hid (HU5.out.trans hu6)
  have hg0 := hu6.cell hf0
  have hg1 := hu6.cell hf1
  have HT6 := Lib.hid (HT5.out.keep (hu6.kept _))
  have HS6 := Lib.hid (IntsAt.keep HS5.out (hu6.kept _))
  have HC6 := Lib.hid (HC5.out.keep (hu6.kept _))
  have HA6 := Lib.hid (IntsAt.keep HA5.out (hu6.kept _))
  have HR6 := Lib.hid (HR5.out.keep (hu6.kept _))
  have HB6 := Lib.hid (IntsAt.keep HB5.out (hu6.kept _))
  have HX6 := Lib.hid (HX5.out.keep (hu6.kept _))
  have hvb := ver_best HV.out
  rw [hvb]
  clear hb hu6 HU5 hf0 hf1 HT5 HS5 HC5 HA5 HR5 HB5 HX5 hvb HV1
  have j0 : IntKind.i64.wrap ((t.ps.length : Int) - 1) = (t.ps.length : Int) - 1 := IntWalk.i64_in _ (by omega)
  have j1 : (0 : Int) ≤ (t.ps.length : Int) - 1 := by omega
  have j2 : (t.ps.length : Int) - 1 ≤ (tcap : Int) := by omega
  have j3 : ((t.ps.length : Int) - 1).toNat = t.ps.length - 1 := by omega
  have j4 : (1 : Int) ≤ (t.ps.length : Int) := by omega
  go_wp2_with fail
  refine wp_region_still_tail 9 (by kernel_rfl) (by kernel_rfl) ?_
  simp only [List.take_succ_cons, List.take_zero, List.drop_succ_cons, List.drop_zero]
  repeat still_step
  refine wpStill_nil ?_
  change wpList _ _ _ _ _ (w6.drewN 1)
  have hu7 := Up.drewN w6 1
  generalize w6.drewN 1 = w7 at *
  have HU7 := Lib.hid (HU6.out.trans hu7)
  have hh0 := hu7.cell hg0
  have hh1 := hu7.cell hg1
  have HT7 := Lib.hid (HT6.out.keep (hu7.kept _))
  have HS7 := Lib.hid (IntsAt.keep HS6.out (hu7.kept _))
  have HC7 := Lib.hid (HC6.out.keep (hu7.kept _))
  have HA7 := Lib.hid (IntsAt.keep HA6.out (hu7.kept _))
  have HR7 := Lib.hid (HR6.out.keep (hu7.kept _))
  have HB7 := Lib.hid (IntsAt.keep HB6.out (hu7.kept _))
  have HX7 := Lib.hid (HX6.out.keep (hu7.kept _))
  have hdl := rows_dropLast HX7.out
  rw [tabL_len] at hdl
  have HV2 := Lib.hid (verify_t Any w7 _ _ _ _ _ t st cs (asgL t st cs) (tabL t st cs).dropLast HT7.out HS7.out HC7.out HB7.out hdl HSZ.out HAL.out (by rw [List.length_dropLast]; have := HTL.out.1; omega) (fun k => gl_dropLast_le HTL.out.2 k))
  clear hu7 HU6 hg0 hg1 HT6 HS6 HC6 HA6 HR6 HB6 HX6 hdl
  go_wp2_with fail
  refine HV2.out.mono ?_
  rintro e w8 ⟨rfl, hb⟩
  have hu8 : Up w7 w8 := hb
  have HU8 := Lib.hid (HU7.out.trans hu8)
  have hi0 := hu8.cell hh0
  have hi1 := hu8.cell hh1
  have HT8 := Lib.hid (HT7.out.keep (hu8.kept _))
  have HS8 := Lib.hid (IntsAt.keep HS7.out (hu8.kept _))
  have HC8 := Lib.hid (HC7.out.keep (hu8.kept _))
  have HA8 := Lib.hid (IntsAt.keep HA7.out (hu8.kept _))
  have HR8 := Lib.hid (HR7.out.keep (hu8.kept _))
  have HB8 := Lib.hid (IntsAt.keep HB7.out (hu8.kept _))
  have HX8 := Lib.hid (HX7.out.keep (hu8.kept _))
  have hvb := ver_ne HV.out (asgL t st cs) (rows := (tabL t st cs).dropLast) (dropLast_ne (by rw [tabL_len]; omega))
  rw [hvb]
  have HCL := Lib.hid (clone_rows_t (· < w8.heap.size) w8 _ _ (HX8.out.sub fun b _ hb => hb) HTL.out.1)
  clear hb hu8 HU7 hh0 hh1 HT7 HS7 HC7 HA7 HR7 HB7 HX7 hvb HV2
  go_wp2_with fail
  refine HCL.out.mono ?_
  rintro e w9 ⟨hu9, uv, vals, rfl, hvl, hov, hvr⟩
  have hi90 := hu9.cell hi0
  have hi91 := hu9.cell hi1
  have HU9 := Lib.hid (HU8.out.trans hu9)
  have hkn : t.ps.length / 2 < vals.length := by rw [hvl, tabL_len]; omega
  have hkn2 : t.ps.length / 2 < t.ps.length := by omega
  obtain ⟨ug, ucap, rfl, hug, hug2, huc, huf, huset⟩ := hov.set hkn
  rw [hvl, tabL_len]
  rw [hvl, tabL_len] at hov huset
  have hrowk := hvr (t.ps.length / 2) (by rw [tabL_len]; exact hkn2)
  obtain ⟨rq, rc, erow, hrc1, _⟩ := SlAt.open hrowk
  rw [gl_tabL _ _ _ hkn2] at hrowk
  rw [gl_tabL _ _ _ hkn2, tabRow_len] at erow
  rw [erow] at huc hrowk
  have HROW := Lib.hid hrowk
  have HOV := Lib.hid hov
  have HVR := Lib.hid hvr
  have HUS := Lib.hid huset
  have HUG := Lib.hid hug
  clear hvr huset HCL hov hkn hrowk
  go_wp2_with fail
  refine (clone_int_t _ w9 _ (tabRow t st cs (t.ps.length / 2)) HROW.out (by rw [tabRow_len]; omega)).mono ?_
  rintro e w10 ⟨hu10, lv, rfl, hlown⟩
  obtain ⟨lg, lcap, rfl, hlg, hlg2, hlc, hlf, hlset⟩ := hlown.set (j := 0) (by rw [List.length_map, tabRow_len]; exact hm1)
  rw [List.length_map, tabRow_len] at hlown hlset ⊢
  have hlc2 : w10.cell? ⟨lg, 0, none⟩ = some (.int .i64 (gi (tabRow t st cs (t.ps.length / 2)) 0)) := by
    rw [hlc]
    have : 0 < (tabRow t st cs (t.ps.length / 2)).length := by rw [tabRow_len]; exact hm1
    simp [gi, this]
  have hov10 := HOV.out.kept fun b _ hb => Below.block hu10 b hb
  obtain ⟨ug', ucap', e', -, hug10, huc10, huf10, huset10⟩ := hov10.set (j := t.ps.length / 2) (by rw [hvl, tabL_len]; exact hkn2)
  injection e' with e1 e2 e3
  clear e2 e3
  injection e1 with e1
  injection e1 with e1
  subst e1
  have hne : lg ≠ ug := by omega
  obtain ⟨y10, huc10⟩ : ∃ y, w10.cell? ⟨ug, t.ps.length / 2, none⟩ = some y := ⟨_, huc10⟩
  have k1 : (w10.setCell ⟨ug, t.ps.length / 2, none⟩ (.slice (some ⟨lg, 0, none⟩) cs.length lcap)).cell? ⟨ug, t.ps.length / 2, none⟩ = some (.slice (some ⟨lg, 0, none⟩) cs.length lcap) := World.cell?_setCell_same' _ _ _ (by rw [huc10]; rfl)
  have k2 : (w10.setCell ⟨ug, t.ps.length / 2, none⟩ (.slice (some ⟨lg, 0, none⟩) cs.length lcap)).cell? ⟨lg, 0, none⟩ = some (.int .i64 (gi (tabRow t st cs (t.ps.length / 2)) 0)) := by
    rw [World.cell?_setCell_other _ _ _ _ (by intro e; injection e with e; exact hne e.symm)]; exact hlc2
  have k3 : (w10.setCell ⟨ug, t.ps.length / 2, none⟩ (.slice (some ⟨lg, 0, none⟩) cs.length lcap)).frozen? ⟨lg, 0, none⟩ = false := by rw [World.frozen?_setCell]; exact hlf
  have hrb := HV.out.tb (t.ps.length / 2) 0 hkn2
  have HLOWN := Lib.hid hlown
  have HLSET := Lib.hid hlset
  have HUSET := Lib.hid huset10
  have hl11 : Owns w9.heap.size 3 (w10.setCell ⟨ug, t.ps.length / 2, none⟩ (.slice (some ⟨lg, 0, none⟩) cs.length lcap)) (.slice (some ⟨lg, 0, none⟩) cs.length lcap) ((tabRow t st cs (t.ps.length / 2)).map (Value.int .i64)) := hlown.kept fun b hb _ => Below.heap_setCell w10 _ _ b (by simp only; omega)
  obtain ⟨lg', lcap', e', -, -, -, -, hl12⟩ := hl11.set (j := 0) (by rw [List.length_map, tabRow_len]; exact hm1)
  injection e' with e1 e2 e3
  clear e2 e3
  injection e1 with e1
  injection e1 with e1
  subst e1
  have hl12 := hl12 (.int .i64 (gi (tabRow t st cs (t.ps.length / 2)) 0 + 1))
  rw [gi_set'] at hl12
  have HL12 := Lib.hid hl12.ints
  have hup : Up w8 ((w10.setCell ⟨ug, t.ps.length / 2, none⟩ (.slice (some ⟨lg, 0, none⟩) cs.length lcap)).setCell ⟨lg, 0, none⟩ (.int .i64 (gi (tabRow t st cs (t.ps.length / 2)) 0 + 1))) :=
    Below.setCell (p := ⟨lg, 0, none⟩) (Below.setCell (p := ⟨ug, t.ps.length / 2, none⟩) (hu9.trans hu10) hug _) (by have := hu9.size; simp only; omega) _
  have hrows12 : RowsAt Any ((w10.setCell ⟨ug, t.ps.length / 2, none⟩ (.slice (some ⟨lg, 0, none⟩) cs.length lcap)).setCell ⟨lg, 0, none⟩ (.int .i64 (gi (tabRow t st cs (t.ps.length / 2)) 0 + 1))) (.slice (some ⟨ug, 0, none⟩) t.ps.length ucap) ((tabL t st cs).set (t.ps.length / 2) ((tabRow t st cs (t.ps.length / 2)).set 0 (gi (tabRow t st cs (t.ps.length / 2)) 0 + 1))) := by
    have h1 := (Owns.slAtB (huset10 (.slice (some ⟨lg, 0, none⟩) cs.length lcap)))
    rw [List.length_set, hvl, tabL_len] at h1
    have h2 := h1.keep (w' := (w10.setCell ⟨ug, t.ps.length / 2, none⟩ (.slice (some ⟨lg, 0, none⟩) cs.length lcap)).setCell ⟨lg, 0, none⟩ (.int .i64 (gi (tabRow t st cs (t.ps.length / 2)) 0 + 1))) (fun b hb _ => Below.heap_setCell _ _ _ b (by simp only; omega))
    refine ⟨_, (by rw [List.length_set, tabL_len]; exact h2.sub fun _ _ _ => trivial), fun j hj => ?_⟩
    rw [List.length_set, tabL_len] at hj
    rw [gl_set]
    by_cases ej : j = t.ps.length / 2
    · subst ej
      rw [if_pos ⟨by rw [tabL_len]; exact hkn2, rfl⟩]
      have e : (vals.set (t.ps.length / 2) (.slice (some ⟨lg, 0, none⟩) cs.length lcap)).getD (t.ps.length / 2) undef = .slice (some ⟨lg, 0, none⟩) cs.length lcap := by simp [hvl, tabL_len, hkn2]
      rw [e]; exact HL12.out.sub fun _ _ _ => trivial
    · rw [if_neg (fun h => ej h.2)]
      have e : (vals.set (t.ps.length / 2) (.slice (some ⟨lg, 0, none⟩) cs.length lcap)).getD j undef = vals.getD j undef := by
        simp [Ne.symm ej]
      rw [e]
      refine (IntsAt.keep (HVR.out j (by rw [tabL_len]; exact hj)) (fun b hb hl => ?_)).sub fun _ _ _ => trivial
      rw [Below.heap_setCell _ _ _ b (by have := hu9.size; simp only; omega), Below.heap_setCell _ _ _ b (by simp only; omega)]
      exact Below.block hu10 b hl
  have hj0 := hup.cell hi0
  have hj1 := hup.cell hi1
  have HU12 := Lib.hid (HU8.out.trans hup)
  have HT12 := Lib.hid (HT8.out.keep (hup.kept _))
  have HS12 := Lib.hid (IntsAt.keep HS8.out (hup.kept _))
  have HC12 := Lib.hid (HC8.out.keep (hup.kept _))
  have HA12 := Lib.hid (IntsAt.keep HA8.out (hup.kept _))
  have HR12 := Lib.hid (HR8.out.keep (hup.kept _))
  have HB12 := Lib.hid (IntsAt.keep HB8.out (hup.kept _))
  have HW12 := Lib.hid hrows12
  have HNE : Hid ((tabL t st cs).set (t.ps.length / 2) ((tabRow t st cs (t.ps.length / 2)).set 0 (gi (tabRow t st cs (t.ps.length / 2)) 0 + 1)) ≠ tabL t st cs) := by
    have := set_ne (xs := tabL t st cs) (k := t.ps.length / 2) (by rw [tabL_len]; exact hkn2) (by rw [gl_tabL _ _ _ hkn2, tabRow_len]; exact hm1)
    rw [gl_tabL _ _ _ hkn2] at this; exact this
  have HWL : Hid (∀ k, (gl ((tabL t st cs).set (t.ps.length / 2) ((tabRow t st cs (t.ps.length / 2)).set 0 (gi (tabRow t st cs (t.ps.length / 2)) 0 + 1))) k).length ≤ 1000000) := fun k => by
    rw [gl_set]; split
    · rw [List.length_set, tabRow_len]; omega
    · exact HTL.out.2 k
  obtain ⟨hrb1, hrb2⟩ := hrb
  clear hup hrows12 hlown hlset huset10 hl11 hl12 hov10 hlc hlc2 hlf HL12 HU8 hi0 hi1 HT8 HS8 HC8 HA8 HR8 HB8 HX8 HU9 hi90 hi91 hu10 hu9 erow huc huf
  generalize gi (tabRow t st cs (t.ps.length / 2)) 0 = r0 at *
  go_wp2_with fail
  clear k1 k2 k3 huc10 huf10
  generalize (w10.setCell ⟨ug, t.ps.length / 2, none⟩ (.slice (some ⟨lg, 0, none⟩) cs.length lcap)).setCell ⟨lg, 0, none⟩ (.int .i64 (r0 + 1)) = w12 at *
  refine (verify_t Any w12 _ _ _ _ _ t st cs (asgL t st cs) _ HT12.out HS12.out HC12.out HB12.out HW12.out HSZ.out HAL.out (by rw [List.length_set]; exact HTL.out.1) HWL.out).mono ?_
  rintro e w13 ⟨rfl, hb⟩
  have hu13 : Up w12 w13 := hb
  have HU13 := Lib.hid (HU12.out.trans hu13)
  have hm0 := hu13.cell hj0
  have hm1' := hu13.cell hj1
  have HT13 := Lib.hid (HT12.out.keep (hu13.kept _))
  have HS13 := Lib.hid (IntsAt.keep HS12.out (hu13.kept _))
  have HC13 := Lib.hid (HC12.out.keep (hu13.kept _))
  have HA13 := Lib.hid (IntsAt.keep HA12.out (hu13.kept _))
  have HR13 := Lib.hid (HR12.out.keep (hu13.kept _))
  have hvn := ver_ne HV.out (asgL t st cs) HNE.out
  rw [hvn]
  have HV3 := Lib.hid (verify_t Any w13 _ _ _ _ _ t st cs all rows HT13.out HS13.out HC13.out HA13.out HR13.out HSZ.out (by omega) (by omega) HRR.out)
  clear hb hu13 HU12 hj0 hj1 HT12 HS12 HC12 HA12 HR12 HB12 HW12 hvn HNE HWL
  go_wp2_with fail
  refine HV3.out.mono ?_
  rintro e w14 ⟨rfl, hb⟩
  have hu14 : Up w13 w14 := hb
  have HU14 := Lib.hid (HU13.out.trans hu14)
  have hq0 := hu14.cell hm0
  have hq1 := hu14.cell hm1'
  have HT14 := Lib.hid (HT13.out.keep (hu14.kept _))
  have HS14 := Lib.hid (IntsAt.keep HS13.out (hu14.kept _))
  have HC14 := Lib.hid (HC13.out.keep (hu14.kept _))
  have HA14 := Lib.hid (IntsAt.keep HA13.out (hu14.kept _))
  clear hb hu14 HU13 hm0 hm1' HT13 HS13 HC13 HA13 HR13 HV3
  by_cases hvz : verErr t st cs all rows = 0
  · have hvz1 : (verErr t st cs all rows != 0) = false := by simpa using hvz
    obtain ⟨hao, hfb, hco⟩ := ver_zero HV.out hvz
    have hce : costErr t all cs = 0 := AllOk.err HV.out.tree HV.out.mat hao
    have hcn : costN t all cs = scoreN t st cs := by unfold costN; rw [if_pos hce]; exact hco
    have hsz2 : Sized t all cs := by
      obtain ⟨a1, a2, a3, a4, a5, a6⟩ := HSZ.out
      exact ⟨a1, a2, a3, by omega, a5, a6⟩
    have HCO := Lib.hid (pcost_t Any w14 _ _ _ t all cs HT14.out HA14.out HC14.out hsz2)
    have HCE := Lib.hid hce
    have HCN := Lib.hid hcn
    have HAO := Lib.hid hao
    have HFB := Lib.hid hfb
    clear hvz hao hfb hco hce hcn hsz2
    go_wp2_with fail
    refine HCO.out.mono ?_
    rintro e w15 ⟨hu15, rfl⟩
    have HU15 := Lib.hid (HU14.out.trans hu15)
    have hr0 := hu15.cell hq0
    have hr1 := hu15.cell hq1
    have HFT := Lib.hid (fits_t Any w15 _ _ _ t st all (HT14.out.keep (hu15.kept _)) (IntsAt.keep HS14.out (hu15.kept _)) (IntsAt.keep HA14.out (hu15.kept _)) HV.out.tree HSZ.out.2.2.1 HAO.out.1 HV.out.len HFB.out)
    rw [HCE.out, HCN.out]
    generalize scoreN t st cs = n1 at *
    clear hu15 HU14 HCO hq0 hq1
    go_wp2_with fail
    refine HFT.out.mono ?_
    rintro e w16 ⟨rfl, hu16⟩
    have HU16 := Lib.hid (HU15.out.trans hu16)
    clear hu16 HFT HU15
    go_wp2_with fail
    refine (awake_t w16).mono ?_
    rintro e w17 ⟨rfl, hu17⟩
    have HU17 := Lib.hid (HU16.out.trans hu17)
    clear hu17
    go_wp2_with fail
    go_ret
    exact ⟨rfl, HU17.out⟩
  · have hvz1 : (verErr t st cs all rows != 0) = true := by simpa using hvz
    clear hvz
    go_wp2_with fail
    refine (awake_t w14).mono ?_
    rintro e w15 ⟨rfl, hu15⟩
    have HU15 := Lib.hid (HU14.out.trans hu15)
    clear hu15
    go_wp2_with fail
    go_ret
    exact ⟨rfl, HU15.out⟩
end Go.Proofs.Ytflikmllpimaiaa
