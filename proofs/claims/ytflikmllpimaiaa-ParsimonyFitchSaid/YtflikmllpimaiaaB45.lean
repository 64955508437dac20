/- The contracts of the reference's Table and Score. -/
import Derived.Test.YtflikmllpimaiaaB44
import Derived.Deep.RegionWith
import Derived.Deep.RegionHeld
namespace Go.Proofs.Ytflikmllpimaiaa
open Go.RowKit Go.Deep
theorem rows_made (S : Nat → Prop) (w : World) (b c : Nat) : RowsAt S w (.slice (some ⟨b, 0, none⟩) 0 c) [] := ⟨fun _ => undef, ⟨_, _, rfl, Nat.zero_le _, .inl rfl⟩, fun _ hk => absurd hk (Nat.not_lt_zero _)⟩
theorem ints_made (S : Nat → Prop) (w : World) (b c : Nat) : IntsAt S w (.slice (some ⟨b, 0, none⟩) 0 c) [] := ⟨_, _, rfl, Nat.zero_le _, .inl rfl⟩
set_option maxRecDepth 100000 in
set_option maxHeartbeats 800000 in
theorem ptableR_t (S : Nat → Prop) (w : World) (v vs vc : Value) (t : Tre) (st : List Int) (cs : List (List Int)) (hT : TreeAt S w v t) (hS : IntsAt S w vs st) (hC : RowsAt S w vc cs) (hz : Sized t st cs) :
    Calls Try.prog 23 #[v, vs, vc] w (TlPost w t st cs) := by
  have hns := hz.2.2.1
  obtain ⟨P, N, rfl, hP, hN⟩ := hT
  have hu := Up.alloc w (.cells #[P, N] 25)
  have hT1 : TreeAt S (w.alloc (.cells #[P, N] 25)) (.agg #[P, N]) t := TreeAt.keep ⟨P, N, rfl, hP, hN⟩ (hu.kept S)
  have hk := checkRP_t S _ _ _ _ t st cs hT1 (IntsAt.keep hS (hu.kept S)) (hC.keep (hu.kept S)) hz
  have HK := Lib.hid hk
  have HU := Lib.hid hu
  have HB0 := Lib.hid (box2_0 w P N 25)
  have HB1 := Lib.hid (box2_1 w P N 25)
  have HT := Lib.hid hT1
  have HS := Lib.hid (IntsAt.keep hS (hu.kept S))
  have HC := Lib.hid (hC.keep (hu.kept S))
  have HNS := Lib.hid hns
  clear hk hu hT1 hS hC hP hN hz hns
  go_enter Try.func23, Try.ntmps23
  go_wp2_with fail
  generalize w.alloc (.cells #[P, N] 25) = w1 at *
  refine HK.out.mono ?_
  rintro e w2 ⟨rfl, hb⟩
  have hu2 : Up w1 w2 := hb
  have hc0 := hu2.cell HB0.out
  have hc1 := hu2.cell HB1.out
  have HU2 := Lib.hid (HU.out.trans hu2)
  have HT2 := Lib.hid (HT.out.keep (hu2.kept S))
  have HS2 := Lib.hid (IntsAt.keep HS.out (hu2.kept S))
  have HC2 := Lib.hid (HC.out.keep (hu2.kept S))
  clear hb hu2 HK HU HB0 HB1 HT HS HC
  by_cases he : parErr t st cs = 0
  · have he1 : (parErr t st cs != 0) = false := by simpa using he
    have hv := parErr_valid he
    have HF : Hid (tableN t st cs = tabL t st cs) := by unfold Hid tableN; rw [if_pos he]
    have HE := Lib.hid he
    have HTB := Lib.hid (tableR_t S w2 _ _ _ t st cs HT2.out HS2.out HC2.out HNS.out hv)
    clear he hv
    go_wp2_with fail
    refine HTB.out.mono ?_
    rintro e w3 ⟨hb3, tv, rfl, hrows⟩
    have HU3 := Lib.hid (HU2.out.trans (show Up w2 w3 from hb3))
    have HR := Lib.hid hrows
    clear hb3 hrows
    go_wp2_with fail
    go_ret2
    exact ⟨HU3.out, tv, by rw [HE.out]; rfl, by rw [HF.out]; exact HR.out⟩
  · have he1 : (parErr t st cs != 0) = true := by simpa using he
    have HE := Lib.hid he
    clear he
    go_wp2_with fail
    go_ret2
    exact ⟨HU2.out.trans (Up.alloc _ _), _, rfl, by unfold tableN; rw [if_neg HE.out]; exact rows_made _ _ _ _⟩
theorem gi_zeros (n k : Nat) : gi (List.replicate n 0) k = 0 := by
  unfold gi
  by_cases h : k < n
  · simp [h]
  · simp [h]
theorem zeros_at (w : World) (n : Nat) (T : TypeId) : IntsAt Any (w.alloc (.cells (madeCells #[.int .i64 0] n) T)) (.slice (some ⟨w.heap.size, 0, none⟩) n n) (List.replicate n 0) := by
  refine ⟨_, _, by rw [List.length_replicate], by rw [List.length_replicate]; exact Nat.le_refl _, .inr ⟨_, 0, rfl, trivial, fun k hk => ?_⟩⟩
  rw [List.length_replicate] at hk
  rw [Nat.zero_add, (World.rowIs_made w (.int .i64 0) n T).cell hk]
  show some (Value.int .i64 0) = some (Value.int .i64 (gi (List.replicate n 0) k))
  rw [gi_zeros]
def Tb1Post (w : World) (t : Tre) (st : List Int) (cs : List (List Int)) (e : Ending) (w' : World) : Prop :=
  ∃ tb to tcap rq rc, e = .returned (.slice (some ⟨tb, to, none⟩) t.ps.length tcap) ∧ w'.cell? ⟨tb, to, none⟩ = some (.slice rq cs.length rc) ∧ IntsAt Any w' (.slice rq cs.length rc) (tabRow t st cs 0) ∧ Up w w'
theorem tb1 {w w' : World} {t : Tre} {st : List Int} {cs : List (List Int)} {e : Ending} (hv : Valid t st cs) (h : TbPost w (tabL t st cs) e w') : Tb1Post w t st cs e w' := by
  obtain ⟨hb, v, rfl, hr⟩ := h
  have hp := (treeErr_zero hv.tree).1
  obtain ⟨p, cap, rfl, _, H⟩ := rows_open hr
  obtain ⟨b, off, q, c, rfl, hc, hi⟩ := H 0 (by rw [tabL_len]; exact hp)
  rw [gl_tabL _ _ _ hp] at hc hi
  rw [tabRow_len] at hc hi
  rw [tabL_len]
  exact ⟨b, off, cap, q, c, rfl, by rw [Nat.add_zero] at hc; exact hc, hi, hb⟩
set_option maxRecDepth 100000 in
set_option maxHeartbeats 2000000 in
theorem scoreR_t (S : Nat → Prop) (w : World) (v vs vc : Value) (t : Tre) (st : List Int) (cs : List (List Int)) (hT : TreeAt S w v t) (hS : IntsAt S w vs st) (hC : RowsAt S w vc cs) (hz : Sized t st cs) :
    Calls Try.prog 32 #[v, vs, vc] w (ScPost w t st cs) := by
  have hns := hz.2.2.1
  obtain ⟨P, N, rfl, hP, hN⟩ := hT
  obtain ⟨qC, capC, rfl, hcapC, _⟩ := rows_open hC
  have hu := Up.alloc w (.cells #[P, N] 25)
  have hT1 : TreeAt S (w.alloc (.cells #[P, N] 25)) (.agg #[P, N]) t := TreeAt.keep ⟨P, N, rfl, hP, hN⟩ (hu.kept S)
  have hk := checkRP_t S _ _ _ _ t st cs hT1 (IntsAt.keep hS (hu.kept S)) (hC.keep (hu.kept S)) hz
  have HK := Lib.hid hk
  have HU := Lib.hid hu
  have HB0 := Lib.hid (box2_0 w P N 25)
  have HB1 := Lib.hid (box2_1 w P N 25)
  have HT := Lib.hid hT1
  have HS := Lib.hid (IntsAt.keep hS (hu.kept S))
  have HC := Lib.hid (hC.keep (hu.kept S))
  have HNS := Lib.hid hns
  clear hk hu hT1 hS hC hP hN hz hns
  go_enter Try.func32, Try.ntmps32
  go_wp2_with fail
  generalize w.alloc (.cells #[P, N] 25) = w1 at *
  refine HK.out.mono ?_
  rintro e w2 ⟨rfl, hb⟩
  have hu2 : Up w1 w2 := hb
  have hc0 := hu2.cell HB0.out
  have hc1 := hu2.cell HB1.out
  have HU2 := Lib.hid (HU.out.trans hu2)
  have HT2 := Lib.hid (HT.out.keep (hu2.kept S))
  have HS2 := Lib.hid (IntsAt.keep HS.out (hu2.kept S))
  have HC2 := Lib.hid (HC.out.keep (hu2.kept S))
  clear hb hu2 HK HU HB0 HB1 HT HS HC
  by_cases he : parErr t st cs = 0
  · have he1 : (parErr t st cs != 0) = false := by simpa using he
    have hv := parErr_valid he
    have HF : Hid (scoreN t st cs = (bestK (fun _ => 0) (gi (tabRow t st cs 0)) cs.length).1) := by unfold Hid scoreN; rw [if_pos he]
    have hm2 := (matErr_zero hv.mat).2.1
    have HE := Lib.hid he
    have HV := Lib.hid hv
    have hmk2 := fun W => run_make_row' (P := Try.prog) 22 3 (.int .i64 0) 8 Try.underlying22 Try.infoI rfl .i64 .i64 cs.length (by omega) (by omega) W
    have HTB : Hid (∀ W, Up w2 W → Calls Try.prog 59 #[.agg #[P, N], vs, .slice qC cs.length capC] W (Tb1Post W t st cs)) := fun W hW => (tableR_t S W _ _ _ t st cs (HT2.out.keep (hW.kept _)) (IntsAt.keep HS2.out (hW.kept _)) (HC2.out.keep (hW.kept _)) HNS.out HV.out).mono fun _ _ h => tb1 HV.out h
    have HRL : Hid ((tabRow t st cs 0).length ≤ (List.replicate cs.length (0 : Int)).length ∧ (List.replicate cs.length (0 : Int)).length ≤ 1000 ∧ (∀ k, 0 ≤ gi (List.replicate cs.length (0 : Int)) k ∧ gi (List.replicate cs.length (0 : Int)) k ≤ 1000) ∧ ∀ k, gi (tabRow t st cs 0) k ≤ 1000000000) :=
      ⟨by rw [tabRow_len, List.length_replicate]; exact Nat.le_refl _, by rw [List.length_replicate]; omega, fun k => by rw [gi_zeros]; omega, fun k => by have := (HV.out.tb 0 k (treeErr_zero HV.out.tree).1).2; omega⟩
    have HSC : Hid ((bestK (gi (List.replicate cs.length 0)) (gi (tabRow t st cs 0)) (tabRow t st cs 0).length).1 = scoreN t st cs) := by unfold Hid; rw [HF.out, tabRow_len, bestK_congr (fun j _ => gi_zeros _ j) (fun _ _ => rfl)]
    have hlen0 : (tabRow t st cs 0).length = cs.length := tabRow_len _ _ _ _
    have hpos0 : (0 : Int) < (t.ps.length : Int) := by have := (treeErr_zero HV.out.tree).1; omega
    clear hlen0
    clear he hv
    have hc0a : ∀ o, (w2.alloc o).cell? ⟨w.heap.size, 0, none⟩ = some P := fun o => (Up.alloc w2 o).cell hc0
    have hc1a : ∀ o, (w2.alloc o).cell? ⟨w.heap.size, 1, none⟩ = some N := fun o => (Up.alloc w2 o).cell hc1
    go_wp2_with fail
    go_region_with (first
      | (go_at_call 59; refine (HTB.out _ ?_).mono ?_; (first | exact Up.drewN w2 1 | exact (Up.drewN w2 1).trans (Up.alloc _ _)); rintro e w3 ⟨tb, to, tcap, rq, rc, rfl, hcell, hrow, hup⟩; have hne : ∀ o, (w3.alloc o).cell? ⟨tb, to, none⟩ = some (.slice rq cs.length rc) := (fun o => (Up.alloc w3 o).cell hcell); have hrow2 := Lib.hid hrow; have hup2 := Lib.hid hup; clear hrow hup)
      | (go_at_call 60; refine (leastR_t Any Any _ _ _ (tabRow t st cs 0) (List.replicate cs.length 0) ?_ ?_ HRL.out.1 HRL.out.2.1 HRL.out.2.2.1 HRL.out.2.2.2).mono ?_; (first | exact hrow2.out | exact IntsAt.keep hrow2.out ((Up.alloc _ _).kept _)); (first | exact zeros_at _ _ _ | exact IntsAt.keep (zeros_at _ _ _) (hup2.out.kept _)); rintro e w5 ⟨rfl, n5, rfl⟩))
    all_goals
      rw [HSC.out]
      go_wp2_with fail
      go_ret2
      refine ⟨HU2.out.trans ?_, by rw [HE.out]; rfl⟩
      first
        | exact (((Up.drewN w2 1).trans hup2.out).trans (Up.alloc _ _)).trans (Up.drewN _ _)
        | exact ((((Up.drewN w2 1).trans (Up.alloc _ _)).trans hup2.out)).trans (Up.drewN _ _)
  · have he1 : (parErr t st cs != 0) = true := by simpa using he
    have HE := Lib.hid he
    clear he
    go_wp2_with fail
    go_ret2
    exact ⟨HU2.out, by unfold scoreN; rw [if_neg HE.out]; rfl⟩
end Go.Proofs.Ytflikmllpimaiaa
