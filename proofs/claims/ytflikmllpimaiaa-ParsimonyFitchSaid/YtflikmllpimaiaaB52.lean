/- The contracts of parsimony.unit and Unit. -/
import Derived.Test.YtflikmllpimaiaaB50
import Derived.Test.YtflikmllpimaiaaB51
namespace Go.Proofs.Ytflikmllpimaiaa
open Go.RowKit Go.Deep
def OutW (w wr : World) (g0 N k : Nat) : Prop := Up w wr ∧ ∃ f, wr.rowIs g0 22 N f ∧ ∀ i, i < k → IntsAt (fun b => b ≠ g0) wr (f i) (unitRow N i)
theorem gi_unit_cell {N k j : Nat} (hj : j < N) : (if j = k then Value.int .i64 0 else if j < N then .int .i64 1 else .int .i64 0) = .int .i64 (gi (unitRow N k) j) := by
  rw [gi_unitRow hj]
  unfold unitAt
  by_cases h : j = k
  · rw [if_pos h, if_pos h.symm]
  · rw [if_neg h, if_pos hj, if_neg (fun e => h e.symm)]
theorem set_same_cell {w : World} {p : Addr} {v : Value} (h : ∃ u, w.cell? p = some u) : (w.setCell p v).cell? p = some v := by
  obtain ⟨u, h⟩ := h
  exact World.cell?_setCell_same' _ _ _ (by rw [h]; rfl)
theorem set_other_cell {w : World} {p : Addr} {v : Value} {b o : Nat} (h : p.block ≠ b) : (w.setCell p v).cell? ⟨b, o, none⟩ = w.cell? ⟨b, o, none⟩ :=
  World.cell?_of_block (a := ⟨b, o, none⟩) (blk_setCell_other _ _ _ _ (fun e => h e.symm))
/-- A round: the list g is laid at place k, and its number k set to 0. -/
theorem OutW.step {w wr w8 : World} {g0 g N k : Nat} (h : OutW w wr g0 N k) (hk : k < N) (hu : Up wr w8) (hg : wr.heap.size ≤ g) (hr : w8.heap[g]? = some (.cells (onesL N N).toArray 3 (0, 0))) (hw0 : w.heap.size ≤ g0) :
    OutW w ((w8.setCell ⟨g0, k, none⟩ (.slice (some ⟨g, 0, none⟩) N N)).setCell ⟨g, k, none⟩ (.int .i64 0)) g0 N (k + 1) := by
  obtain ⟨hup, f, hrow, hin⟩ := h
  have hg0 := hrow.lt
  have hne : g0 ≠ g := by omega
  have hrow8 : w8.rowIs g0 22 N f := hrow.of_block (Below.block hu g0 hg0)
  have hrow9 := (hrow8.set k (.slice (some ⟨g, 0, none⟩) N N)).setOther (a := ⟨g, k, none⟩) hne (.int .i64 0)
  have hwg : w.heap.size ≤ g := Nat.le_trans hup.size hg
  refine ⟨((hup.trans hu).setCell (p := ⟨g0, k, none⟩) hw0 _).setCell (p := ⟨g, k, none⟩) hwg _, _, hrow9, fun i hi => ?_⟩
  by_cases hik : i = k
  · subst hik
    simp only [if_true]
    refine ⟨_, _, by rw [unitRow_len], by rw [unitRow_len]; exact Nat.le_refl _, .inr ⟨g, 0, rfl, fun e => hne e.symm, fun j hj => ?_⟩⟩
    rw [unitRow_len] at hj
    show _ = some (Value.int .i64 (gi (unitRow N i) j))
    rw [Nat.zero_add, ← gi_unit_cell hj]
    have hb : (w8.setCell ⟨g0, i, none⟩ (.slice (some ⟨g, 0, none⟩) N N)).cell? ⟨g, j, none⟩ = some (if j < N then .int .i64 1 else .int .i64 0) := by
      rw [set_other_cell (by simpa using hne)]; exact ones_cell hr hj
    have hb2 : (w8.setCell ⟨g0, i, none⟩ (.slice (some ⟨g, 0, none⟩) N N)).cell? ⟨g, i, none⟩ = some (if i < N then .int .i64 1 else .int .i64 0) := by
      rw [set_other_cell (by simpa using hne)]; exact ones_cell hr hk
    by_cases e : j = i
    · subst e; rw [if_pos rfl]; exact set_same_cell ⟨_, hb⟩
    · rw [if_neg e]
      exact (World.cell?_setCell_other _ ⟨g, i, none⟩ ⟨g, j, none⟩ _ (fun h => e (by injection h with _ h2; exact h2.symm))).trans hb
  · simp only [hik, if_false]
    refine IntsAt.keep (hin i (by omega)) (w := wr) fun b hb hl => ?_
    have h1 : w8.heap[b]? = wr.heap[b]? := Below.block hu b hl
    rw [← h1]
    exact (blk_setCell_other _ _ _ _ (by simp; omega)).trans (blk_setCell_other _ _ _ _ (by simpa using hb))
set_option maxRecDepth 100000 in
set_option maxHeartbeats 1000000 in
theorem unit_t (w : World) (N : Nat) (hN1 : 1 ≤ N) (hN : N ≤ 16) : Calls Try.prog 65 #[.int .i64 N] w (TbPost w (unitL N)) := by
  have hmk := fun W => run_make_row' (P := Try.prog) 26 22 (.slice none 0 0) 24 Try.underlying26 Try.infoSI rfl .i64 .i64 N (by omega) (by omega) W
  have HO : Hid (OutW w (w.alloc (.cells (madeCells #[.slice none 0 0] N) 22)) w.heap.size N 0) := ⟨Up.alloc _ _, _, World.rowIs_made w (.slice none 0 0) N 22, fun _ hi => absurd hi (Nat.not_lt_zero _)⟩
  go_enter Try.func65, Try.ntmps65
  go_wp2_with fail
  generalize w.alloc (.cells (madeCells #[.slice none 0 0] N) 22) = w1 at *
  go_loopw [9] (fun i wr => ∃ k : Nat, k ≤ N ∧ i = .int .i64 k ∧ Hid (OutW w wr w.heap.size N k)) (fun i _ => N - (intOf i).toNat)
  case atStart => exact ⟨0, Nat.zero_le _, rfl, HO⟩
  case round =>
    obtain ⟨k, hk, rfl, hO⟩ := hrel
    obtain ⟨wo, rfl⟩ : ∃ wo : World, wo = wr := ⟨_, rfl⟩
    by_cases hlt : k < N
    · obtain ⟨hup, f, hrow, _⟩ := hO.out
      have hg0 := hrow.lt
      have HROW := Lib.hid hrow
      have HRP := Lib.hid (repeat_one_t (wo.alloc (.cells #[.int .i64 1] 3)) wo.heap.size 0 N hN1 (by omega) (cell_at_new _ _ _ 0))
      clear hup hrow
      go_wp2_with fail
      refine HRP.out.mono ?_
      rintro e w8 ⟨g, rfl, hg, hu, hr⟩
      rw [World.size_alloc] at hg
      have hu8 : Up wo w8 := (Up.alloc _ _).trans hu
      have hst := hO.out.step hlt hu8 (by omega) hr (Nat.le_refl _)
      have hrow8 := HROW.out.of_block (Below.block hu8 _ hg0)
      have hcell : w8.cell? ⟨w.heap.size, k, none⟩ = some (f k) := hrow8.cell hlt
      have hfz : w8.frozen? ⟨w.heap.size, k, none⟩ = false := hrow8.frozen k
      have hcg : w8.cell? ⟨g, k, none⟩ = some (.int .i64 1) := by have h := ones_cell hr hlt; rw [if_pos hlt] at h; exact h
      have hfg : w8.frozen? ⟨g, k, none⟩ = false := by simp [World.frozen?, hr]
      have hne : w.heap.size ≠ g := by omega
      have hne2 : g ≠ w.heap.size := by omega
      have HST := Lib.hid hst
      clear hst hrow8 hr hu hu8 HROW HRP hO
      go_wp2_with fail
      go_roundw
      case rel => exact ⟨k + 1, by omega, by go_num, HST⟩
      case measure => simp [intOf]; omega
    · obtain rfl : k = N := by omega
      go_wp2_with fail
      go_ret
      obtain ⟨hup, f, hrow, hin⟩ := hO.out
      refine ⟨hup, .slice (some ⟨w.heap.size, 0, none⟩) k k, rfl, f, ⟨_, _, by rw [unitL_len], by rw [unitL_len]; exact Nat.le_refl _, .inr ⟨_, 0, rfl, trivial, fun i hi => ?_⟩⟩, fun i hi => ?_⟩
      · rw [unitL_len] at hi
        rw [Nat.zero_add]; exact hrow.cell hi
      · rw [unitL_len] at hi
        rw [gl_unitL hi]; exact (hin i hi).sub fun _ _ _ => trivial
set_option maxRecDepth 100000 in
set_option maxHeartbeats 400000 in
theorem punit_t (w : World) (n : Int) (hn1 : -9223372036854775808 ≤ n) (hn2 : n ≤ 9223372036854775807) : Calls Try.prog 35 #[.int .i64 n] w (UnPost w n) := by
  by_cases hb : n < 1 ∨ 16 < n
  · have HER : Hid (unitErr n = 2 ∧ unitN n = []) := ⟨by unfold unitErr; rw [if_pos hb], by unfold unitN; rw [if_pos hb]⟩
    by_cases h1 : n < 1
    · have d1 : decide (n < 1) = true := by simpa using h1
      clear hb
      go_enter Try.func35, Try.ntmps35
      go_wp2_with fail
      go_ret2
      exact ⟨Up.refl _, _, by rw [HER.out.1]; rfl, by rw [HER.out.2]; exact rows_nil _ _⟩
    · have d1 : decide (n < 1) = false := by simpa using h1
      have d2 : decide (16 < n) = true := by simp; omega
      clear hb
      go_enter Try.func35, Try.ntmps35
      go_wp2_with fail
      go_ret2
      exact ⟨Up.refl _, _, by rw [HER.out.1]; rfl, by rw [HER.out.2]; exact rows_nil _ _⟩
  · have HER : Hid (unitErr n = 0 ∧ unitN n = unitL n.toNat) := ⟨by unfold unitErr; rw [if_neg hb], by unfold unitN; rw [if_neg hb]⟩
    obtain ⟨N, rfl⟩ : ∃ N : Nat, n = N := Int.eq_ofNat_of_zero_le (by omega)
    have hN1 : 1 ≤ N := by omega
    have hN2 : N ≤ 16 := by omega
    have d1 : decide ((N : Int) < 1) = false := by simp; omega
    have d2 : decide (16 < (N : Int)) = false := by simp; omega
    rw [Int.toNat_natCast] at HER
    clear hb hn1 hn2
    go_enter Try.func35, Try.ntmps35
    go_wp2_with fail
    refine (unit_t w N hN1 hN2).mono ?_
    rintro e w2 ⟨hu, v, rfl, hr⟩
    have HU := Lib.hid (show Up w w2 from hu)
    have HR := Lib.hid hr
    clear hu hr
    go_wp2_with fail
    go_ret2
    exact ⟨HU.out, v, by rw [HER.out.1]; rfl, by rw [HER.out.2]; exact HR.out⟩
end Go.Proofs.Ytflikmllpimaiaa
