/- The contract of slices.Repeat of a list of one number 1. -/
import Derived.Test.YtflikmllpimaiaaB21
import Derived.Test.YtflikmllpimaiaaMul
import Derived.Laws.CopyOwn
import Derived.Deep.RegionLaw
import Derived.RegionTactic
namespace Go.Proofs.Ytflikmllpimaiaa
open Go.RowKit Go.Deep
theorem mul_one (N : Nat) (hN : N ≤ 1000) (w : World) : Calls Try.prog 98 #[.int .u64 1, .int .u64 N] w fun e w' => e = .returned (.tuple #[.int .u64 0, .int .u64 N]) ∧ w = w' := by
  have h := Try.bits_Mul 1 N (by decide) (by omega) w
  rw [Nat.one_mul, Nat.div_eq_of_lt (by omega), Nat.mod_eq_of_lt (by omega)] at h
  exact h.mono fun _ _ ⟨a, b⟩ => ⟨a, b.symm⟩
def oneAt (n i : Nat) : Value := if i < n then .int .i64 1 else .int .i64 0
def onesL (N n : Nat) : List Value := (List.range N).map (oneAt n)
theorem onesL_len (N n : Nat) : (onesL N n).length = N := by simp [onesL]
theorem onesL_get {N n i : Nat} (h : i < N) : (onesL N n)[i]? = some (if i < n then .int .i64 1 else .int .i64 0) := by simp [onesL, h, oneAt]
theorem put_ones {N n m : Nat} (h : n + m ≤ N) : ((onesL N n).toArray.toList.take n ++ List.replicate m (.int .i64 1) ++ (onesL N n).toArray.toList.drop (n + (List.replicate m (Value.int .i64 1)).length)) = onesL N (n + m) := by
  apply List.ext_getElem?
  intro i
  by_cases hi : i < N
  · rw [onesL_get hi, List.append_assoc, List.getElem?_append]
    simp only [List.length_take, onesL_len, List.length_replicate]
    by_cases h1 : i < n
    · rw [if_pos (by omega), List.getElem?_take, if_pos h1, onesL_get hi, if_pos h1, if_pos (by omega)]
    · rw [if_neg (by omega), List.getElem?_append]
      by_cases h2 : i < n + m
      · rw [if_pos (by rw [List.length_replicate]; omega), if_pos h2, List.getElem?_replicate, if_pos (by omega)]
      · rw [if_neg (by rw [List.length_replicate]; omega), if_neg h2, List.getElem?_drop]
        simp only [List.length_replicate]
        have e : n + m + (i - min n N - m) = i := by omega
        rw [e, onesL_get hi, if_neg (by omega)]
  · rw [List.getElem?_eq_none (by simp [onesL_len]; omega), List.getElem?_eq_none (by simp [onesL_len]; omega)]
theorem copy_ones (W : World) (g N n m dCap : Nat) (ad : Addr) (sLen sCap dLen : Nat) (hg : W.heap[g]? = some (.cells (onesL N n).toArray 3 (0, 0))) (hm : m = Nat.min sLen dLen) (hm1 : n + m ≤ N)
    (hs : ∀ j, j < m → W.cell? (ad.add j) = some (.int .i64 1)) :
    Sem.run Try.prog (Builtin.copy_ #[22, 22] 3 #[.slice (some ⟨g, n, none⟩) dLen dCap, .slice (some ad) sLen sCap]) W = .ok (.int .i64 m) (W.setRow g (onesL N (n + m)).toArray) := by
  have h := run_copy_row (P := Try.prog) W 22 22 3 3 g n dLen dCap ad sLen sCap (onesL N n).toArray 3 (List.replicate m (.int .i64 1)) Try.underlying22 (by kernel_rfl) hg (by simpa using hm)
    (fun j v hj => by
      rw [List.getElem?_replicate] at hj
      split at hj
      · injection hj with hj; subst hj; exact hs j (by assumption)
      · cases hj) (by simpa [onesL_len] using hm1) (fun v hv => by rw [List.eq_of_mem_replicate hv]; rfl)
  rw [put_ones hm1, List.length_replicate] at h
  exact h
theorem made_ones (N : Nat) : madeCells #[.int .i64 0] N = (onesL N 0).toArray := by
  apply Array.ext
  · simp [onesL_len, madeCells]
  · intro i h1 h2
    simp [madeCells, onesL, Nat.mod_one, oneAt]
theorem ones_cell {W : World} {g N k : Nat} {T : TypeId} (h : W.heap[g]? = some (.cells (onesL N k).toArray T (0, 0))) {j : Nat} (hj : j < N) : W.cell? ⟨g, j, none⟩ = some (if j < k then .int .i64 1 else .int .i64 0) := by
  have h2 := onesL_get (n := k) hj
  rw [← h2]
  simp [World.cell?, h]
def RpPost (w : World) (N : Nat) (e : Ending) (w' : World) : Prop := ∃ g, e = .returned (.slice (some ⟨g, 0, none⟩) N N) ∧ w.heap.size ≤ g ∧ Up w w' ∧ w'.heap[g]? = some (.cells (onesL N N).toArray 3 (0, 0))
set_option maxRecDepth 100000 in
set_option maxHeartbeats 1000000 in
theorem repeat_one_t (w : World) (b off : Nat) (N : Nat) (hN1 : 1 ≤ N) (hN : N ≤ 1000) (hc : w.cell? ⟨b, off, none⟩ = some (.int .i64 1)) :
    Calls Try.prog 85 #[.slice (some ⟨b, off, none⟩) 1 1, .int .i64 N] w (RpPost w N) := by
  have hmk := fun W => run_make_row' (P := Try.prog) 22 3 (.int .i64 0) 8 Try.underlying22 Try.infoI rfl .i64 .i64 N (by omega) (by omega) W
  have d1 : decide ((N : Int) < 0) = false := by simp
  have d2 : decide ((9223372036854775807 : Int) < (N : Int)) = false := by simp; omega
  have hr0 : (w.alloc (.cells (madeCells #[.int .i64 0] N) 3)).heap[w.heap.size]? = some (.cells (onesL N 0).toArray 3 (0, 0)) := by
    rw [blk_alloc_new, made_ones]
  have hu0 := Up.alloc w (.cells (madeCells #[.int .i64 0] N) 3)
  have hc0 := hu0.cell hc
  have HR0 := Lib.hid hr0
  have HU0 := Lib.hid hu0
  clear hr0 hu0
  have hcp := copy_ones (w.alloc (.cells (madeCells #[.int .i64 0] N) 3)) w.heap.size N 0 1 N ⟨b, off, none⟩ 1 1 N HR0.out (by show 1 = min 1 N; omega) (by omega) (fun j hj => by
    obtain rfl : j = 0 := by omega
    exact hc0)
  have HR1 : Hid (((w.alloc (.cells (madeCells #[.int .i64 0] N) 3)).setRow w.heap.size (onesL N (0 + 1)).toArray).heap[w.heap.size]? = some (.cells (onesL N (0 + 1)).toArray 3 (0, 0))) := setRow_heap _ _ _ _ _ _ HR0.out
  have HU1 : Hid (Up w ((w.alloc (.cells (madeCells #[.int .i64 0] N) 3)).setRow w.heap.size (onesL N (0 + 1)).toArray)) := below_setRow HU0.out (Nat.le_refl _) _
  clear HR0 HU0
  go_enter Try.func85, Try.ntmps85
  go_wp2_with (go_at_call 98; refine (mul_one N hN _).mono ?_; rintro e w' ⟨rfl, rfl⟩)
  generalize (w.alloc (.cells (madeCells #[.int .i64 0] N) 3)).setRow w.heap.size (onesL N (0 + 1)).toArray = w1 at *
  go_loopw [8] (fun n wr => ∃ k : Nat, 1 ≤ k ∧ k ≤ N ∧ n = .int .i64 k ∧ Hid (wr.heap[w.heap.size]? = some (.cells (onesL N k).toArray 3 (0, 0))) ∧ Hid (Up w wr)) (fun n _ => N - (intOf n).toNat)
  case atStart => exact ⟨1, Nat.le_refl _, hN1, rfl, HR1, HU1⟩
  case round =>
    obtain ⟨k, hk1, hk2, rfl, HR, HU⟩ := hrel
    obtain ⟨wo, rfl⟩ : ∃ wo : World, wo = wr := ⟨_, rfl⟩
    by_cases hlt : k < N
    · obtain ⟨m, hm⟩ : ∃ m : Nat, m = Nat.min k (N - k) := ⟨_, rfl⟩
      have hm2 : m = min k (N - k) := hm
      have hcp2 : Sem.run Try.prog (Builtin.copy_ #[22, 22] 3 #[.slice (some ⟨w.heap.size, k, none⟩) (N - k) (N - k), .slice (some ⟨w.heap.size, 0, none⟩) k N]) wo.drew = .ok (.int .i64 m) (wo.drew.setRow w.heap.size (onesL N (k + m)).toArray) :=
        copy_ones wo.drew w.heap.size N k m (N - k) ⟨w.heap.size, 0, none⟩ k N (N - k) HR.out hm (by omega) (fun j hj => by
          have h := ones_cell HR.out (j := j) (by omega)
          rw [if_pos (by omega)] at h
          have e : (⟨w.heap.size, 0, none⟩ : Addr).add j = ⟨w.heap.size, j, none⟩ := by simp [Addr.add]; omega
          rw [e]; exact h)
      have hmk : 1 ≤ m := by omega
      have hmN : k + m ≤ N := by omega
      have HR2 : Hid ((wo.drew.setRow w.heap.size (onesL N (k + m)).toArray).heap[w.heap.size]? = some (.cells (onesL N (k + m)).toArray 3 (0, 0))) := setRow_heap _ _ _ _ _ _ (show wo.drew.heap[w.heap.size]? = _ from HR.out)
      have HU2 : Hid (Up w (wo.drew.setRow w.heap.size (onesL N (k + m)).toArray)) := below_setRow (show Up w wo.drew from below_drewN HU.out 1) (Nat.le_refl _) _
      clear hm hm2 HR HU
      go_wp2_with fail
      go_region
      all_goals
        go_wp2_with fail
        go_roundw
        case rel => exact ⟨k + m, by omega, by omega, by go_num, HR2, HU2⟩
        case measure => simp [intOf]; omega
    · obtain rfl : k = N := by omega
      go_wp2_with fail
      go_ret
      exact ⟨_, rfl, Nat.le_refl _, HU.out, HR.out⟩
end Go.Proofs.Ytflikmllpimaiaa
