/- The example of chapter 32: awake. The contract of the reference's least. The contract of layer 31's reference's Leaves. The contract of parsimony.Cost. The contracts of the reference's checkCosts, checkStates, Check. The contracts of the reference's checkStates, Check. Plain: the table as the reference makes it, in place. The contract of the reference's table. The contracts of the reference's Table and Score. The contract of the reference's Unit. Contracts of the library that the kit lays: math/bits.Mul. The contract of slices.Repeat of a list of one number 1. The contracts of parsimony.unit and Unit. -/
import Derived.Test.YtcbmbhghmfehpaaGreatQ43
import Derived.Test.YtcbmbhghmfehpaaGreatQ45
import Derived.Test.YtcbmbhghmfehpaaGreatQ26
import Derived.Deep.RegionHeld3
import Derived.Test.YtcbmbhghmfehpaaGreatQ22
import Derived.Test.YtcbmbhghmfehpaaGreatQ5
import Derived.Test.YtcbmbhghmfehpaaGreatQ17
import Derived.Test.YtcbmbhghmfehpaaGreatQ1
import Derived.Test.YtcbmbhghmfehpaaGreatQ23
import Derived.Deep.RegionWith
import Derived.Deep.RegionHeld
import Derived.Test.YtcbmbhghmfehpaaGreatQ9
import Derived.Test.YtcbmbhghmfehpaaGreatQ30
import Derived.Shelf.Bits.Mul64
import Derived.Test.YtcbmbhghmfehpaaGreatProg
import Derived.Test.YtcbmbhghmfehpaaGreatQ7
import Derived.Laws.CopyOwn
import Derived.Deep.RegionLaw
import Derived.RegionTactic
namespace Go.Proofs.YtcbmbhghmfehpaaGreat
open Go.RowKit Go.Deep
@[go_sem high] theorem run_max7z (w : World) (ts : Array TypeId) (t : TypeId) (k : IntKind) : (Builtin.max_ ts t #[.int k 0, .int k 0, .int k 0, .int k 0, .int k 0, .int k 0, .int k 0]).run Tryz.prog w = .ok (.int k 0) w := by
  simp [Builtin.max_, Builtin.max2]
theorem get_small32 {α : Type} {P : α → Prop} {l : List α} {d : α} (h : ∀ x ∈ l, P x) (hd : P d) (k : Nat) : P (l.getD k d) := by
  by_cases hk : k < l.length
  · have : l.getD k d = l[k] := by simp [hk]
    rw [this]; exact h _ (List.getElem_mem hk)
  · have : l.getD k d = d := by simp [show l.length ≤ k by omega]
    rw [this]; exact hd
theorem tX_small (k : Nat) : (gs tX.ns k).size ≤ 70000 := get_small32 (P := fun x : ByteArray => x.size ≤ 70000) (by decide) (by decide) k
end Go.Proofs.YtcbmbhghmfehpaaGreat
namespace Go.Proofs.YtcbmbhghmfehpaaGreat
open Go.RowKit Go.Deep
end Go.Proofs.YtcbmbhghmfehpaaGreat
namespace Go.Proofs.YtcbmbhghmfehpaaGreat
open Go.RowKit Go.Deep
end Go.Proofs.YtcbmbhghmfehpaaGreat
namespace Go.Proofs.YtcbmbhghmfehpaaGreat
open Go.RowKit Go.Deep
end Go.Proofs.YtcbmbhghmfehpaaGreat
namespace Go.Proofs.YtcbmbhghmfehpaaGreat
open Go.RowKit Go.Deep
end Go.Proofs.YtcbmbhghmfehpaaGreat
namespace Go.Proofs.YtcbmbhghmfehpaaGreat
open Go.RowKit Go.Deep
end Go.Proofs.YtcbmbhghmfehpaaGreat
namespace Go.Proofs.YtcbmbhghmfehpaaGreat
def part (t : Tre) (st : List Int) (cs : List (List Int)) (k r s : Nat) : Int := baseT t st r s + sumN (fun c => if k ≤ c ∧ r < c ∧ gi t.ps c = r then addK t st cs s c else 0) t.ps.length
section
variable {t : Tre} {st : List Int} {cs : List (List Int)}
end
end Go.Proofs.YtcbmbhghmfehpaaGreat
namespace Go.Proofs.YtcbmbhghmfehpaaGreat
open Go.RowKit Go.Deep
end Go.Proofs.YtcbmbhghmfehpaaGreat
namespace Go.Proofs.YtcbmbhghmfehpaaGreat
open Go.RowKit Go.Deep
def Tb1Post (w : World) (t : Tre) (st : List Int) (cs : List (List Int)) (e : Ending) (w' : World) : Prop :=
  ∃ tb tof tcap rq rc, e = .returned (.slice (some ⟨tb, tof, none⟩) t.ps.length tcap) ∧ w'.cell? ⟨tb, tof, none⟩ = some (.slice rq cs.length rc) ∧ IntsAt Any w' (.slice rq cs.length rc) (tabRow t st cs 0) ∧ Up w w'
theorem tb1 {w w' : World} {t : Tre} {st : List Int} {cs : List (List Int)} {e : Ending} (hv : Valid t st cs) (h : TbPost w (tabL t st cs) e w') : Tb1Post w t st cs e w' := by
  obtain ⟨hb, v, rfl, hr⟩ := h
  have hp := (treeErr_zero hv.tree).1
  obtain ⟨p, cap, rfl, _, H⟩ := rows_open hr
  obtain ⟨b, off, q, c, rfl, hc, hi⟩ := H 0 (by rw [tabL_len]; exact hp)
  rw [gl_tabL _ _ _ hp] at hc hi
  rw [tabRow_len] at hc hi
  rw [tabL_len]
  exact ⟨b, off, cap, q, c, rfl, by rw [Nat.add_zero] at hc; exact hc, hi, hb⟩
end Go.Proofs.YtcbmbhghmfehpaaGreat
namespace Go.Proofs.YtcbmbhghmfehpaaGreat
open Go.RowKit Go.Deep
end Go.Proofs.YtcbmbhghmfehpaaGreat
namespace Go.Proofs
open Go.Shelf
def Tryz.lays212_ren : Go.Shelf.Ren := ⟨fun | 212 => 204 | 263 => 234 | 264 => 235 | n => n, fun | 46 => 118 | 51 => 180 | 53 => 96 | 146 => 250 | 148 => 252 | n => n, fun | n => n⟩
theorem Tryz.lays212 : Go.Proofs.Lays.n212 Tryz.prog Tryz.lays212_ren := {
  mixed := by kernel_rfl
  f212 := Tryz.func204.trans (congrArg some (by kernel_rfl))
  f263 := Tryz.func234.trans (congrArg some (by kernel_rfl))
  f264 := Tryz.func235.trans (congrArg some (by kernel_rfl))
  t46 := Tryz.underlying118
  a46 := Tryz.isAgg118
  z46 := Tryz.sizeOf118
  v46 := Tryz.zeroValue118
  t51 := Tryz.underlying180
  a51 := Tryz.isAgg180
  z51 := Tryz.sizeOf180
  v51 := Tryz.zeroValue180
  t53 := Tryz.underlying96
  a53 := Tryz.isAgg96
  z53 := Tryz.sizeOf96
  v53 := Tryz.zeroValue96
  t146 := Tryz.underlying250
  a146 := Tryz.isAgg250
  z146 := Tryz.sizeOf250
  v146 := Tryz.zeroValue250
  t148 := Tryz.underlying252
  a148 := Tryz.isAgg252
  z148 := Tryz.sizeOf252
  v148 := Tryz.zeroValue252 }
theorem Tryz.bits_Mul (x y : Nat) (hx : x < 18446744073709551616) (hy : y < 18446744073709551616) (w : World) :
    Calls Tryz.prog 204 #[.int .u64 x, .int .u64 y] w fun e w' => e = .returned (.tuple #[.int .u64 ((x * y / 18446744073709551616 : Nat) : Int), .int .u64 ((x * y % 18446744073709551616 : Nat) : Int)]) ∧ w' = w := Any.bits_Mul Tryz.lays212 x y hx hy w
end Go.Proofs
namespace Go.Proofs.YtcbmbhghmfehpaaGreat
open Go.RowKit Go.Deep
theorem mul_one (N : Nat) (hN : N ≤ 1000) (w : World) : Calls Tryz.prog 204 #[.int .u64 1, .int .u64 N] w fun e w' => e = .returned (.tuple #[.int .u64 0, .int .u64 N]) ∧ w = w' := by
  have h := Tryz.bits_Mul 1 N (by decide) (by omega) w
  rw [Nat.one_mul, Nat.div_eq_of_lt (by omega), Nat.mod_eq_of_lt (by omega)] at h
  exact h.mono fun _ _ ⟨a, b⟩ => ⟨a, b.symm⟩
def oneAt (n i : Nat) : Value := if i < n then .int .i64 1 else .int .i64 0
def onesL (N n : Nat) : List Value := (List.range N).map (oneAt n)
theorem onesL_len (N n : Nat) : (onesL N n).length = N := by simp [onesL]
theorem onesL_get {N n i : Nat} (h : i < N) : (onesL N n)[i]? = some (if i < n then .int .i64 1 else .int .i64 0) := by simp [onesL, h, oneAt]
theorem put_ones {N n m : Nat} (h : n + m ≤ N) : ((onesL N n).toArray.toList.take n ++ List.replicate m (.int .i64 1) ++ (onesL N n).toArray.toList.drop (n + (List.replicate m (Value.int .i64 1)).length)) = onesL N (n + m) := by
  apply List.ext_getElem?
  intro i
  by_cases hi : i < N
  · rw [onesL_get hi, List.append_assoc, List.getElem?_append]
    simp only [List.length_take, onesL_len, List.length_replicate]
    by_cases h1 : i < n
    · rw [if_pos (by omega), List.getElem?_take, if_pos h1, onesL_get hi, if_pos h1, if_pos (by omega)]
    · rw [if_neg (by omega), List.getElem?_append]
      by_cases h2 : i < n + m
      · rw [if_pos (by rw [List.length_replicate]; omega), if_pos h2, List.getElem?_replicate, if_pos (by omega)]
      · rw [if_neg (by rw [List.length_replicate]; omega), if_neg h2, List.getElem?_drop]
        simp only [List.length_replicate]
        have e : n + m + (i - min n N - m) = i := by omega
        rw [e, onesL_get hi, if_neg (by omega)]
  · rw [List.getElem?_eq_none (by simp [onesL_len]; omega), List.getElem?_eq_none (by simp [onesL_len]; omega)]
theorem copy_ones (W : World) (g N n m dCap : Nat) (ad : Addr) (sLen sCap dLen : Nat) (hg : W.heap[g]? = some (.cells (onesL N n).toArray 3 (0, 0))) (hm : m = Nat.min sLen dLen) (hm1 : n + m ≤ N)
    (hs : ∀ j, j < m → W.cell? (ad.add j) = some (.int .i64 1)) :
    Sem.run Tryz.prog (Builtin.copy_ #[26, 26] 3 #[.slice (some ⟨g, n, none⟩) dLen dCap, .slice (some ad) sLen sCap]) W = .ok (.int .i64 m) (W.setRow g (onesL N (n + m)).toArray) := by
  have h := run_copy_row (P := Tryz.prog) W 26 26 3 3 g n dLen dCap ad sLen sCap (onesL N n).toArray 3 (List.replicate m (.int .i64 1)) Tryz.underlying26 (by kernel_rfl) hg (by simpa using hm)
    (fun j v hj => by
      rw [List.getElem?_replicate] at hj
      split at hj
      · injection hj with hj; subst hj; exact hs j (by assumption)
      · cases hj) (by simpa [onesL_len] using hm1) (fun v hv => by rw [List.eq_of_mem_replicate hv]; rfl)
  rw [put_ones hm1, List.length_replicate] at h
  exact h
theorem made_ones (N : Nat) : madeCells #[.int .i64 0] N = (onesL N 0).toArray := by
  apply Array.ext
  · simp [onesL_len, madeCells]
  · intro i h1 h2
    simp [madeCells, onesL, Nat.mod_one, oneAt]
theorem ones_cell {W : World} {g N k : Nat} {T : TypeId} (h : W.heap[g]? = some (.cells (onesL N k).toArray T (0, 0))) {j : Nat} (hj : j < N) : W.cell? ⟨g, j, none⟩ = some (if j < k then .int .i64 1 else .int .i64 0) := by
  have h2 := onesL_get (n := k) hj
  rw [← h2]
  simp [World.cell?, h]
def RpPost (w : World) (N : Nat) (e : Ending) (w' : World) : Prop := ∃ g, e = .returned (.slice (some ⟨g, 0, none⟩) N N) ∧ w.heap.size ≤ g ∧ Up w w' ∧ w'.heap[g]? = some (.cells (onesL N N).toArray 3 (0, 0))
set_option maxRecDepth 100000 in
set_option maxHeartbeats 1000000 in
theorem repeat_one_t (w : World) (b off : Nat) (N : Nat) (hN1 : 1 ≤ N) (hN : N ≤ 1000) (hc : w.cell? ⟨b, off, none⟩ = some (.int .i64 1)) :
    Calls Tryz.prog 171 #[.slice (some ⟨b, off, none⟩) 1 1, .int .i64 N] w (RpPost w N) := by
  have hmk := fun W => run_make_row' (P := Tryz.prog) 26 3 (.int .i64 0) 8 Tryz.underlying26 Tryz.infoI rfl .i64 .i64 N (by omega) (by omega) W
  have d1 : decide ((N : Int) < 0) = false := by simp
  have d2 : decide ((9223372036854775807 : Int) < (N : Int)) = false := by simp; omega
  have hr0 : (w.alloc (.cells (madeCells #[.int .i64 0] N) 3)).heap[w.heap.size]? = some (.cells (onesL N 0).toArray 3 (0, 0)) := by
    rw [blk_alloc_new, made_ones]
  have hu0 := Up.alloc w (.cells (madeCells #[.int .i64 0] N) 3)
  have hc0 := hu0.cell hc
  have HR0 := Lib.hid hr0
  have HU0 := Lib.hid hu0
  clear hr0 hu0
  have hcp := copy_ones (w.alloc (.cells (madeCells #[.int .i64 0] N) 3)) w.heap.size N 0 1 N ⟨b, off, none⟩ 1 1 N HR0.out (by show 1 = min 1 N; omega) (by omega) (fun j hj => by
    obtain rfl : j = 0 := by omega
    exact hc0)
  have HR1 : Hid (((w.alloc (.cells (madeCells #[.int .i64 0] N) 3)).setRow w.heap.size (onesL N (0 + 1)).toArray).heap[w.heap.size]? = some (.cells (onesL N (0 + 1)).toArray 3 (0, 0))) := setRow_heap _ _ _ _ _ _ HR0.out
  have HU1 : Hid (Up w ((w.alloc (.cells (madeCells #[.int .i64 0] N) 3)).setRow w.heap.size (onesL N (0 + 1)).toArray)) := below_setRow HU0.out (Nat.le_refl _) _
  clear HR0 HU0
  go_enter Tryz.func171, Tryz.ntmps171
  go_wp2_with (go_at_call 204; refine (mul_one N hN _).mono ?_; rintro e w' ⟨rfl, rfl⟩)
  generalize (w.alloc (.cells (madeCells #[.int .i64 0] N) 3)).setRow w.heap.size (onesL N (0 + 1)).toArray = w1 at *
  go_loopw [8] (fun n wr => ∃ k : Nat, 1 ≤ k ∧ k ≤ N ∧ n = .int .i64 k ∧ Hid (wr.heap[w.heap.size]? = some (.cells (onesL N k).toArray 3 (0, 0))) ∧ Hid (Up w wr)) (fun n _ => N - (intOf n).toNat)
  case atStart => exact ⟨1, Nat.le_refl _, hN1, rfl, HR1, HU1⟩
  case round =>
    obtain ⟨k, hk1, hk2, rfl, HR, HU⟩ := hrel
    obtain ⟨wo, rfl⟩ : ∃ wo : World, wo = wr := ⟨_, rfl⟩
    by_cases hlt : k < N
    · obtain ⟨m, hm⟩ : ∃ m : Nat, m = Nat.min k (N - k) := ⟨_, rfl⟩
      have hm2 : m = min k (N - k) := hm
      have hcp2 : Sem.run Tryz.prog (Builtin.copy_ #[26, 26] 3 #[.slice (some ⟨w.heap.size, k, none⟩) (N - k) (N - k), .slice (some ⟨w.heap.size, 0, none⟩) k N]) wo.drew = .ok (.int .i64 m) (wo.drew.setRow w.heap.size (onesL N (k + m)).toArray) :=
        copy_ones wo.drew w.heap.size N k m (N - k) ⟨w.heap.size, 0, none⟩ k N (N - k) HR.out hm (by omega) (fun j hj => by
          have h := ones_cell HR.out (j := j) (by omega)
          rw [if_pos (by omega)] at h
          have e : (⟨w.heap.size, 0, none⟩ : Addr).add j = ⟨w.heap.size, j, none⟩ := by simp [Addr.add]; omega
          rw [e]; exact h)
      have hmk : 1 ≤ m := by omega
      have hmN : k + m ≤ N := by omega
      have HR2 : Hid ((wo.drew.setRow w.heap.size (onesL N (k + m)).toArray).heap[w.heap.size]? = some (.cells (onesL N (k + m)).toArray 3 (0, 0))) := setRow_heap _ _ _ _ _ _ (show wo.drew.heap[w.heap.size]? = _ from HR.out)
      have HU2 : Hid (Up w (wo.drew.setRow w.heap.size (onesL N (k + m)).toArray)) := below_setRow (show Up w wo.drew from below_drewN HU.out 1) (Nat.le_refl _) _
      clear hm hm2 HR HU
      go_wp2_with fail
      go_region
      all_goals
        go_wp2_with fail
        go_roundw
        case rel => exact ⟨k + m, by omega, by omega, by go_num, HR2, HU2⟩
        case measure => simp [intOf]; omega
    · obtain rfl : k = N := by omega
      go_wp2_with fail
      go_ret
      exact ⟨_, rfl, Nat.le_refl _, HU.out, HR.out⟩
end Go.Proofs.YtcbmbhghmfehpaaGreat
namespace Go.Proofs.YtcbmbhghmfehpaaGreat
open Go.RowKit Go.Deep
def OutW (w wr : World) (g0 N k : Nat) : Prop := Up w wr ∧ ∃ f, wr.rowIs g0 26 N f ∧ ∀ i, i < k → IntsAt (fun b => b ≠ g0) wr (f i) (unitRow N i)
theorem gi_unit_cell {N k j : Nat} (hj : j < N) : (if j = k then Value.int .i64 0 else if j < N then .int .i64 1 else .int .i64 0) = .int .i64 (gi (unitRow N k) j) := by
  rw [gi_unitRow hj]
  unfold unitAt
  by_cases h : j = k
  · rw [if_pos h, if_pos h.symm]
  · rw [if_neg h, if_pos hj, if_neg (fun e => h e.symm)]
theorem OutW.step {w wr w8 : World} {g0 g N k : Nat} (h : OutW w wr g0 N k) (hk : k < N) (hu : Up wr w8) (hg : wr.heap.size ≤ g) (hr : w8.heap[g]? = some (.cells (onesL N N).toArray 3 (0, 0))) (hw0 : w.heap.size ≤ g0) :
    OutW w ((w8.setCell ⟨g0, k, none⟩ (.slice (some ⟨g, 0, none⟩) N N)).setCell ⟨g, k, none⟩ (.int .i64 0)) g0 N (k + 1) := by
  obtain ⟨hup, f, hrow, hin⟩ := h
  have hg0 := hrow.lt
  have hne : g0 ≠ g := by omega
  have hrow8 : w8.rowIs g0 26 N f := hrow.of_block (Below.block hu g0 hg0)
  have hrow9 := (hrow8.set k (.slice (some ⟨g, 0, none⟩) N N)).setOther (a := ⟨g, k, none⟩) hne (.int .i64 0)
  have hwg : w.heap.size ≤ g := Nat.le_trans hup.size hg
  refine ⟨((hup.trans hu).setCell (p := ⟨g0, k, none⟩) hw0 _).setCell (p := ⟨g, k, none⟩) hwg _, _, hrow9, fun i hi => ?_⟩
  by_cases hik : i = k
  · subst hik
    simp only [if_true]
    refine ⟨_, _, by rw [unitRow_len], by rw [unitRow_len]; exact Nat.le_refl _, .inr ⟨g, 0, rfl, fun e => hne e.symm, fun j hj => ?_⟩⟩
    rw [unitRow_len] at hj
    show _ = some (Value.int .i64 (gi (unitRow N i) j))
    rw [Nat.zero_add, ← gi_unit_cell hj]
    have hb : (w8.setCell ⟨g0, i, none⟩ (.slice (some ⟨g, 0, none⟩) N N)).cell? ⟨g, j, none⟩ = some (if j < N then .int .i64 1 else .int .i64 0) := by
      rw [set_other_cell (by simpa using hne)]; exact ones_cell hr hj
    have hb2 : (w8.setCell ⟨g0, i, none⟩ (.slice (some ⟨g, 0, none⟩) N N)).cell? ⟨g, i, none⟩ = some (if i < N then .int .i64 1 else .int .i64 0) := by
      rw [set_other_cell (by simpa using hne)]; exact ones_cell hr hk
    by_cases e : j = i
    · subst e; rw [if_pos rfl]; exact set_same_cell ⟨_, hb⟩
    · rw [if_neg e]
      exact (World.cell?_setCell_other _ ⟨g, i, none⟩ ⟨g, j, none⟩ _ (fun h => e (by injection h with _ h2; exact h2.symm))).trans hb
  · simp only [hik, if_false]
    refine IntsAt.keep (hin i (by omega)) (w := wr) fun b hb hl => ?_
    have h1 : w8.heap[b]? = wr.heap[b]? := Below.block hu b hl
    rw [← h1]
    exact (blk_setCell_other _ _ _ _ (by simp; omega)).trans (blk_setCell_other _ _ _ _ (by simpa using hb))
set_option maxRecDepth 100000 in
set_option maxHeartbeats 1000000 in
theorem unit_t (w : World) (N : Nat) (hN1 : 1 ≤ N) (hN : N ≤ 16) : Calls Tryz.prog 106 #[.int .i64 N] w (TbPost w (unitL N)) := by
  have hmk := fun W => run_make_row' (P := Tryz.prog) 22 26 (.slice none 0 0) 24 Tryz.underlying22 Tryz.infoSI rfl .i64 .i64 N (by omega) (by omega) W
  have HO : Hid (OutW w (w.alloc (.cells (madeCells #[.slice none 0 0] N) 26)) w.heap.size N 0) := ⟨Up.alloc _ _, _, World.rowIs_made w (.slice none 0 0) N 26, fun _ hi => absurd hi (Nat.not_lt_zero _)⟩
  go_enter Tryz.func106, Tryz.ntmps106
  go_wp2_with fail
  generalize w.alloc (.cells (madeCells #[.slice none 0 0] N) 26) = w1 at *
  go_loopw [9] (fun i wr => ∃ k : Nat, k ≤ N ∧ i = .int .i64 k ∧ Hid (OutW w wr w.heap.size N k)) (fun i _ => N - (intOf i).toNat)
  case atStart => exact ⟨0, Nat.zero_le _, rfl, HO⟩
  case round =>
    obtain ⟨k, hk, rfl, hO⟩ := hrel
    obtain ⟨wo, rfl⟩ : ∃ wo : World, wo = wr := ⟨_, rfl⟩
    by_cases hlt : k < N
    · obtain ⟨hup, f, hrow, _⟩ := hO.out
      have hg0 := hrow.lt
      have HROW := Lib.hid hrow
      have HRP := Lib.hid (repeat_one_t (wo.alloc (.cells #[.int .i64 1] 3)) wo.heap.size 0 N hN1 (by omega) (cell_at_new _ _ _ 0))
      clear hup hrow
      go_wp2_with fail
      refine HRP.out.mono ?_
      rintro e w8 ⟨g, rfl, hg, hu, hr⟩
      rw [World.size_alloc] at hg
      have hu8 : Up wo w8 := (Up.alloc _ _).trans hu
      have hst := hO.out.step hlt hu8 (by omega) hr (Nat.le_refl _)
      have hrow8 := HROW.out.of_block (Below.block hu8 _ hg0)
      have hcell : w8.cell? ⟨w.heap.size, k, none⟩ = some (f k) := hrow8.cell hlt
      have hfz : w8.frozen? ⟨w.heap.size, k, none⟩ = false := hrow8.frozen k
      have hcg : w8.cell? ⟨g, k, none⟩ = some (.int .i64 1) := by have h := ones_cell hr hlt; rw [if_pos hlt] at h; exact h
      have hfg : w8.frozen? ⟨g, k, none⟩ = false := by simp [World.frozen?, hr]
      have hne : w.heap.size ≠ g := by omega
      have hne2 : g ≠ w.heap.size := by omega
      have HST := Lib.hid hst
      clear hst hrow8 hr hu hu8 HROW HRP hO
      go_wp2_with fail
      go_roundw
      case rel => exact ⟨k + 1, by omega, by go_num, HST⟩
      case measure => simp [intOf]; omega
    · obtain rfl : k = N := by omega
      go_wp2_with fail
      go_ret
      obtain ⟨hup, f, hrow, hin⟩ := hO.out
      refine ⟨hup, .slice (some ⟨w.heap.size, 0, none⟩) k k, rfl, f, ⟨_, _, by rw [unitL_len], by rw [unitL_len]; exact Nat.le_refl _, .inr ⟨_, 0, rfl, trivial, fun i hi => ?_⟩⟩, fun i hi => ?_⟩
      · rw [unitL_len] at hi
        rw [Nat.zero_add]; exact hrow.cell hi
      · rw [unitL_len] at hi
        rw [gl_unitL hi]; exact (hin i hi).sub fun _ _ _ => trivial
end Go.Proofs.YtcbmbhghmfehpaaGreat
