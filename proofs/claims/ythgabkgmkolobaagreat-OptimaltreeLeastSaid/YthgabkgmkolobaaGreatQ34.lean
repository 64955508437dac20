/- The contract of slices.Repeat of a list of one number 1. optimaltree.entries: all binary .. -/
import Derived.Laws.CopyOwn
import Derived.Deep.RegionLaw
import Derived.RegionTactic
import Derived.Test.YthgabkgmkolobaaGreatQ6
import Derived.Test.YthgabkgmkolobaaGreatQ32
import Derived.Test.YthgabkgmkolobaaGreatQ33
import Derived.Test.YthgabkgmkolobaaGreatQ28
import Derived.Test.YthgabkgmkolobaaGreatQ26
import Derived.Test.YthgabkgmkolobaaGreatQ29
import Derived.Test.YthgabkgmkolobaaGreatQ14
import Derived.Test.YthgabkgmkolobaaGreatQ15
import Derived.Test.YthgabkgmkolobaaGreatQ21
import Derived.Test.YthgabkgmkolobaaGreatQ30
import Derived.StillTail
import Derived.RangeFuncLeaves
import Derived.Shelf.SlGeneric
import Derived.Shelf.SlSortCmp.NoneTotal
import Derived.Test.YthgabkgmkolobaaGreatProg
import Derived.RangeFuncWrites
import Derived.Laws.EntriesVeiled
import Derived.Shelf.Slices.Empties
import Derived.Shelf.Slices.SearchI
import Derived.Ground.Names2Prog
import Derived.Laws.IdiomStrings
import Derived.Sort.OwnSorted
import Derived.Shelf.Slices.In.SortNone
import Derived.Shelf.Lays
import Derived.Shelf.Sort.Plain
import Derived.Ground.NamesProg
import Derived.Test.YthgabkgmkolobaaGreatQ19
import Derived.Test.YthgabkgmkolobaaGreatQ1
import Derived.Test.YthgabkgmkolobaaGreatQ7
import Derived.Test.YthgabkgmkolobaaGreatQ17
import Derived.Test.YthgabkgmkolobaaGreatQ3
import Derived.Test.YthgabkgmkolobaaGreatQ22
import Derived.Test.YthgabkgmkolobaaGreatQ5
import Derived.Test.YthgabkgmkolobaaGreatQ24
import Derived.Test.YthgabkgmkolobaaGreatQ8
import Derived.Test.YthgabkgmkolobaaGreatQ27
import Derived.Test.YthgabkgmkolobaaGreatQ23
import Derived.Test.YthgabkgmkolobaaGreatQ2
import Derived.Test.YthgabkgmkolobaaGreatQ25
set_option maxRecDepth 100000
namespace Go.Proofs.YthgabkgmkolobaaGreat
section
open Go.RowKit Go.Deep
theorem mul_one (N : Nat) (hN : N ≤ 1000) (w : World) : Calls Tryz.prog 269 #[.int .u64 1, .int .u64 N] w fun e w' => e = .returned (.tuple #[.int .u64 0, .int .u64 N]) ∧ w = w' := by
 have h := Tryz.bits_Mul 1 N (by decide) (by omega) w
 rw [Nat.one_mul, Nat.div_eq_of_lt (by omega), Nat.mod_eq_of_lt (by omega)] at h
 exact h.mono fun _ _ ⟨a, b⟩ => ⟨a, b.symm⟩
def Na (n i : Nat) : Value := if i < n then .int .i64 1 else .int .i64 0
def eF (N n : Nat) : List Value := (List.range N).map (Na n)
theorem qd (N n : Nat) : (eF N n).length = N := by simp [eF]
theorem tJ {N n i : Nat} (h : i < N) : (eF N n)[i]? = some (if i < n then .int .i64 1 else .int .i64 0) := by simp [eF, h, Na]
theorem SZ {N n m : Nat} (h : n + m ≤ N) : ((eF N n).toArray.toList.take n ++ List.replicate m (.int .i64 1) ++ (eF N n).toArray.toList.drop (n + (List.replicate m (Value.int .i64 1)).length)) = eF N (n + m) := by
 apply List.ext_getElem?
 intro i
 by_cases hi : i < N
 ·rw [tJ hi, List.append_assoc, List.getElem?_append]
  simp only [List.length_take, qd, List.length_replicate]
  by_cases h1 : i < n
  ·rw [if_pos (by omega), List.getElem?_take, if_pos h1, tJ hi, if_pos h1, if_pos (by omega)]
  ·rw [if_neg (by omega), List.getElem?_append]
   by_cases h2 : i < n + m
   ·rw [if_pos (by rw [List.length_replicate]; omega), if_pos h2, List.getElem?_replicate, if_pos (by omega)]
   ·rw [if_neg (by rw [List.length_replicate]; omega), if_neg h2, List.getElem?_drop]
    simp only [List.length_replicate]
    have e : n + m + (i - min n N - m) = i := by omega
    rw [e, tJ hi, if_neg (by omega)]
 ·rw [List.getElem?_eq_none (by simp [qd]; omega), List.getElem?_eq_none (by simp [qd]; omega)]
theorem EU (W : World) (g N n m dCap : Nat) (ad : Addr) (sLen sCap dLen : Nat) (hg : W.heap[g]? = some (.cells (eF N n).toArray 3 (0, 0))) (hm : m = Nat.min sLen dLen) (D2 : n + m ≤ N)
  (hs : ∀ j, j < m → W.cell? (ad.add j) = some (.int .i64 1)) :
  Sem.run Tryz.prog (Builtin.copy_ #[26, 26] 3 #[.slice (some ⟨g, n, none⟩) dLen dCap, .slice (some ad) sLen sCap]) W = .ok (.int .i64 m) (W.setRow g (eF N (n + m)).toArray) := by
 have h := run_copy_row (P := Tryz.prog) W 26 26 3 3 g n dLen dCap ad sLen sCap (eF N n).toArray 3 (List.replicate m (.int .i64 1)) Tryz.underlying26 (by kernel_rfl) hg (by simpa using hm)
  (fun j v hj => by
   rw [List.getElem?_replicate] at hj
   split at hj
   ·injection hj with hj; subst hj; exact hs j (by assumption)
   ·cases hj) (by simpa [qd] using D2) (fun v hv => by rw [List.eq_of_mem_replicate hv]; rfl)
 rw [SZ D2, List.length_replicate] at h
 exact h
theorem PZ (N : Nat) : madeCells #[.int .i64 0] N = (eF N 0).toArray := by
 apply Array.ext
 ·simp [qd, madeCells]
 ·intro i h1 h2
  simp [madeCells, eF, Nat.mod_one, Na]
theorem tK {W : World} {g N k : Nat} {T : TypeId} (h : W.heap[g]? = some (.cells (eF N k).toArray T (0, 0))) {j : Nat} (hj : j < N) : W.cell? ⟨g, j, none⟩ = some (if j < k then .int .i64 1 else .int .i64 0) := by
 have h2 := tJ (n := k) hj
 rw [← h2]
 simp [World.cell?, h]
def RpPost (w : World) (N : Nat) (e : Ending) (w' : World) : Prop := ∃ g, e = .returned (.slice (some ⟨g, 0, none⟩) N N) ∧ w.heap.size ≤ g ∧ Up w w' ∧ w'.heap[g]? = some (.cells (eF N N).toArray 3 (0, 0))
set_option maxHeartbeats 1000000 in
theorem IU (w : World) (b off : Nat) (N : Nat) (KT : 1 ≤ N) (hN : N ≤ 1000) (hc : w.cell? ⟨b, off, none⟩ = some (.int .i64 1)) :
  Calls Tryz.prog 233 #[.slice (some ⟨b, off, none⟩) 1 1, .int .i64 N] w (RpPost w N) := by
 have hmk := fun W => run_make_row' (P := Tryz.prog) 26 3 (.int .i64 0) 8 Tryz.underlying26 Tryz.ki rfl .i64 .i64 N (by omega) (by omega) W
 have d1 : decide ((N : Int) < 0) = false := by simp
 have d2 : decide ((9223372036854775807 : Int) < (N : Int)) = false := by simp; omega
 have ku : (w.alloc (.cells (madeCells #[.int .i64 0] N) 3)).heap[w.heap.size]? = some (.cells (eF N 0).toArray 3 (0, 0)) := by
  rw [blk_alloc_new, PZ]
 have mz := Up.alloc w (.cells (madeCells #[.int .i64 0] N) 3)
 have hc0 := mz.cell hc
 have Cj := aa ku
 have nY := aa mz
 clear ku mz
 have jN := EU (w.alloc (.cells (madeCells #[.int .i64 0] N) 3)) w.heap.size N 0 1 N ⟨b, off, none⟩ 1 1 N Cj.out (by show 1 = min 1 N; omega) (by omega) (fun j hj => by
  obtain rfl : j = 0 := by omega
  exact hc0)
 have Bw : Hid (((w.alloc (.cells (madeCells #[.int .i64 0] N) 3)).setRow w.heap.size (eF N (0 + 1)).toArray).heap[w.heap.size]? = some (.cells (eF N (0 + 1)).toArray 3 (0, 0))) := setRow_heap _ _ _ _ _ _ Cj.out
 have bH : Hid (Up w ((w.alloc (.cells (madeCells #[.int .i64 0] N) 3)).setRow w.heap.size (eF N (0 + 1)).toArray)) := below_setRow nY.out (Nat.le_refl _) _
 clear Cj nY
 go_enter Tryz.func233, Tryz.ntmps233
 go_wp2_with (go_at_call 269; refine (mul_one N hN _).mono ?_; rintro e w' ⟨rfl, rfl⟩)
 generalize (w.alloc (.cells (madeCells #[.int .i64 0] N) 3)).setRow w.heap.size (eF N (0 + 1)).toArray = w1 at *
 go_loopw [8] (fun n wr => ∃ k : Nat, 1 ≤ k ∧ k ≤ N ∧ n = .int .i64 k ∧ Hid (wr.heap[w.heap.size]? = some (.cells (eF N k).toArray 3 (0, 0))) ∧ Hid (Up w wr)) (fun n _ => N - (intOf n).toNat)
 case atStart => exact ⟨1, Nat.le_refl _, KT, rfl, Bw, bH⟩
 case round =>
  obtain ⟨k, hk1, hk2, rfl, HR, HU⟩ := hrel
  obtain ⟨wo, rfl⟩ : ∃ wo : World, wo = wr := ⟨_, rfl⟩
  by_cases hlt : k < N
  ·obtain ⟨m, hm⟩ : ∃ m : Nat, m = Nat.min k (N - k) := ⟨_, rfl⟩
   have hm2 : m = min k (N - k) := hm
   have Zf : Sem.run Tryz.prog (Builtin.copy_ #[26, 26] 3 #[.slice (some ⟨w.heap.size, k, none⟩) (N - k) (N - k), .slice (some ⟨w.heap.size, 0, none⟩) k N]) wo.drew = .ok (.int .i64 m) (wo.drew.setRow w.heap.size (eF N (k + m)).toArray) :=
    EU wo.drew w.heap.size N k m (N - k) ⟨w.heap.size, 0, none⟩ k N (N - k) HR.out hm (by omega) (fun j hj => by
     have h := tK HR.out (j := j) (by omega)
     rw [if_pos (by omega)] at h
     have e : (⟨w.heap.size, 0, none⟩ : Addr).add j = ⟨w.heap.size, j, none⟩ := by simp [Addr.add]; omega
     rw [e]; exact h)
   have hmk : 1 ≤ m := by omega
   have hmN : k + m ≤ N := by omega
   have yN : Hid ((wo.drew.setRow w.heap.size (eF N (k + m)).toArray).heap[w.heap.size]? = some (.cells (eF N (k + m)).toArray 3 (0, 0))) := setRow_heap _ _ _ _ _ _ (show wo.drew.heap[w.heap.size]? = _ from HR.out)
   have bw : Hid (Up w (wo.drew.setRow w.heap.size (eF N (k + m)).toArray)) := below_setRow (show Up w wo.drew from below_drewN HU.out 1) (Nat.le_refl _) _
   clear hm hm2 HR HU
   go_wp2_with fail
   go_region
   all_goals
    go_wp2_with fail
    go_roundw
    case rel => exact ⟨k + m, by omega, by omega, by go_num, yN, bw⟩
    case measure => simp [intOf]; omega
  ·obtain rfl : k = N := by omega
   go_wp2_with fail
   go_ret
   exact ⟨_, rfl, Nat.le_refl _, HU.out, HR.out⟩
end
section
open Go.RowKit Go.Deep
theorem o7 {s : ByteArray} (h : aY s.data.toList = true) : s.size ≤ 20 := by
 have hl : s.data.toList.length = s.size := size_data s
 unfold aY dS at h
 split at h
 ·simp only [Bool.and_eq_true, decide_eq_true_eq] at h; omega
 ·simp only [Bool.and_eq_true, decide_eq_true_eq] at h; omega
theorem EW {S : Nat → Prop} {w : World} {b o n cap : Nat} {xs : List ByteArray} (h : ah S w (.slice (some ⟨b, o, none⟩) n cap) xs) (hn : 2 ≤ xs.length) : ah S w (.slice (some ⟨b, o + 1, none⟩) (xs.length - 1) (cap - 1)) xs.tail := by
 obtain ⟨p, c, e, hc, h⟩ := h
 injection e with e1 e2 e3
 subst e1; subst e3
 refine ⟨_, _, by rw [List.length_tail], by rw [List.length_tail]; omega, ?_⟩
 rcases h with h | ⟨b', o', e4, hS, h⟩
 ·omega
 ·injection e4 with e4
  injection e4 with e5 e6
  subst e5; subst e6
  refine .inr ⟨b, o + 1, rfl, hS, fun k hk => ?_⟩
  rw [List.length_tail] at hk
  have := h (k + 1) (by omega)
  rw [show o + 1 + k = o + (k + 1) by omega, this]
  show some (Value.string (gs xs (k + 1))) = some (Value.string (gs xs.tail k))
  have : gs xs.tail k = gs xs (k + 1) := by
   unfold gs
   cases xs with
   | nil => simp at hn
   | cons a l => rfl
  rw [this]
def mX (names : List ByteArray) (s : ByteArray) : ByteArray := ⟨#[40]⟩ ++ gs names 0 ++ ⟨#[44]⟩ ++ s ++ ⟨#[41, 59]⟩
structure EnF (names : List ByteArray) (r : BT ByteArray) : Prop where
 Nb : iU (mX names (iW r)).data.toList = some (btR (uB names r))
 psz : (mX names (iW r)).size ≤ 1000
 te : az (flat (btR (uB names r))) = 0
 can : qp (flat (btR (uB names r))) = flat (uR names r)
 te2 : az (flat (uR names r)) = 0
 tx : si (flat (uR names r)) = bJ (uR names r)
 len : aH (btR (uB names r)) ≤ 9 ∧ aH (uR names r) ≤ 9
 sz : ∀ k, (gs (flat (btR (uB names r))).ns k).size ≤ 70000
 sz2 : ∀ k, (gs (flat (uR names r)).ns k).size ≤ 70000
theorem pQ {r : RT} (h : fK r) (k : Nat) : (gs (flat r).ns k).size ≤ 70000 := by
 refine gI (M := 70000) (fun x hx => ?_) k
 have hx : x ∈ cM r := hx
 rw [mU] at hx
 obtain ⟨s, hs, rfl⟩ := List.mem_map.1 hx
 by_cases e : s.kids = []
 ·exact Nat.le_trans (o7 (h.lf s hs e)) (by decide)
 ·rw [h.wY s hs e]; exact Nat.zero_le _
theorem enF {names : List ByteArray} (h : cH names) {r : BT ByteArray} (hr : r ∈ jU names.tail) : EnF names r := by
 have hp : r.bM.Perm names.tail := jm _ _ _ hr
 have ho := M5 h hp
 have hg := ho.Lu.good
 have hhi := h.hi
 have hlo := h.lo
 have hl := (uT h hp).length_eq
 have hs := zv (uB names r)
 have hz : ∀ x ∈ names, x.size ≤ 20 := fun x hx => o7 (h.nm x hx)
 have ht := x9 hg (by omega)
 have zW : r ∈ rt names.length names.tail := by
  have : rt names.length names.tail = jU names.tail := oW _ _ _ (by simp) (Nat.le_refl _)
  rw [this]; exact hr
 obtain ⟨_, _, q3, _, q5, _⟩ := cQ h (sw.2 ⟨r, zW, rfl⟩)
 refine ⟨?_, ?_, ht, by rw [x8 ht, kS]; rfl, q5, by rw [PC q5, kS]; rfl, by omega, pQ hg, pQ (r := uR names r) hg.sort⟩
 ·have e : (mX names (iW r)).data.toList = txR (btR (uB names r)) ++ [59] := by
   unfold mX iW uB
   rw [Vg, btR, wj]
   simp
  rw [e]; exact uP hg.jb
 ·have h1 := wm r fun x hx => hz x (List.mem_of_mem_tail (hp.mem_iff.1 hx))
  have h2 := hp.length_eq
  have h3 := gI hz 0
  rw [List.length_tail] at h2
  unfold mX
  simp only [ByteArray.size_append]
  show 1 + (gs names 0).size + 1 + (iW r).size + 2 ≤ 1000
  omega
def IV (w : World) (names : List ByteArray) (e : Ending) (w' : World) : Prop := Up w w' ∧ ∃ v, e = .returned (.tuple #[v, .int .i64 0]) ∧ uV w' v (aM names)
theorem EX {base n size : Nat} {e : TypeId} {w w' : World} {v : Value} {vs : List Value} (h : w.ownsRow base e size v n vs) (k : ∀ b, v.ownBlock = some b → w'.heap[b]? = w.heap[b]?) : w'.ownsRow base e size v n vs := by
 refine ⟨h.1, ?_⟩
 rcases h.2 with h2 | ⟨g, cap, cur, hv, hg, hc, h3⟩
 ·exact .inl h2
 ·exact .inr ⟨g, cap, cur, hv, hg, (k g (by rw [hv]; rfl)).trans hc, h3⟩
theorem iI.up {base : Nat} {w w' : World} {v : Value} {es : List mq} (h : iI base w v es) (hu : Up w w') : iI base w' v es :=
 ⟨EX h.1 fun b hb => Below.block hu b (World.ownsRow.lt h.1 b hb).2, fun x hx => (h.2 x hx).keep (hu.kept _)⟩
def gB (R : List (BT ByteArray)) (n : Nat) : BT ByteArray := R.getD n (.leaf ByteArray.empty)
theorem rts_gs {L : List ByteArray} {n : Nat} (h : n < (jU L).length) : gs (bD L) n = iW (gB (jU L) n) ∧ gB (jU L) n ∈ jU L := by
 unfold gs gB bD
 constructor
 ·simp [h]
 ·simp [h]
end
section
open Go.RowKit Go.Deep
def o8 : Nat → Int
 | 0 => 1
 | m + 1 => o8 m * (2 * (m : Int) + 3)
def IW (n : Int) : Int := if n < 2 ∨ 7 < n then 2 else 0
def IX (n : Int) : Int := if n < 2 ∨ 7 < n then 0 else o8 (n - 3).toNat
set_option maxHeartbeats 2000000 in
theorem EY (n : Int) (hn : -9223372036854775808 ≤ n ∧ n ≤ 9223372036854775807) (w : World) : Calls Tryz.prog 28 #[.int .i64 n] w fun e w' => e = .returned (.tuple #[.int .i64 (IX n), .int .i64 (IW n)]) ∧ w = w' := by
 have HC : Hid (IW n = if n < 2 ∨ 7 < n then 2 else 0) := rfl
 have HR : Hid (IX n = if n < 2 ∨ 7 < n then 0 else o8 (n - 3).toNat) := rfl
 by_cases h1 : n < 2
 ·go_enter Tryz.func28, Tryz.ntmps28
  go_wp2_with fail
  go_ret2
  rw [HC.out, HR.out, if_pos (.inl h1), if_pos (.inl h1)]; exact ⟨rfl, rfl⟩
 by_cases h2 : 7 < n
 ·go_enter Tryz.func28, Tryz.ntmps28
  go_wp2_with fail
  go_ret2
  rw [HC.out, HR.out, if_pos (.inr h2), if_pos (.inr h2)]; exact ⟨rfl, rfl⟩
 obtain ⟨k, rfl⟩ : ∃ k : Nat, n = k := ⟨n.toNat, by omega⟩
 have HF : Hid (IW (k : Int) = 0 ∧ IX (k : Int) = o8 (k - 3)) := by
  unfold Hid; rw [HC.out, HR.out, if_neg (by omega), if_neg (by omega), show ((k : Int) - 3).toNat = k - 3 by omega]; exact ⟨rfl, rfl⟩
 clear HC HR hn
 have hk : k = 2 ∨ k = 3 ∨ k = 4 ∨ k = 5 ∨ k = 6 ∨ k = 7 := by omega
 have e0 := HF.out.1
 have e1 := HF.out.2
 rw [e0, e1]
 clear HF e0 e1
 go_enter Tryz.func28, Tryz.ntmps28
 go_wp2_with fail
 go_loop [4, 5] (fun o i => ∃ m : Nat, m ≤ k - 3 ∧ i = .int .i64 (2 * (m : Int) + 3) ∧ o = .int .i64 (o8 m)) (fun _ i => 20 - (intOf i).toNat)
 case atStart => exact ⟨0, Nat.zero_le _, rfl, rfl⟩
 case round =>
  obtain ⟨m, hm, rfl, rfl⟩ := hrel
  have hm4 : m ≤ 4 := by omega
  by_cases hlt : m < k - 3
  ·have hb : o8 (m + 1) = o8 m * (2 * (m : Int) + 3) ∧ 1 ≤ o8 m ∧ o8 m ≤ 105 ∧ 1 ≤ o8 (m + 1) ∧ o8 (m + 1) ≤ 945 := by
    have : m = 0 ∨ m = 1 ∨ m = 2 ∨ m = 3 := by omega
    rcases this with rfl | rfl | rfl | rfl <;> refine ⟨rfl, by decide, by decide, by decide, by decide⟩
   obtain ⟨b0, b1, b2, b3, b4⟩ := hb
   have hc : 2 * (m : Int) + 3 ≤ 2 * (k : Int) - 5 := by omega
   generalize hcm : o8 (m + 1) = c' at *
   generalize o8 m = c at *
   go_wp2_with fail
   go_round
   case rel => exact ⟨m + 1, hlt, by go_num, by rw [hcm, b0]⟩
   case measure => simp [intOf]; omega
  ·obtain rfl : m = k - 3 := by omega
   have hc : ¬ 2 * ((k - 3 : Nat) : Int) + 3 ≤ 2 * (k : Int) - 5 := by omega
   go_wp2_with fail
   go_ret2
   exact ⟨rfl, rfl⟩
set_option maxHeartbeats 2000000 in
theorem S0 (w : World) (s : ByteArray) (hz : s.size ≤ 70000) :
  Calls Tryz.prog 139 #[.string s] w fun e w' => e = .returned (.bool (aY s.data.toList)) ∧ Up w w' := by
 have hu := (Up.alloc w (.cells #[.int .i64 (-1)] 3)).trans (Up.alloc _ (.cells #[.string s] 9))
 have HU := aa hu
 have HC := aa (qZ Any _ _ (jL s) (one_at w s) (by simp [jL]) (by simp [jL]) (fun k => by
  unfold jL gs; cases k <;> simp; exact hz))
 have HX := aa (Wn s)
 clear hu
 go_enter Tryz.func139, Tryz.ntmps139
 go_wp2_with fail
 generalize (w.alloc (.cells #[.int .i64 (-1)] 3)).alloc (.cells #[.string s] 9) = w1 at *
 refine HC.out.mono ?_
 rintro e w2 ⟨rfl, hb⟩
 have bw := aa (HU.out.trans (show Up w1 w2 from hb))
 clear hb HC HU
 go_wp2_with fail
 go_ret
 exact ⟨aL HX.out, bw.out⟩
set_option maxHeartbeats 2000000 in
theorem uW (S : Nat → Prop) (w : World) (v : Value) (names : List ByteArray) (h : ah S w v names) (hn : names.length ≤ 1000000) (hz : ∀ k, (gs names k).size ≤ 70000) :
  Calls Tryz.prog 89 #[v] w fun e w' => e = .returned (.int .i64 (bW names)) ∧ Up w w' := by
 obtain ⟨p, cap, rfl, hcap, _⟩ := aB.open h
 have h : ah S w (.slice p names.length cap) names := h
 have HC : Hid (bW names = if names.length < 2 ∨ 7 < names.length then 4 else firstNZ (dO names) names.length) := rfl
 have HN := aa h
 have HZ := aa hz
 clear h hz
 by_cases h1 : names.length < 2
 ·go_enter Tryz.func89, Tryz.ntmps89
  go_wp2_with fail
  go_ret
  exact ⟨aI (by rw [HC.out, if_pos (.inl h1)]), Up.refl _⟩
 by_cases h2 : 7 < names.length
 ·go_enter Tryz.func89, Tryz.ntmps89
  go_wp2_with fail
  go_ret
  exact ⟨aI (by rw [HC.out, if_pos (.inr h2)]), Up.refl _⟩
 have HF : Hid (bW names = firstNZ (dO names) names.length) := by unfold Hid; rw [HC.out, if_neg (by omega)]
 clear HC
 have uX : Hid (∀ k, k < names.length → (∀ j, j < k → dO names j = 0) → dO names k ≠ 0 → bW names = dO names k) := fun k hk hj h0 => by
  rw [HF.out, fG hk hj h0]
 go_enter Tryz.func89, Tryz.ntmps89
 go_wp2_with fail
 go_loopw [3, 4, 15] (fun _ _ i wr => ∃ k : Nat, k ≤ names.length ∧ i = .int .i64 k ∧ Hid (Up w wr ∧ ∀ j, j < k → dO names j = 0)) (fun _ _ i _ => names.length - (intOf i).toNat)
 case atStart => exact ⟨0, Nat.zero_le _, rfl, Up.refl _, fun j hj => absurd hj (Nat.not_lt_zero _)⟩
 case round =>
  obtain ⟨k, hk, rfl, hd⟩ := hrel
  obtain ⟨wo, rfl⟩ : ∃ wo : World, wo = wr := ⟨_, rfl⟩
  by_cases hlt : k < names.length
  ·have IY := ah.keep HN.out (hd.out.1.kept S)
   obtain ⟨Co, no, rfl, hc⟩ := bz IY hlt
   have fS := aa (S0 wo (gs names k) (HZ.out k))
   have Aa : Hid (∀ W, Up wo W → Calls Tryz.prog 32 #[.slice (some ⟨Co, no, none⟩) k cap, .string (gs names k)] W fun e w' => e = .returned (.bool (dm names k)) ∧ W = w') := fun W hW => by
    have h := eN S W _ k (fun j => gs names j) (gs names k) (EA (ah.keep IY (hW.kept S)) hk) (by omega)
    rwa [SY] at h
   have IZ := aa (uX.out k hlt hd.out.2)
   have yP : Hid (dO names k = if aY (gs names k).data.toList then (if dm names k then 7 else 0) else 14) := rfl
   generalize gs names k = nm at *
   generalize dm names k = bs at *
   generalize aY nm.data.toList = bn at *
   clear IY
   cases bn
   ·have HE : Hid (dO names k = 14) := yP.out
    go_wp2_with fail
    refine fS.out.mono ?_
    rintro e w1 ⟨rfl, aR⟩
    have bH := aa (hd.out.1.trans aR)
    clear aR
    go_wp2_with fail
    go_ret
    exact ⟨aI ((IZ.out (by rw [HE.out]; decide)).trans HE.out).symm, bH.out⟩
   ·cases bs
    ·have HE : Hid (dO names k = 0) := yP.out
     go_wp2_with fail
     refine fS.out.mono ?_
     rintro e w1 ⟨rfl, aR⟩
     have bH := aa (hd.out.1.trans aR)
     have A5 := aa (Aa.out w1 aR)
     clear aR
     go_wp2_with (go_at_call 32; refine A5.out.mono ?_; rintro e w' ⟨rfl, rfl⟩)
     go_roundw
     case rel => exact ⟨k + 1, by omega, by go_num, bH.out, fun j hj => if e : j = k then by subst e; exact HE.out else hd.out.2 j (by omega)⟩
     case measure => simp [intOf]; omega
    ·have HE : Hid (dO names k = 7) := yP.out
     go_wp2_with fail
     refine fS.out.mono ?_
     rintro e w1 ⟨rfl, aR⟩
     have bH := aa (hd.out.1.trans aR)
     have A5 := aa (Aa.out w1 aR)
     clear aR
     go_wp2_with (go_at_call 32; refine A5.out.mono ?_; rintro e w' ⟨rfl, rfl⟩)
     go_ret
     exact ⟨aI ((IZ.out (by rw [HE.out]; decide)).trans HE.out).symm, bH.out⟩
  ·obtain rfl : k = names.length := by omega
   have mQ : Hid (bW names = 0) := by unfold Hid; rw [HF.out, dJ hd.out.2]
   go_wp2_with fail
   go_ret
   exact ⟨aI mQ.out.symm, hd.out.1⟩
set_option maxHeartbeats 2000000 in
theorem EZ (S : Nat → Prop) (w : World) (v vs : Value) (names : List ByteArray) (states : List (List Int)) (h : ah S w v names) (hn : names.length ≤ 1000000) (hz : ∀ k, (gs names k).size ≤ 70000) (hS : aU S w vs states) (pY : states.length ≤ 1000000) (hr : ∀ k, (gl states k).length ≤ 1000000) :
  Calls Tryz.prog 67 #[v, vs] w fun e w' => e = .returned (.int .i64 (cI names states)) ∧ Up w w' := by
 have HC : Hid (cI names states = if bW names ≠ 0 then bW names else if cn states ≠ 0 then 1 else if states.length ≠ names.length then 9 else 0) := rfl
 have fS := aa (uW S w v names h hn hz)
 obtain ⟨p, cap, rfl, hcap, _⟩ := aB.open h
 obtain ⟨q, d, rfl, hd, _⟩ := eR hS
 have uY : Hid (∀ W, Up w W → Calls Tryz.prog 70 #[.slice q states.length d] W fun e w' => e = .returned (.int .i64 (cn states)) ∧ W = w') := fun W hW => Ei S W _ states (aU.keep hS (hW.kept S)) pY hr
 clear h hS hz hr
 go_enter Tryz.func67, Tryz.ntmps67
 go_wp2_with fail
 refine fS.out.mono ?_
 rintro e w1 ⟨rfl, aR⟩
 have bH := aa aR
 have HAG1 := aa (uY.out w1 aR)
 clear aR
 by_cases c1 : bW names = 0
 ·have Af : Hid (cI names states = if cn states ≠ 0 then 1 else if states.length ≠ names.length then 9 else 0) := by unfold Hid; rw [HC.out, if_neg (by omega)]
  rw [c1]
  clear HC c1 fS uY
  go_wp2_with fail
  refine HAG1.out.mono ?_
  rintro e w' ⟨rfl, rfl⟩
  generalize cn states = a at *
  by_cases c2 : a = 0
  ·subst c2
   by_cases c3 : states.length = names.length
   ·have d3 : (states.length : Int) = (names.length : Int) := by omega
    go_wp2_with fail
    go_ret
    exact ⟨aI (by rw [Af.out, if_neg (by omega), if_neg (by omega)]), bH.out⟩
   ·have d3 : ¬ (states.length : Int) = (names.length : Int) := by omega
    go_wp2_with fail
    go_ret
    exact ⟨aI (by rw [Af.out, if_neg (by omega), if_pos c3]), bH.out⟩
  ·go_wp2_with fail
   go_ret
   exact ⟨aI (by rw [Af.out, if_pos c2]), bH.out⟩
 ·generalize bW names = a at *
  go_wp2_with fail
  go_ret
  exact ⟨aI (by rw [HC.out, if_pos c1]), bH.out⟩
end
section
open Go.RowKit Go.Deep
def I1 (w wr : World) (g0 N k : Nat) : Prop := Up w wr ∧ ∃ f, wr.rowIs g0 26 N f ∧ ∀ i, i < k → aq (fun b => b ≠ g0) wr (f i) (lQ N i)
theorem I2 {N k j : Nat} (hj : j < N) : (if j = k then Value.int .i64 0 else if j < N then .int .i64 1 else .int .i64 0) = .int .i64 (gi (lQ N k) j) := by
 rw [Ce hj]
 unfold Iz
 by_cases h : j = k
 ·rw [if_pos h, if_pos h.symm]
 ·rw [if_neg h, if_pos hj, if_neg (fun e => h e.symm)]
theorem I1.step {w wr w8 : World} {g0 g N k : Nat} (h : I1 w wr g0 N k) (hk : k < N) (hu : Up wr w8) (hg : wr.heap.size ≤ g) (hr : w8.heap[g]? = some (.cells (eF N N).toArray 3 (0, 0))) (hw0 : w.heap.size ≤ g0) :
  I1 w ((w8.setCell ⟨g0, k, none⟩ (.slice (some ⟨g, 0, none⟩) N N)).setCell ⟨g, k, none⟩ (.int .i64 0)) g0 N (k + 1) := by
 obtain ⟨eZ, f, hrow, hin⟩ := h
 have hg0 := hrow.lt
 have hne : g0 ≠ g := by omega
 have Cq : w8.rowIs g0 26 N f := hrow.of_block (Below.block hu g0 hg0)
 have hrow9 := (Cq.set k (.slice (some ⟨g, 0, none⟩) N N)).setOther (a := ⟨g, k, none⟩) hne (.int .i64 0)
 have hwg : w.heap.size ≤ g := Nat.le_trans eZ.size hg
 refine ⟨((eZ.trans hu).setCell (p := ⟨g0, k, none⟩) hw0 _).setCell (p := ⟨g, k, none⟩) hwg _, _, hrow9, fun i hi => ?_⟩
 by_cases hik : i = k
 ·subst hik
  simp only [if_true]
  refine ⟨_, _, by rw [tZ], by rw [tZ]; exact Nat.le_refl _, .inr ⟨g, 0, rfl, fun e => hne e.symm, fun j hj => ?_⟩⟩
  rw [tZ] at hj
  show _ = some (Value.int .i64 (gi (lQ N i) j))
  rw [Nat.zero_add, ← I2 hj]
  have hb : (w8.setCell ⟨g0, i, none⟩ (.slice (some ⟨g, 0, none⟩) N N)).cell? ⟨g, j, none⟩ = some (if j < N then .int .i64 1 else .int .i64 0) := by
   rw [uu (by simpa using hne)]; exact tK hr hj
  have hb2 : (w8.setCell ⟨g0, i, none⟩ (.slice (some ⟨g, 0, none⟩) N N)).cell? ⟨g, i, none⟩ = some (if i < N then .int .i64 1 else .int .i64 0) := by
   rw [uu (by simpa using hne)]; exact tK hr hk
  by_cases e : j = i
  ·subst e; rw [if_pos rfl]; exact Fz ⟨_, hb⟩
  ·rw [if_neg e]
   exact (World.cell?_setCell_other _ ⟨g, i, none⟩ ⟨g, j, none⟩ _ (fun h => e (by injection h with _ h2; exact h2.symm))).trans hb
 ·simp only [hik, if_false]
  refine aq.keep (hin i (by omega)) (w := wr) fun b hb hl => ?_
  have h1 : w8.heap[b]? = wr.heap[b]? := Below.block hu b hl
  rw [← h1]
  exact (blk_setCell_other _ _ _ _ (by simp; omega)).trans (blk_setCell_other _ _ _ _ (by simpa using hb))
set_option maxHeartbeats 1000000 in
theorem unit_t (w : World) (N : Nat) (KT : 1 ≤ N) (hN : N ≤ 16) : Calls Tryz.prog 171 #[.int .i64 N] w (BB w (bE N)) := by
 have hmk := fun W => run_make_row' (P := Tryz.prog) 23 26 (.slice none 0 0) 24 Tryz.underlying23 Tryz.Og rfl .i64 .i64 N (by omega) (by omega) W
 have HO : Hid (I1 w (w.alloc (.cells (madeCells #[.slice none 0 0] N) 26)) w.heap.size N 0) := ⟨Up.alloc _ _, _, World.rowIs_made w (.slice none 0 0) N 26, fun _ hi => absurd hi (Nat.not_lt_zero _)⟩
 go_enter Tryz.func171, Tryz.ntmps171
 go_wp2_with fail
 generalize w.alloc (.cells (madeCells #[.slice none 0 0] N) 26) = w1 at *
 go_loopw [9] (fun i wr => ∃ k : Nat, k ≤ N ∧ i = .int .i64 k ∧ Hid (I1 w wr w.heap.size N k)) (fun i _ => N - (intOf i).toNat)
 case atStart => exact ⟨0, Nat.zero_le _, rfl, HO⟩
 case round =>
  obtain ⟨k, hk, rfl, hO⟩ := hrel
  obtain ⟨wo, rfl⟩ : ∃ wo : World, wo = wr := ⟨_, rfl⟩
  by_cases hlt : k < N
  ·obtain ⟨eZ, f, hrow, _⟩ := hO.out
   have hg0 := hrow.lt
   have Mh := aa hrow
   have HRP := aa (IU (wo.alloc (.cells #[.int .i64 1] 3)) wo.heap.size 0 N KT (by omega) (aO _ _ _ 0))
   clear eZ hrow
   go_wp2_with fail
   refine HRP.out.mono ?_
   rintro e w8 ⟨g, rfl, hg, hu, hr⟩
   rw [World.size_alloc] at hg
   have kY : Up wo w8 := (Up.alloc _ _).trans hu
   have hst := hO.out.step hlt kY (by omega) hr (Nat.le_refl _)
   have Cq := Mh.out.of_block (Below.block kY _ hg0)
   have hcell : w8.cell? ⟨w.heap.size, k, none⟩ = some (f k) := Cq.cell hlt
   have hfz : w8.frozen? ⟨w.heap.size, k, none⟩ = false := Cq.frozen k
   have hcg : w8.cell? ⟨g, k, none⟩ = some (.int .i64 1) := by have h := tK hr hlt; rw [if_pos hlt] at h; exact h
   have hfg : w8.frozen? ⟨g, k, none⟩ = false := by simp [World.frozen?, hr]
   have hne : w.heap.size ≠ g := by omega
   have CP : g ≠ w.heap.size := by omega
   have HST := aa hst
   clear hst Cq hr hu kY Mh HRP hO
   go_wp2_with fail
   go_roundw
   case rel => exact ⟨k + 1, by omega, by go_num, HST⟩
   case measure => simp [intOf]; omega
  ·obtain rfl : k = N := by omega
   go_wp2_with fail
   go_ret
   obtain ⟨eZ, f, hrow, hin⟩ := hO.out
   refine ⟨eZ, .slice (some ⟨w.heap.size, 0, none⟩) k k, rfl, f, ⟨_, _, by rw [jx], by rw [jx]; exact Nat.le_refl _, .inr ⟨_, 0, rfl, trivial, fun i hi => ?_⟩⟩, fun i hi => ?_⟩
   ·rw [jx] at hi
    rw [Nat.zero_add]; exact hrow.cell hi
   ·rw [jx] at hi
    rw [IA hi]; exact (hin i hi).sub fun _ _ _ => trivial
end
section
open Go.RowKit Go.Deep
theorem FD (s : ByteArray) (h : s.size - 1 < s.size) (U0 : 16 < s.size) (zZ : ((s[s.size - 1].toNat : Int) == 42) = true) : aY s.data.toList = false := by
 have hl := size_data s
 have h2 : s[s.size - 1] = 42 := by
  have h3 : (s[s.size - 1].toNat : Int) = 42 := by simpa using zZ
  have h4 : s[s.size - 1].toNat = 42 := by omega
  exact UInt8.toNat_inj.1 h4
 unfold aY; rw [AV s h, h2, if_pos rfl, hl, decide_eq_false (by omega), Bool.and_false]
end
end Go.Proofs.YthgabkgmkolobaaGreat
