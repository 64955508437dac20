/- The contract of parsimony.table. Names, as layer 1's and layer 31's references have them. .. -/
import Derived.Test.YthgabkgmkolobaaGreatQ5
import Derived.Test.YthgabkgmkolobaaGreatQ2
import Derived.Test.YthgabkgmkolobaaGreatQ3
import Derived.Test.YthgabkgmkolobaaGreatQ1
import Derived.StillTail
set_option maxRecDepth 100000
namespace Go.Proofs.YthgabkgmkolobaaGreat
section
open Go.RowKit Go.Deep
theorem Tryz.Og : (Tryz.prog.info? 26).map (fun i => (i.zero, i.size, i.bytes)) = some (some (.slice none 0 0), 1, 24) := by kernel_rfl
theorem aO (W : World) (cs : Array Value) (t : TypeId) (k : Nat) : (W.alloc (.cells cs t)).cell? ⟨W.heap.size, k, none⟩ = cs[k]? := by
 unfold World.cell?; rw [World.alloc_heap_new]; rfl
theorem kz (W : World) (v : Value) (t : TypeId) : (W.alloc (.cells #[v] t)).cell? ⟨W.heap.size, 0, none⟩ = some v := aO W _ t 0
theorem ze.step {w w' : World} {t : ay} {st : List Int} {cs : List (List Int)} {pC pL pS pT pO ob : Nat} {V : Nat → Value} {j : Nat} {v : Value} (h : ze w t st cs pC pL pS pT pO ob V (j + 1))
  (hg : w.grownBy w' (some ob)) (hr : w'.rowIs ob 26 t.ps.length (fun x => if x = j then v else V x)) (hv : aq (· ≠ ob) w' v (aP t st cs j)) : ze w' t st cs pC pL pS pT pO ob (fun x => if x = j then v else V x) j := by
 have hk : Kept (· ≠ ob) w w' := fun b hb hl => hg.block b hl (by simp; exact hb)
 have hc : ∀ {p o : Nat} {x : Value}, p ≠ ob → w.cell? ⟨p, o, none⟩ = some x → w'.cell? ⟨p, o, none⟩ = some x := fun hp hx => hg.cell hx (by simp; exact hp)
 obtain ⟨n1, n2, n3, n4, n5⟩ := h.ne
 obtain ⟨C, a1, a2⟩ := h.cC
 obtain ⟨L, b1, b2⟩ := h.cL
 obtain ⟨Q, c1, c2⟩ := h.cS
 obtain ⟨P, N, d1, d2, d3⟩ := h.cT
 refine ⟨⟨C, hc n1 a1, a2.keep hk⟩, ⟨L, hc n2 b1, b2.keep hk⟩, ⟨Q, hc n3 c1, c2.keep hk⟩, ⟨P, N, hc n4 d1, hc n4 d2, d3.keep hk⟩, hc n5 h.cO, hr, fun x h1 h2 => ?_, h.ne⟩
 by_cases e : x = j
 ·subst e; simp only [if_true]; exact hv
 ·simp only [e, if_false]; exact (h.rows x (by omega) h2).keep hk
def nC (t : ay) (st : List Int) (cs : List (List Int)) : List (List Int) := (List.range t.ps.length).map (aP t st cs)
def BB (w : World) (l : List (List Int)) (e : Ending) (w' : World) : Prop := Below w.heap.size w w' ∧ ∃ v, e = .returned v ∧ aU Any w' v l
set_option maxHeartbeats 800000 in
theorem VO (S : Nat → Prop) (w : World) (v vs vc : Value) (t : ay) (st : List Int) (cs : List (List Int)) (hT : aA S w v t) (hS : aq S w vs st) (hC : aU S w vc cs)
  (he : az t = 0) (XF : t.ns.length ≤ 64) (hz : ∀ k, (gs t.ns k).size ≤ 70000)
  (hn : t.ps.length ≤ 64) (hm : cs.length ≤ 16) (hm0 : 0 < cs.length) (iz : (aj t.ns).length ≤ st.length) (hrl : ∀ a, a < cs.length → (gl cs a).length = cs.length) (hcb : ∀ a k, 0 ≤ gi (gl cs a) k ∧ gi (gl cs a) k ≤ 1000)
  (htb : ∀ j s, j < t.ps.length → -1 ≤ gi (aP t st cs j) s ∧ gi (aP t st cs j) s ≤ 100000) (gO : (aj t.ns).length ≤ 64) :
  Calls Tryz.prog 170 #[v, vs, vc] w (BB w (nC t st cs)) := by
 obtain ⟨P, N, rfl, hP, hN⟩ := hT
 obtain ⟨p, cap, rfl, hcap, wT⟩ := aB.open hP
 obtain ⟨qS, jZ, rfl, _, _⟩ := aB.open hS
 obtain ⟨fC, Aw, Bv⟩ := hC
 obtain ⟨qC, jB, rfl, _, _⟩ := aB.open Aw
 have hC : aU S w (.slice qC cs.length jB) cs := ⟨fC, Aw, Bv⟩
 clear Aw Bv
 have hmk := fun W => run_make_row' (P := Tryz.prog) 23 26 (.slice none 0 0) 24 Tryz.underlying23 Tryz.Og rfl .i64 .i64 t.ps.length (by omega) (by omega) W
 have nB : Below w.heap.size w (((((w.alloc (.cells #[.slice p t.ps.length cap, N] 39)).alloc (.cells #[.slice qS st.length jZ] 26)).alloc (.cells #[.slice qC cs.length jB] 23)).alloc (.cells (madeCells #[.slice none 0 0] t.ps.length) 26)).alloc (.cells #[.slice (some ⟨w.heap.size + 1 + 1 + 1, 0, none⟩) t.ps.length t.ps.length] 23)) := (((((Below.refl _ w).alloc (Nat.le_refl _) _).alloc (by simp) _).alloc (by simp; omega) _).alloc (by simp; omega) _).alloc (by simp; omega) _
 have DX : aA S (((((w.alloc (.cells #[.slice p t.ps.length cap, N] 39)).alloc (.cells #[.slice qS st.length jZ] 26)).alloc (.cells #[.slice qC cs.length jB] 23)).alloc (.cells (madeCells #[.slice none 0 0] t.ps.length) 26)).alloc (.cells #[.slice (some ⟨w.heap.size + 1 + 1 + 1, 0, none⟩) t.ps.length t.ps.length] 23)) (.agg #[.slice p t.ps.length cap, N]) t := aA.keep ⟨_, _, rfl, hP, hN⟩ (Kept.below nB)
 have Gd : Below (((w.alloc (.cells #[.slice p t.ps.length cap, N] 39)).alloc (.cells #[.slice qS st.length jZ] 26)).alloc (.cells #[.slice qC cs.length jB] 23)).heap.size (((w.alloc (.cells #[.slice p t.ps.length cap, N] 39)).alloc (.cells #[.slice qS st.length jZ] 26)).alloc (.cells #[.slice qC cs.length jB] 23)) (((((w.alloc (.cells #[.slice p t.ps.length cap, N] 39)).alloc (.cells #[.slice qS st.length jZ] 26)).alloc (.cells #[.slice qC cs.length jB] 23)).alloc (.cells (madeCells #[.slice none 0 0] t.ps.length) 26)).alloc (.cells #[.slice (some ⟨w.heap.size + 1 + 1 + 1, 0, none⟩) t.ps.length t.ps.length] 23)) := ((Below.refl _ _).alloc (Nat.le_refl _) _).alloc (by simp) _
 have Rm : Below (w.alloc (.cells #[.slice p t.ps.length cap, N] 39)).heap.size (w.alloc (.cells #[.slice p t.ps.length cap, N] 39)) (((w.alloc (.cells #[.slice p t.ps.length cap, N] 39)).alloc (.cells #[.slice qS st.length jZ] 26)).alloc (.cells #[.slice qC cs.length jB] 23)) := ((Below.refl _ _).alloc (Nat.le_refl _) _).alloc (by simp) _
 have XG : Below ((w.alloc (.cells #[.slice p t.ps.length cap, N] 39)).alloc (.cells #[.slice qS st.length jZ] 26)).heap.size ((w.alloc (.cells #[.slice p t.ps.length cap, N] 39)).alloc (.cells #[.slice qS st.length jZ] 26)) (((w.alloc (.cells #[.slice p t.ps.length cap, N] 39)).alloc (.cells #[.slice qS st.length jZ] 26)).alloc (.cells #[.slice qC cs.length jB] 23)) := (Below.refl _ _).alloc (Nat.le_refl _) _
 have c0 := cell_later Gd (cell_later Rm (aO w #[.slice p t.ps.length cap, N] 39 0))
 have c1 := cell_later Gd (cell_later Rm (aO w #[.slice p t.ps.length cap, N] 39 1))
 have c2 := cell_later Gd (cell_later XG (kz (w.alloc (.cells #[.slice p t.ps.length cap, N] 39)) (.slice qS st.length jZ) 26))
 have c3 := cell_later Gd (kz ((w.alloc (.cells #[.slice p t.ps.length cap, N] 39)).alloc (.cells #[.slice qS st.length jZ] 26)) (.slice qC cs.length jB) 23)
 simp only [World.size_alloc] at c2 c3
 have c4 : (((((w.alloc (.cells #[.slice p t.ps.length cap, N] 39)).alloc (.cells #[.slice qS st.length jZ] 26)).alloc (.cells #[.slice qC cs.length jB] 23)).alloc (.cells (madeCells #[.slice none 0 0] t.ps.length) 26)).alloc (.cells #[.slice (some ⟨w.heap.size + 1 + 1 + 1, 0, none⟩) t.ps.length t.ps.length] 23)).rowIs (w.heap.size + 1 + 1 + 1) 26 t.ps.length (fun _ => .slice none 0 0) := by
  have h := World.rowIs_made (((w.alloc (.cells #[.slice p t.ps.length cap, N] 39)).alloc (.cells #[.slice qS st.length jZ] 26)).alloc (.cells #[.slice qC cs.length jB] 23)) (.slice none 0 0) t.ps.length 26
  simp only [World.size_alloc] at h
  exact h.alloc _
 have c5 : (((((w.alloc (.cells #[.slice p t.ps.length cap, N] 39)).alloc (.cells #[.slice qS st.length jZ] 26)).alloc (.cells #[.slice qC cs.length jB] 23)).alloc (.cells (madeCells #[.slice none 0 0] t.ps.length) 26)).alloc (.cells #[.slice (some ⟨w.heap.size + 1 + 1 + 1, 0, none⟩) t.ps.length t.ps.length] 23)).cell? ⟨w.heap.size + 1 + 1 + 1 + 1, 0, none⟩ = some (.slice (some ⟨w.heap.size + 1 + 1 + 1, 0, none⟩) t.ps.length t.ps.length) := by
  have h := (kz ((((w.alloc (.cells #[.slice p t.ps.length cap, N] 39)).alloc (.cells #[.slice qS st.length jZ] 26)).alloc (.cells #[.slice qC cs.length jB] 23)).alloc (.cells (madeCells #[.slice none 0 0] t.ps.length) 26)) (.slice (some ⟨w.heap.size + 1 + 1 + 1, 0, none⟩) t.ps.length t.ps.length) 23)
  simpa only [World.size_alloc] using h
 have z5 : (((((w.alloc (.cells #[.slice p t.ps.length cap, N] 39)).alloc (.cells #[.slice qS st.length jZ] 26)).alloc (.cells #[.slice qC cs.length jB] 23)).alloc (.cells (madeCells #[.slice none 0 0] t.ps.length) 26)).alloc (.cells #[.slice (some ⟨w.heap.size + 1 + 1 + 1, 0, none⟩) t.ps.length t.ps.length] 23)).heap.size = w.heap.size + 5 := by simp
 have hL := rE S _ _ t DX (by omega) (by omega) hz
 have HL := aa hL
 have Oh := aa nB
 have C0 := aa c0
 have C1 := aa c1
 have C2 := aa c2
 have C3 := aa c3
 have C4 := aa c4
 have C5 := aa c5
 have Z5 := aa z5
 have HC := aa hC
 have HS := aa hS
 have HP := aa hP
 clear wT Gd Rm XG nB DX c0 c1 c2 c3 c4 c5 z5 hL hC hS hP hN hz
 go_enter Tryz.func170, Tryz.ntmps170
 go_wp2_with fail
 generalize (((((w.alloc (.cells #[.slice p t.ps.length cap, N] 39)).alloc (.cells #[.slice qS st.length jZ] 26)).alloc (.cells #[.slice qC cs.length jB] 23)).alloc (.cells (madeCells #[.slice none 0 0] t.ps.length) 26)).alloc (.cells #[.slice (some ⟨w.heap.size + 1 + 1 + 1, 0, none⟩) t.ps.length t.ps.length] 23)) = w5 at *
 clear hmk
 refine HL.out.mono ?_
 rintro e w6 ⟨UA, ⟨h1, _⟩ | ⟨_, lv, rfl, hlv⟩⟩
 ·exact absurd he h1
 obtain ⟨lp, lc, rfl, _, _⟩ := aB.open hlv
 have Od : Below w6.heap.size w6 (w6.alloc (.cells #[.slice lp (aj t.ns).length lc] 26)) := (Below.refl _ _).alloc (Nat.le_refl _) _
 have rJ : Below w5.heap.size w5 (w6.alloc (.cells #[.slice lp (aj t.ns).length lc] 26)) := UA.trans (Od.mono UA.size)
 have d5 := cell_later rJ C5.out
 have d6 := kz w6 (.slice lp (aj t.ns).length lc) 26
 have XH : Below w.heap.size w (w6.alloc (.cells #[.slice lp (aj t.ns).length lc] 26)) := Oh.out.trans (rJ.mono Oh.out.size)
 have z6 : w.heap.size + 5 ≤ w6.heap.size := by have := Z5.out; have := UA.size; omega
 have hF : ze (w6.alloc (.cells #[.slice lp (aj t.ns).length lc] 26)) t st cs (w.heap.size + 1 + 1) w6.heap.size (w.heap.size + 1) w.heap.size (w.heap.size + 1 + 1 + 1 + 1) (w.heap.size + 1 + 1 + 1) (fun _ => .slice none 0 0) t.ps.length :=
  ⟨⟨_, cell_later rJ C3.out, (((HC.out.sub (T := fun b => b < w.heap.size) fun b _ hb => hb).keep (Kept.below Oh.out)).keep (Kept.below rJ)).sub fun b hb _ => by omega⟩,
   ⟨_, d6, (hlv.keep (Kept.below Od)).sub fun b hb _ => by have := Z5.out; omega⟩,
   ⟨_, cell_later rJ C2.out, (((HS.out.sub (T := fun b => b < w.heap.size) fun b _ hb => hb).keep (Kept.below Oh.out)).keep (Kept.below rJ)).sub fun b hb _ => by omega⟩, ⟨_, _, cell_later rJ C0.out, cell_later rJ C1.out, (((HP.out.sub (T := fun b => b < w.heap.size) fun b _ hb => hb).keep (Kept.below Oh.out)).keep (Kept.below rJ)).sub fun b hb _ => by omega⟩, d5, C4.out.of_block (rJ.block _ (by have := Z5.out; omega)), fun j h1 h2 => by omega, by omega, by omega, by omega, by omega, by omega⟩
 have HF := aa hF
 have UB := aa XH
 clear UA hlv Od rJ d6 XH hF
 have sY := aa htb
 have DR := aa hcb
 have od := aa hrl
 clear htb hcb hrl HL C0 C1 C2 C3 C4 C5 HC HS HP
 go_wp2_with fail
 generalize (w6.alloc (.cells #[.slice lp (aj t.ns).length lc] 26)) = w7 at *
 generalize w6.heap.size = pL at *
 go_loopw [11] (fun i wr => ∃ (k : Nat) (V : Nat → Value), k ≤ t.ps.length ∧ i = .int .i64 ((k : Int) - 1) ∧ Hid (ze wr t st cs (w.heap.size + 1 + 1) pL (w.heap.size + 1) w.heap.size (w.heap.size + 1 + 1 + 1 + 1) (w.heap.size + 1 + 1 + 1) V k) ∧ Hid (Below w.heap.size w wr)) (fun i _ => (intOf i + 1).toNat)
 case atStart => exact ⟨t.ps.length, _, Nat.le_refl _, by go_num, HF, UB⟩
 case round =>
  obtain ⟨k, V, hk, rfl, hF, hB⟩ := hrel
  rcases Nat.eq_zero_or_pos k with rfl | s5
  ·have Um := hF.out.cO
   go_wp2_with fail
   go_ret
   refine ⟨hB.out, _, rfl, V, ?_, ?_⟩
   ·refine ⟨some ⟨w.heap.size + 1 + 1 + 1, 0, none⟩, t.ps.length, by rw [show (nC t st cs).length = t.ps.length by simp [nC]]; rfl, by simp [nC], .inr ⟨_, 0, rfl, trivial, fun k hk => ?_⟩⟩
    rw [Nat.zero_add]; exact hF.out.row.cell (by simpa [nC] using hk)
   ·intro k hk
    have hk2 : k < t.ps.length := by simpa [nC] using hk
    have he : gl (nC t st cs) k = aP t st cs k := by simp [gl, nC, hk2]
    rw [he]; exact (hF.out.rows k (Nat.zero_le _) hk2).sub fun _ _ _ => trivial
  ·obtain ⟨j, rfl⟩ : ∃ j, k = j + 1 := ⟨k - 1, by omega⟩
   go_wp2_with fail
   refine (Xo wr t st cs _ _ _ _ _ _ V j (by omega) hF.out hn hm hm0 iz od.out DR.out sY.out gO).mono ?_
   rintro e w8 ⟨rfl, hg, v, hr, hv⟩
   have hF2 := aa (hF.out.step hg hr hv)
   have hB2 := aa (hB.out.grown hg hB.out.size fun k e => by cases e <;> omega)
   clear hg hr hv
   go_wp2_with fail
   go_roundw
   case rel => exact ⟨j, _, by omega, by go_num, hF2, hB2⟩
   case measure => simp [intOf]
end
section
open Go.RowKit Go.Deep
theorem Tryz.Oi : (Tryz.prog.info? 4).map (fun i => (i.zero, i.size, i.bytes)) = some (some (.bool false), 1, 1) := by kernel_rfl
theorem Ge (c : Nat) : (97 ≤ c ∧ c ≤ 122) ∨ (65 ≤ c ∧ c ≤ 90) ∨ (48 ≤ c ∧ c ≤ 57) ∨ c = 94 ∨ c = 126 ∨ c = 37 ∨ c = 39 ∨ c = 32 ∨ c = 46 ∨ c = 44 ∨ c = 59 ∨ c = 58 ∨ c = 33 ∨ c = 63 ∨ c = 40 ∨ c = 41 ∨ c = 45 ∨
  ((c < 97 ∨ 122 < c) ∧ (c < 65 ∨ 90 < c) ∧ (c < 48 ∨ 57 < c) ∧ c ≠ 94 ∧ c ≠ 126 ∧ c ≠ 37 ∧ c ≠ 39 ∧ c ≠ 32 ∧ c ≠ 46 ∧ c ≠ 44 ∧ c ≠ 59 ∧ c ≠ 58 ∧ c ≠ 33 ∧ c ≠ 63 ∧ c ≠ 40 ∧ c ≠ 41 ∧ c ≠ 45) := by omega
def rK (c : Nat) (w : World) (e : Ending) (w' : World) : Prop := e = .returned (.int .i64 (cW c)) ∧ w = w'
theorem kp {c : Nat} {n : Int} {w : World} (h : n = cW c) : rK c w (.returned (.int .i64 n)) w := ⟨by rw [h], rfl⟩
set_option maxHeartbeats 400000 in
theorem cZ (c : Nat) (h : c ∈ [94, 126, 37, 39, 32, 46, 44, 59, 58, 33, 63, 40, 41, 45]) (w : World) : Calls Tryz.prog 249 #[.int .u8 c] w (rK c w) := by
 simp only [List.mem_cons, List.not_mem_nil, or_false] at h
 rcases h with rfl | rfl | rfl | rfl | rfl | rfl | rfl | rfl | rfl | rfl | rfl | rfl | rfl | rfl
 all_goals
  go_enter Tryz.func249, Tryz.ntmps249
  go_wp2
  go_ret
  exact kp rfl
set_option maxHeartbeats 400000 in
theorem Rn (c : Nat) (HK : Hid (cW c = 0)) (hc : c < 256) (h : c < 48 ∨ (57 < c ∧ c < 65) ∨ (90 < c ∧ c < 97) ∨ 122 < c) (XI : ((c : Int) == 94) = false) (Ro : ((c : Int) == 126) = false) (XJ : ((c : Int) == 37) = false) (e39 : ((c : Int) == 39) = false) (e32 : ((c : Int) == 32) = false) (e46 : ((c : Int) == 46) = false) (e44 : ((c : Int) == 44) = false) (e59 : ((c : Int) == 59) = false) (e58 : ((c : Int) == 58) = false) (e33 : ((c : Int) == 33) = false) (e63 : ((c : Int) == 63) = false) (e40 : ((c : Int) == 40) = false) (e41 : ((c : Int) == 41) = false) (e45 : ((c : Int) == 45) = false) (w : World) : Calls Tryz.prog 249 #[.int .u8 c] w (rK c w) := by
 rcases h with h1 | ⟨h1, h2⟩ | ⟨h1, h2⟩ | h1
 all_goals
  go_enter Tryz.func249, Tryz.ntmps249
  go_wp2
  go_ret
  exact kp HK.out.symm
theorem J5 (c : Nat) (hc : c < 256) (h1 : c < 97 ∨ 122 < c) (h2 : c < 65 ∨ 90 < c) (h3 : c < 48 ∨ 57 < c) (n94 : c ≠ 94) (n126 : c ≠ 126) (n37 : c ≠ 37) (n39 : c ≠ 39) (n32 : c ≠ 32) (n46 : c ≠ 46) (n44 : c ≠ 44) (n59 : c ≠ 59) (n58 : c ≠ 58) (n33 : c ≠ 33) (n63 : c ≠ 63) (n40 : c ≠ 40) (n41 : c ≠ 41) (n45 : c ≠ 45) (w : World) : Calls Tryz.prog 249 #[.int .u8 c] w (rK c w) := by
 have hk : cW c = 0 := by
  unfold cW isLet vA
  rw [if_neg (by simp; omega), if_neg (by omega), if_neg (by omega), if_neg n39, if_neg n32, if_neg (by simp; omega)]
 have XI : ((c : Int) == 94) = false := by rw [beq_eq_false_iff_ne]; omega
 have Ro : ((c : Int) == 126) = false := by rw [beq_eq_false_iff_ne]; omega
 have XJ : ((c : Int) == 37) = false := by rw [beq_eq_false_iff_ne]; omega
 have e39 : ((c : Int) == 39) = false := by rw [beq_eq_false_iff_ne]; omega
 have e32 : ((c : Int) == 32) = false := by rw [beq_eq_false_iff_ne]; omega
 have e46 : ((c : Int) == 46) = false := by rw [beq_eq_false_iff_ne]; omega
 have e44 : ((c : Int) == 44) = false := by rw [beq_eq_false_iff_ne]; omega
 have e59 : ((c : Int) == 59) = false := by rw [beq_eq_false_iff_ne]; omega
 have e58 : ((c : Int) == 58) = false := by rw [beq_eq_false_iff_ne]; omega
 have e33 : ((c : Int) == 33) = false := by rw [beq_eq_false_iff_ne]; omega
 have e63 : ((c : Int) == 63) = false := by rw [beq_eq_false_iff_ne]; omega
 have e40 : ((c : Int) == 40) = false := by rw [beq_eq_false_iff_ne]; omega
 have e41 : ((c : Int) == 41) = false := by rw [beq_eq_false_iff_ne]; omega
 have e45 : ((c : Int) == 45) = false := by rw [beq_eq_false_iff_ne]; omega
 exact Rn c hk hc (by omega) XI Ro XJ e39 e32 e46 e44 e59 e58 e33 e63 e40 e41 e45 w
set_option maxHeartbeats 400000 in
theorem tS (c : Nat) (hc : c < 256) (h : (97 ≤ c ∧ c ≤ 122) ∨ (65 ≤ c ∧ c ≤ 90) ∨ (48 ≤ c ∧ c ≤ 57)) (w : World) : Calls Tryz.prog 249 #[.int .u8 c] w (rK c w) := by
 rcases h with ⟨h1, h2⟩ | ⟨h1, h2⟩ | ⟨h1, h2⟩
 ·have hk : cW c = 1 := by unfold cW isLet; rw [if_pos (by simp; omega)]
  have HK := aa hk
  clear hk
  go_enter Tryz.func249, Tryz.ntmps249
  go_wp2
  go_ret
  exact kp HK.out.symm
 ·have hk : cW c = 1 := by unfold cW isLet; rw [if_pos (by simp; omega)]
  have HK := aa hk
  clear hk
  go_enter Tryz.func249, Tryz.ntmps249
  go_wp2
  go_ret
  exact kp HK.out.symm
 ·have hk : cW c = 3 := by unfold cW isLet; rw [if_neg (by simp; omega), if_neg (by omega), if_pos (by omega)]
  have HK := aa hk
  clear hk
  have XI : ((c : Int) == 94) = false := by rw [beq_eq_false_iff_ne]; omega
  have Ro : ((c : Int) == 126) = false := by rw [beq_eq_false_iff_ne]; omega
  have XJ : ((c : Int) == 37) = false := by rw [beq_eq_false_iff_ne]; omega
  go_enter Tryz.func249, Tryz.ntmps249
  go_wp2
  go_ret
  exact kp HK.out.symm
theorem q8 (c : Nat) (hc : c < 256) (w : World) : Calls Tryz.prog 249 #[.int .u8 c] w fun e w' => e = .returned (.int .i64 (cW c)) ∧ w = w' := by
 have h := Ge c
 rcases h with h | h | h | h | h | h | h | h | h | h | h | h | h | h | h | h | h | ⟨h1, h2, h3, n94, n126, n37, n39, n32, n46, n44, n59, n58, n33, n63, n40, n41, n45⟩
 ·exact tS c hc (.inl h) w
 ·exact tS c hc (.inr (.inl h)) w
 ·exact tS c hc (.inr (.inr h)) w
 ·exact cZ c (by rw [h]; decide) w
 ·exact cZ c (by rw [h]; decide) w
 ·exact cZ c (by rw [h]; decide) w
 ·exact cZ c (by rw [h]; decide) w
 ·exact cZ c (by rw [h]; decide) w
 ·exact cZ c (by rw [h]; decide) w
 ·exact cZ c (by rw [h]; decide) w
 ·exact cZ c (by rw [h]; decide) w
 ·exact cZ c (by rw [h]; decide) w
 ·exact cZ c (by rw [h]; decide) w
 ·exact cZ c (by rw [h]; decide) w
 ·exact cZ c (by rw [h]; decide) w
 ·exact cZ c (by rw [h]; decide) w
 ·exact cZ c (by rw [h]; decide) w
 ·exact J5 c hc h1 h2 h3 n94 n126 n37 n39 n32 n46 n44 n59 n58 n33 n63 n40 n41 n45 w
set_option maxHeartbeats 400000 in
theorem Mi (s : ByteArray) (hs : s.size ≤ 70000) (w : World) : Calls Tryz.prog 200 #[.string s] w fun e w' => e = .returned (.int .i64 (jA s.data.toList)) ∧ w = w' := by
 go_enter Tryz.func200, Tryz.ntmps200
 go_wp2
 go_loop [3, 4, 5] (fun n i _ => ∃ k : Nat, k ≤ s.size ∧ i = .int .i64 k ∧ n = .int .i64 (jA (s.data.toList.take k))) (fun _ i _ => s.size - (intOf i).toNat)
 case atStart => exact ⟨0, Nat.zero_le _, rfl, rfl⟩
 case round =>
  obtain ⟨k, hk, rfl, rfl⟩ := hrel
  have hb : jA (s.data.toList.take k) ≤ 70000 := Nat.le_trans (CO _) (by simp; omega)
  by_cases hlt : k < s.size
  ·have hst := xJ s k hlt
   have hk' := rC s[k]
   have hc : s[k].toNat < 256 := s[k].toNat_lt
   generalize hm : jA (s.data.toList.take k) = m at *
   have HS := aa hst
   have HK := aa hk'
   clear hst hm hk'
   go_wp2_with (go_at_call 249; refine (q8 _ hc _).mono ?_; rintro e w' ⟨rfl, rfl⟩; generalize cW _ = q at *)
   all_goals
    go_round
    case rel => exact ⟨k + 1, by omega, by go_num, by rw [HS.out]; first | (rw [if_pos (HK.out.1 (by first | omega | (simp only [beq_iff_eq] at *; omega)))]; go_num) | (rw [if_neg (fun h => by have := HK.out.2 h; simp only [beq_eq_false_iff_ne, ne_eq] at *; omega)]; go_num)⟩
    case measure => simp [intOf]; omega
  ·go_wp2
   go_ret
   exact ⟨aI (by rw [List.take_of_length_le (by simp; omega)]), rfl⟩
end
section
open Go.RowKit Go.Deep
def Up (w w' : World) : Prop := Below w.heap.size w w'
theorem Up.refl (w : World) : Up w w := Below.refl _ _
theorem Up.trans {a b c : World} (h : Up a b) (k : Up b c) : Up a c := Below.trans h (Below.mono k h.size)
theorem Up.alloc (w : World) (o : Obj) : Up w (w.alloc o) := (Below.refl _ _).alloc (Nat.le_refl _) _
theorem Up.drewN (w : World) (n : Nat) : Up w (w.drewN n) := below_drewN (Below.refl _ _) n
theorem Up.kept {w w' : World} (h : Up w w') (S : Nat → Prop) : Kept S w w' := Kept.below h
theorem Up.size {w w' : World} (h : Up w w') : w.heap.size ≤ w'.heap.size := Below.size h
theorem Up.cell {w w' : World} (h : Up w w') {p : Addr} {v : Value} (hc : w.cell? p = some v) : w'.cell? p = some v := by
 obtain ⟨b, o, i⟩ := p
 have hl : b < w.heap.size := World.block_lt_of_cell? w _ hc
 rw [Below.cell h (p := ⟨b, o, i⟩) hl]; exact hc
theorem dW (w : World) (P N : Value) (T : TypeId) : (w.alloc (.cells #[P, N] T)).cell? ⟨w.heap.size, 0, none⟩ = some P := by simp [World.cell?_alloc_new]
theorem eu (w : World) (P N : Value) (T : TypeId) : (w.alloc (.cells #[P, N] T)).cell? ⟨w.heap.size, 1, none⟩ = some N := by simp [World.cell?_alloc_new]
theorem xP (w : World) (P : Value) (T : TypeId) : (w.alloc (.cells #[P] T)).cell? ⟨w.heap.size, 0, none⟩ = some P := by simp [World.cell?_alloc_new]
theorem VP (S : Nat → Prop) (w : World) (v vs vc : Value) (t : ay) (st : List Int) (cs : List (List Int)) (hT : aA S w v t) (hS : aq S w vs st) (hC : aU S w vc cs)
  (hz : ∀ k, (gs t.ns k).size ≤ 70000) (hv : Valid t st cs) : Calls Tryz.prog 170 #[v, vs, vc] w (BB w (nC t st cs)) := by
 obtain ⟨h1, h2, h3, hok, hn⟩ := aD hv.tree
 obtain ⟨m1, m2, m3, m4, m5⟩ := pG hv.NR
 have hl := tR t.ns
 exact VO S w v vs vc t st cs hT hS hC hv.tree (by omega) hz h2 m2 m1 (Nat.le_of_eq hv.len.symm) m3 m4 (fun j s hj => hv.tb j s hj) (by omega)
theorem eR {S : Nat → Prop} {w : World} {v : Value} {xs : List (List Int)} (h : aU S w v xs) : ∃ p cap, v = .slice p xs.length cap ∧ xs.length ≤ cap ∧
  ∀ k, k < xs.length → ∃ b off q c, p = some ⟨b, off, none⟩ ∧ w.cell? ⟨b, off + k, none⟩ = some (.slice q (gl xs k).length c) ∧ aq S w (.slice q (gl xs k).length c) (gl xs k) := by
 obtain ⟨f, gN, hr⟩ := h
 obtain ⟨p, cap, rfl, hcap, H⟩ := aB.open gN
 refine ⟨p, cap, rfl, hcap, fun k hk => ?_⟩
 obtain ⟨b, off, rfl, hc⟩ := H k hk
 have h1 := hr k hk
 obtain ⟨q, c, e, _, _⟩ := aB.open h1
 rw [e] at hc h1
 exact ⟨b, off, q, c, rfl, hc, h1⟩
theorem cK {S : Nat → Prop} {w : World} {p : Option Addr} {n cap : Nat} {xs : List Int} (h : aq S w (.slice p n cap) xs) {k : Nat} (hk : k < xs.length) : ∃ b off, p = some ⟨b, off, none⟩ ∧ w.cell? ⟨b, off + k, none⟩ = some (.int .i64 (gi xs k)) := by
 obtain ⟨q, c, e, _, H⟩ := aB.open h
 injection e with e1
 subst e1
 exact H k hk
theorem bz {S : Nat → Prop} {w : World} {p : Option Addr} {n cap : Nat} {xs : List ByteArray} (h : ah S w (.slice p n cap) xs) {k : Nat} (hk : k < xs.length) : ∃ b off, p = some ⟨b, off, none⟩ ∧ w.cell? ⟨b, off + k, none⟩ = some (.string (gs xs k)) := by
 obtain ⟨q, c, e, _, H⟩ := aB.open h
 injection e with e1
 subst e1
 exact H k hk
theorem iL {S : Nat → Prop} {w : World} {p : Option Addr} {n cap : Nat} {xs : List (List Int)} (h : aU S w (.slice p n cap) xs) {k : Nat} (hk : k < xs.length) :
  ∃ b off q c, p = some ⟨b, off, none⟩ ∧ w.cell? ⟨b, off + k, none⟩ = some (.slice q (gl xs k).length c) ∧ aq S w (.slice q (gl xs k).length c) (gl xs k) := by
 obtain ⟨q, c, e, _, H⟩ := eR h
 injection e with e1
 subst e1
 exact H k hk
theorem VQ (t : ay) (st : List Int) (cs : List (List Int)) {k : Nat} (hk : k < t.ps.length) : gl (nC t st cs) k = aP t st cs k := by simp [gl, nC, hk]
theorem Gf (t : ay) (st : List Int) (cs : List (List Int)) : (nC t st cs).length = t.ps.length := by simp [nC]
end
section
open Go.RowKit Go.Deep
def XK (w : World) (n : Nat) (e : Ending) (w' : World) : Prop := Below w.heap.size w w' ∧ ∃ v, ∃ bs : List Bool, e = .returned v ∧ bs.length = n ∧ aB Any w' v n (fun k => .bool (gb bs k))
theorem aC.bools {base : Nat} {e : TypeId} {w : World} {v : Value} {xs : List Bool} (h : aC base e w v (xs.map Value.bool)) : aB (fun b => base ≤ b) w v xs.length (fun k => .bool (gb xs k)) := by
 have := h.Au
 rw [List.length_map] at this
 exact this.congr fun k hk => by simp [gb, hk]
theorem aB.at0 {S : Nat → Prop} {w : World} {b n cap : Nat} {f : Nat → Value} {o : Nat} (h : aB S w (.slice (some ⟨b, o, none⟩) n cap) n f) {k : Nat} (hk : k < n) : w.cell? ⟨b, o + k, none⟩ = some (f k) := by
 obtain ⟨p, c, e, _, H⟩ := h.open
 cases e
 obtain ⟨b', o', e', hc⟩ := H k hk
 cases e'
 exact hc
theorem aC.form {base : Nat} {e : TypeId} {w : World} {v : Value} {vs : List Value} {n : Nat} (h : aC base e w v vs) (hn : vs.length = n) : ∃ p cap, v = .slice p n cap ∧ (p = none ∨ ∃ g, p = some ⟨g, 0, none⟩) := by
 subst hn
 rcases h.2 with ⟨rfl, h0⟩ | ⟨g, cap, cur, rfl, _⟩
 ·exact ⟨none, 0, by rw [h0], .inl rfl⟩
 ·exact ⟨_, cap, rfl, .inr ⟨g, rfl⟩⟩
theorem aC.made (w : World) (e : TypeId) : aC w.heap.size e (w.alloc (.cells #[] e)) (.slice (some ⟨w.heap.size, 0, none⟩) 0 0) [] := World.ownsRow_made w #[] 0 (Nat.le_refl _) (by unfold maxLen; omega) (by simp)
set_option maxHeartbeats 400000 in
theorem VR (s : ByteArray) (hs : s.size ≤ 1000) (w : World) : Calls Tryz.prog 275 #[.string s] w (XK w s.size) := by
 go_enter Tryz.func275, Tryz.ntmps275
 go_wp2
 go_loopw [3, 4] (fun v i wr => ∃ k : Nat, ∃ bs : List Bool, k ≤ s.size ∧ i = .int .i64 k ∧ bs.length = k ∧ aC w.heap.size 4 wr v (bs.map .bool) ∧ Below w.heap.size w wr) (fun _ i _ => s.size - (intOf i).toNat)
 case atStart => exact ⟨0, [], Nat.zero_le _, rfl, rfl, aC.made _ _, (Below.refl _ _).alloc (Nat.le_refl _) _⟩
 case round =>
  obtain ⟨k, bs, hk, rfl, hbl, hown, hbr⟩ := hrel
  have hsz := hbr.size
  have xQ := aa hbl
  by_cases hlt : k < s.size
  ·have dQ : Hid ((bs.map Value.bool).length ≤ 1000000) := by unfold Hid; rw [List.length_map]; omega
   clear hbl
   rcases Nat.eq_zero_or_pos k with rfl | s5
   ·go_wp2_with (first | (go_at_call 249; refine (q8 _ (UInt8.toNat_lt _) _).mono ?_; rintro e w' ⟨rfl, rfl⟩; generalize cW _ = q at *) | (at_builtin; refine l9 wr rfl _ _ 163 rfl w.heap.size 4 _ 1 Tryz.underlying163 Tryz.Oi rfl (by decide) hown rfl _ rfl rfl dQ.out hsz ?_; intro g cap w2 hown1 hg1 hb1))
    all_goals
     go_roundw
     case rel => exact ⟨1, bs ++ [_], by omega, by go_num, by rw [List.length_append, xQ.out]; rfl, by rw [List.map_append]; rw [List.length_map] at hown1; exact hown1, hbr.trans hb1⟩
     case measure => simp [intOf]; omega
   ·have gN := hown.bools
    obtain ⟨p, cap, rfl, hp⟩ := hown.form (n := k) (by rw [List.length_map]; exact xQ.out)
    rw [xQ.out] at gN
    obtain ⟨p', cap', e', hcap', H⟩ := gN.open
    cases e'
    obtain ⟨b, off, rfl, hc⟩ := H (k - 1) (by have := xQ.out; omega)
    clear H gN hp
    go_wp2_with (first | (go_at_call 249; refine (q8 _ (UInt8.toNat_lt _) _).mono ?_; rintro e w' ⟨rfl, rfl⟩; generalize cW _ = q at *) | (at_builtin; refine l9 wr rfl _ _ 163 rfl w.heap.size 4 _ 1 Tryz.underlying163 Tryz.Oi rfl (by decide) hown rfl _ rfl rfl dQ.out hsz ?_; intro g cap w2 hown1 hg1 hb1))
    all_goals
     go_roundw
     case rel => exact ⟨k + 1, bs ++ [_], by omega, by go_num, by rw [List.length_append, xQ.out]; rfl, by rw [List.map_append]; rw [List.length_map] at hown1; exact hown1, hbr.trans hb1⟩
     case measure => simp [intOf]; omega
  ·obtain rfl : k = s.size := by omega
   clear hlt hk hbl
   go_wp2
   go_ret
   exact ⟨hbr, _, bs, rfl, xQ.out, (by rw [← xQ.out]; exact hown.bools.sub fun _ _ _ => trivial)⟩
end
section
open Go.RowKit Go.Deep
theorem aC.set {base : Nat} {e : TypeId} {w : World} {v : Value} {vs : List Value} (h : aC base e w v vs) {j : Nat} (hj : j < vs.length) :
  ∃ g cap, v = .slice (some ⟨g, 0, none⟩) vs.length cap ∧ base ≤ g ∧ g < w.heap.size ∧ w.cell? ⟨g, j, none⟩ = some (vs.getD j undef) ∧ w.frozen? ⟨g, j, none⟩ = false ∧ ∀ x, aC base e (w.setCell ⟨g, j, none⟩ x) v (vs.set j x) := by
 obtain ⟨hl, h | ⟨g, cap, cur, rfl, hg, hc, hn, hcm, hcs, ht⟩⟩ := h
 ·omega
 ·have zM : g < w.heap.size := (Array.getElem?_eq_some_iff.1 hc).1
  have ht1 : cur.toList.take vs.length = vs := by rw [Nat.mul_one] at ht; exact ht
  have hj2 : j < cur.size := by omega
  have hcell : cur[j]? = some (vs.getD j undef) := by
   have h1 : vs[j]? = some (vs.getD j undef) := by simp [hj]
   rw [← h1]
   have h2 := congrArg (·[j]?) ht1
   simp only [List.getElem?_take, hj, if_true] at h2
   rw [← h2]; simp
  refine ⟨g, cap, rfl, hg, zM, by simp [World.cell?, hc, hcell], by simp [World.frozen?, hc], fun x => ⟨by simp, .inr ⟨g, cap, cur.setIfInBounds j x, by simp, hg, ?_, by simpa using hn, hcm, by simpa using hcs, ?_⟩⟩⟩
  ·simp [World.setCell, Array.getElem?_modify, hc]
  ·rw [List.length_set, Nat.mul_one, Array.toList_setIfInBounds, List.take_set, ht1]
theorem aF {base : Nat} {e : TypeId} {w : World} {v : Value} {vs : List Value} (h : aC base e w v vs) {b : Nat} (hb : v.ownBlock = some b) : base ≤ b ∧ b < w.heap.size := World.ownsRow.lt h b hb
theorem VS {l : List Int} {m : Nat} (h : m < l.length) : l.take (m + 1) = l.take m ++ [gi l m] := by
 rw [List.take_succ_eq_append_getElem h]; simp [gi, h]
section
variable {P : Program} {ops : Array Oper} {rest : List Oper} {o : Oper} {a : Act} {Q : Exit → Act → World → Prop}
theorem tT (W : World) (hgd : o.guard = none) (s x : Operand) (t : TypeId) (ho : o.op = .call { callee := .builtin .append, args := #[s, x], argTypes := #[t, t] })
  (base : Nat) (e : TypeId) (z : Value) (bytes : Nat) (ht : P.underlying t = some (.slice e)) (hinfo : (P.info? e).map (fun i => (i.zero, i.size, i.bytes)) = some (some z, 1, bytes))
  (hz1 : z.cells.size = 1) (mg : bytes ≤ 64) {v : Value} {vs : List Value} (hown : aC base e W v vs) (hs : a.eval s = v) (u : Value)
  (hx : a.eval x = .slice (some ⟨W.heap.size, 0, none⟩) 1 1) (h1 : u.oneCell' = true) (n : Nat) (zN : vs.length = n) (hn : n ≤ 1000000) (hbase : base ≤ W.heap.size)
  (h : ∀ g cap w', aC base e w' (.slice (some ⟨g, 0, none⟩) (n + 1) cap) (vs ++ [u]) → W.grownBy w' v.ownBlock → Below base W w' → wpList P ops Q rest (a.put o.dst (.slice (some ⟨g, 0, none⟩) (n + 1) cap)) w') :
  wpList P ops Q (o :: rest) a (W.alloc (.cells #[u] e)) := by
 subst zN
 exact l9 W hgd s x t ho base e z bytes ht hinfo hz1 mg hown hs u hx h1 hn hbase h
end
end
end Go.Proofs.YthgabkgmkolobaaGreat
