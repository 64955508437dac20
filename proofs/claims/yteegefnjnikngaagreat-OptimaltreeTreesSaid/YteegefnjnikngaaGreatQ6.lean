/- The contract of parsimony.table. Names, as layer 1's and layer 31's references have them. .. -/
import Derived.Test.YteegefnjnikngaaGreatQ5
import Derived.Test.YteegefnjnikngaaGreatQ2
import Derived.Test.YteegefnjnikngaaGreatQ3
import Derived.Test.YteegefnjnikngaaGreatQ1
import Derived.StillTail
import Derived.Test.YteegefnjnikngaaGreatQ4
set_option maxRecDepth 100000
namespace Go.Proofs.YteegefnjnikngaaGreat
section
open Go.RowKit Go.Deep
theorem Tryz.J2 : (Tryz.prog.info? 26).map (fun i => (i.zero, i.size, i.bytes)) = some (some (.slice none 0 0), 1, 24) := by kernel_rfl
theorem aK (W : World) (cs : Array Value) (t : TypeId) (k : Nat) : (W.alloc (.cells cs t)).cell? ⟨W.heap.size, k, none⟩ = cs[k]? := by
 unfold World.cell?; rw [World.alloc_heap_new]; rfl
theorem iY (W : World) (v : Value) (t : TypeId) : (W.alloc (.cells #[v] t)).cell? ⟨W.heap.size, 0, none⟩ = some v := aK W _ t 0
theorem vA.step {w w' : World} {t : av} {st : List Int} {cs : List (List Int)} {pC pL pS pT pO ob : Nat} {V : Nat → Value} {j : Nat} {v : Value} (h : vA w t st cs pC pL pS pT pO ob V (j + 1))
  (hg : w.grownBy w' (some ob)) (hr : w'.rowIs ob 26 t.ps.length (fun x => if x = j then v else V x)) (hv : ax (· ≠ ob) w' v (aN t st cs j)) : vA w' t st cs pC pL pS pT pO ob (fun x => if x = j then v else V x) j := by
 have hk : Kept (· ≠ ob) w w' := fun b hb hl => hg.block b hl (by simp; exact hb)
 have hc : ∀ {p o : Nat} {x : Value}, p ≠ ob → w.cell? ⟨p, o, none⟩ = some x → w'.cell? ⟨p, o, none⟩ = some x := fun hp hx => hg.cell hx (by simp; exact hp)
 obtain ⟨n1, n2, n3, n4, n5⟩ := h.ne
 obtain ⟨C, a1, a2⟩ := h.cC
 obtain ⟨L, b1, b2⟩ := h.cL
 obtain ⟨Q, c1, c2⟩ := h.cS
 obtain ⟨P, N, d1, d2, d3⟩ := h.cT
 refine ⟨⟨C, hc n1 a1, a2.keep hk⟩, ⟨L, hc n2 b1, b2.keep hk⟩, ⟨Q, hc n3 c1, c2.keep hk⟩, ⟨P, N, hc n4 d1, hc n4 d2, d3.keep hk⟩, hc n5 h.cO, hr, fun x h1 h2 => ?_, h.ne⟩
 by_cases e : x = j
 ·subst e; simp only [if_true]; exact hv
 ·simp only [e, if_false]; exact (h.rows x (by omega) h2).keep hk
def k7 (t : av) (st : List Int) (cs : List (List Int)) : List (List Int) := (List.range t.ps.length).map (aN t st cs)
def yt (w : World) (l : List (List Int)) (e : Ending) (w' : World) : Prop := Below w.heap.size w w' ∧ ∃ v, e = .returned v ∧ aX Any w' v l
set_option maxHeartbeats 800000 in
theorem QH (S : Nat → Prop) (w : World) (v vs vc : Value) (t : av) (st : List Int) (cs : List (List Int)) (hT : ay S w v t) (hS : ax S w vs st) (hC : aX S w vc cs)
  (he : aB t = 0) (Sy : t.ns.length ≤ 64) (hz : ∀ k, (gs t.ns k).size ≤ 70000)
  (hn : t.ps.length ≤ 64) (hm : cs.length ≤ 16) (hm0 : 0 < cs.length) (mN : (aC t.ns).length ≤ st.length) (hrl : ∀ a, a < cs.length → (gl cs a).length = cs.length) (hcb : ∀ a k, 0 ≤ gi (gl cs a) k ∧ gi (gl cs a) k ≤ 1000)
  (htb : ∀ j s, j < t.ps.length → -1 ≤ gi (aN t st cs j) s ∧ gi (aN t st cs j) s ≤ 100000) (jK : (aC t.ns).length ≤ 64) :
  Calls Tryz.prog 183 #[v, vs, vc] w (yt w (k7 t st cs)) := by
 obtain ⟨P, N, rfl, hP, hN⟩ := hT
 obtain ⟨p, cap, rfl, hcap, tq⟩ := aA.open hP
 obtain ⟨qS, iR, rfl, _, _⟩ := aA.open hS
 obtain ⟨fC, xu, yh⟩ := hC
 obtain ⟨qC, iA, rfl, _, _⟩ := aA.open xu
 have hC : aX S w (.slice qC cs.length iA) cs := ⟨fC, xu, yh⟩
 clear xu yh
 have hmk := fun W => run_make_row' (P := Tryz.prog) 23 26 (.slice none 0 0) 24 Tryz.underlying23 Tryz.J2 rfl .i64 .i64 t.ps.length (by omega) (by omega) W
 have k6 : Below w.heap.size w (((((w.alloc (.cells #[.slice p t.ps.length cap, N] 39)).alloc (.cells #[.slice qS st.length iR] 26)).alloc (.cells #[.slice qC cs.length iA] 23)).alloc (.cells (madeCells #[.slice none 0 0] t.ps.length) 26)).alloc (.cells #[.slice (some ⟨w.heap.size + 1 + 1 + 1, 0, none⟩) t.ps.length t.ps.length] 23)) := (((((Below.refl _ w).alloc (Nat.le_refl _) _).alloc (by simp) _).alloc (by simp; omega) _).alloc (by simp; omega) _).alloc (by simp; omega) _
 have AB : ay S (((((w.alloc (.cells #[.slice p t.ps.length cap, N] 39)).alloc (.cells #[.slice qS st.length iR] 26)).alloc (.cells #[.slice qC cs.length iA] 23)).alloc (.cells (madeCells #[.slice none 0 0] t.ps.length) 26)).alloc (.cells #[.slice (some ⟨w.heap.size + 1 + 1 + 1, 0, none⟩) t.ps.length t.ps.length] 23)) (.agg #[.slice p t.ps.length cap, N]) t := ay.keep ⟨_, _, rfl, hP, hN⟩ (Kept.below k6)
 have CT : Below (((w.alloc (.cells #[.slice p t.ps.length cap, N] 39)).alloc (.cells #[.slice qS st.length iR] 26)).alloc (.cells #[.slice qC cs.length iA] 23)).heap.size (((w.alloc (.cells #[.slice p t.ps.length cap, N] 39)).alloc (.cells #[.slice qS st.length iR] 26)).alloc (.cells #[.slice qC cs.length iA] 23)) (((((w.alloc (.cells #[.slice p t.ps.length cap, N] 39)).alloc (.cells #[.slice qS st.length iR] 26)).alloc (.cells #[.slice qC cs.length iA] 23)).alloc (.cells (madeCells #[.slice none 0 0] t.ps.length) 26)).alloc (.cells #[.slice (some ⟨w.heap.size + 1 + 1 + 1, 0, none⟩) t.ps.length t.ps.length] 23)) := ((Below.refl _ _).alloc (Nat.le_refl _) _).alloc (by simp) _
 have MK : Below (w.alloc (.cells #[.slice p t.ps.length cap, N] 39)).heap.size (w.alloc (.cells #[.slice p t.ps.length cap, N] 39)) (((w.alloc (.cells #[.slice p t.ps.length cap, N] 39)).alloc (.cells #[.slice qS st.length iR] 26)).alloc (.cells #[.slice qC cs.length iA] 23)) := ((Below.refl _ _).alloc (Nat.le_refl _) _).alloc (by simp) _
 have Sz : Below ((w.alloc (.cells #[.slice p t.ps.length cap, N] 39)).alloc (.cells #[.slice qS st.length iR] 26)).heap.size ((w.alloc (.cells #[.slice p t.ps.length cap, N] 39)).alloc (.cells #[.slice qS st.length iR] 26)) (((w.alloc (.cells #[.slice p t.ps.length cap, N] 39)).alloc (.cells #[.slice qS st.length iR] 26)).alloc (.cells #[.slice qC cs.length iA] 23)) := (Below.refl _ _).alloc (Nat.le_refl _) _
 have c0 := cell_later CT (cell_later MK (aK w #[.slice p t.ps.length cap, N] 39 0))
 have c1 := cell_later CT (cell_later MK (aK w #[.slice p t.ps.length cap, N] 39 1))
 have c2 := cell_later CT (cell_later Sz (iY (w.alloc (.cells #[.slice p t.ps.length cap, N] 39)) (.slice qS st.length iR) 26))
 have c3 := cell_later CT (iY ((w.alloc (.cells #[.slice p t.ps.length cap, N] 39)).alloc (.cells #[.slice qS st.length iR] 26)) (.slice qC cs.length iA) 23)
 simp only [World.size_alloc] at c2 c3
 have c4 : (((((w.alloc (.cells #[.slice p t.ps.length cap, N] 39)).alloc (.cells #[.slice qS st.length iR] 26)).alloc (.cells #[.slice qC cs.length iA] 23)).alloc (.cells (madeCells #[.slice none 0 0] t.ps.length) 26)).alloc (.cells #[.slice (some ⟨w.heap.size + 1 + 1 + 1, 0, none⟩) t.ps.length t.ps.length] 23)).rowIs (w.heap.size + 1 + 1 + 1) 26 t.ps.length (fun _ => .slice none 0 0) := by
  have h := World.rowIs_made (((w.alloc (.cells #[.slice p t.ps.length cap, N] 39)).alloc (.cells #[.slice qS st.length iR] 26)).alloc (.cells #[.slice qC cs.length iA] 23)) (.slice none 0 0) t.ps.length 26
  simp only [World.size_alloc] at h
  exact h.alloc _
 have c5 : (((((w.alloc (.cells #[.slice p t.ps.length cap, N] 39)).alloc (.cells #[.slice qS st.length iR] 26)).alloc (.cells #[.slice qC cs.length iA] 23)).alloc (.cells (madeCells #[.slice none 0 0] t.ps.length) 26)).alloc (.cells #[.slice (some ⟨w.heap.size + 1 + 1 + 1, 0, none⟩) t.ps.length t.ps.length] 23)).cell? ⟨w.heap.size + 1 + 1 + 1 + 1, 0, none⟩ = some (.slice (some ⟨w.heap.size + 1 + 1 + 1, 0, none⟩) t.ps.length t.ps.length) := by
  have h := (iY ((((w.alloc (.cells #[.slice p t.ps.length cap, N] 39)).alloc (.cells #[.slice qS st.length iR] 26)).alloc (.cells #[.slice qC cs.length iA] 23)).alloc (.cells (madeCells #[.slice none 0 0] t.ps.length) 26)) (.slice (some ⟨w.heap.size + 1 + 1 + 1, 0, none⟩) t.ps.length t.ps.length) 23)
  simpa only [World.size_alloc] using h
 have z5 : (((((w.alloc (.cells #[.slice p t.ps.length cap, N] 39)).alloc (.cells #[.slice qS st.length iR] 26)).alloc (.cells #[.slice qC cs.length iA] 23)).alloc (.cells (madeCells #[.slice none 0 0] t.ps.length) 26)).alloc (.cells #[.slice (some ⟨w.heap.size + 1 + 1 + 1, 0, none⟩) t.ps.length t.ps.length] 23)).heap.size = w.heap.size + 5 := by simp
 have hL := xq S _ _ t AB (by omega) (by omega) hz
 have HL := aa hL
 have J3 := aa k6
 have C0 := aa c0
 have C1 := aa c1
 have C2 := aa c2
 have C3 := aa c3
 have C4 := aa c4
 have C5 := aa c5
 have Z5 := aa z5
 have HC := aa hC
 have HS := aa hS
 have HP := aa hP
 clear tq CT MK Sz k6 AB c0 c1 c2 c3 c4 c5 z5 hL hC hS hP hN hz
 go_enter Tryz.func183, Tryz.ntmps183
 go_wp2_with fail
 generalize (((((w.alloc (.cells #[.slice p t.ps.length cap, N] 39)).alloc (.cells #[.slice qS st.length iR] 26)).alloc (.cells #[.slice qC cs.length iA] 23)).alloc (.cells (madeCells #[.slice none 0 0] t.ps.length) 26)).alloc (.cells #[.slice (some ⟨w.heap.size + 1 + 1 + 1, 0, none⟩) t.ps.length t.ps.length] 23)) = w5 at *
 clear hmk
 refine HL.out.mono ?_
 rintro e w6 ⟨Ph, ⟨h1, _⟩ | ⟨_, lv, rfl, hlv⟩⟩
 ·exact absurd he h1
 obtain ⟨lp, lc, rfl, _, _⟩ := aA.open hlv
 have JZ : Below w6.heap.size w6 (w6.alloc (.cells #[.slice lp (aC t.ns).length lc] 26)) := (Below.refl _ _).alloc (Nat.le_refl _) _
 have oD : Below w5.heap.size w5 (w6.alloc (.cells #[.slice lp (aC t.ns).length lc] 26)) := Ph.trans (JZ.mono Ph.size)
 have d5 := cell_later oD C5.out
 have d6 := iY w6 (.slice lp (aC t.ns).length lc) 26
 have SA : Below w.heap.size w (w6.alloc (.cells #[.slice lp (aC t.ns).length lc] 26)) := J3.out.trans (oD.mono J3.out.size)
 have z6 : w.heap.size + 5 ≤ w6.heap.size := by have := Z5.out; have := Ph.size; omega
 have hF : vA (w6.alloc (.cells #[.slice lp (aC t.ns).length lc] 26)) t st cs (w.heap.size + 1 + 1) w6.heap.size (w.heap.size + 1) w.heap.size (w.heap.size + 1 + 1 + 1 + 1) (w.heap.size + 1 + 1 + 1) (fun _ => .slice none 0 0) t.ps.length :=
  ⟨⟨_, cell_later oD C3.out, (((HC.out.sub (T := fun b => b < w.heap.size) fun b _ hb => hb).keep (Kept.below J3.out)).keep (Kept.below oD)).sub fun b hb _ => by omega⟩,
   ⟨_, d6, (hlv.keep (Kept.below JZ)).sub fun b hb _ => by have := Z5.out; omega⟩,
   ⟨_, cell_later oD C2.out, (((HS.out.sub (T := fun b => b < w.heap.size) fun b _ hb => hb).keep (Kept.below J3.out)).keep (Kept.below oD)).sub fun b hb _ => by omega⟩, ⟨_, _, cell_later oD C0.out, cell_later oD C1.out, (((HP.out.sub (T := fun b => b < w.heap.size) fun b _ hb => hb).keep (Kept.below J3.out)).keep (Kept.below oD)).sub fun b hb _ => by omega⟩, d5, C4.out.of_block (oD.block _ (by have := Z5.out; omega)), fun j h1 h2 => by omega, by omega, by omega, by omega, by omega, by omega⟩
 have HF := aa hF
 have HBW := aa SA
 clear Ph hlv JZ oD d6 SA hF
 have yj := aa htb
 have Av := aa hcb
 have lV := aa hrl
 clear htb hcb hrl HL C0 C1 C2 C3 C4 C5 HC HS HP
 go_wp2_with fail
 generalize (w6.alloc (.cells #[.slice lp (aC t.ns).length lc] 26)) = w7 at *
 generalize w6.heap.size = pL at *
 go_loopw [11] (fun i wr => ∃ (k : Nat) (V : Nat → Value), k ≤ t.ps.length ∧ i = .int .i64 ((k : Int) - 1) ∧ Hid (vA wr t st cs (w.heap.size + 1 + 1) pL (w.heap.size + 1) w.heap.size (w.heap.size + 1 + 1 + 1 + 1) (w.heap.size + 1 + 1 + 1) V k) ∧ Hid (Below w.heap.size w wr)) (fun i _ => (intOf i + 1).toNat)
 case atStart => exact ⟨t.ps.length, _, Nat.le_refl _, by go_num, HF, HBW⟩
 case round =>
  obtain ⟨k, V, hk, rfl, hF, hB⟩ := hrel
  rcases Nat.eq_zero_or_pos k with rfl | qd
  ·have O4 := hF.out.cO
   go_wp2_with fail
   go_ret
   refine ⟨hB.out, _, rfl, V, ?_, ?_⟩
   ·refine ⟨some ⟨w.heap.size + 1 + 1 + 1, 0, none⟩, t.ps.length, by rw [show (k7 t st cs).length = t.ps.length by simp [k7]]; rfl, by simp [k7], .inr ⟨_, 0, rfl, trivial, fun k hk => ?_⟩⟩
    rw [Nat.zero_add]; exact hF.out.row.cell (by simpa [k7] using hk)
   ·intro k hk
    have hk2 : k < t.ps.length := by simpa [k7] using hk
    have he : gl (k7 t st cs) k = aN t st cs k := by simp [gl, k7, hk2]
    rw [he]; exact (hF.out.rows k (Nat.zero_le _) hk2).sub fun _ _ _ => trivial
  ·obtain ⟨j, rfl⟩ : ∃ j, k = j + 1 := ⟨k - 1, by omega⟩
   go_wp2_with fail
   refine (Sc wr t st cs _ _ _ _ _ _ V j (by omega) hF.out hn hm hm0 mN lV.out Av.out yj.out jK).mono ?_
   rintro e w8 ⟨rfl, hg, v, hr, hv⟩
   have hF2 := aa (hF.out.step hg hr hv)
   have hB2 := aa (hB.out.grown hg hB.out.size fun k e => by cases e <;> omega)
   clear hg hr hv
   go_wp2_with fail
   go_roundw
   case rel => exact ⟨j, _, by omega, by go_num, hF2, hB2⟩
   case measure => simp [intOf]
end
section
open Go.RowKit Go.Deep
theorem Tryz.J4 : (Tryz.prog.info? 4).map (fun i => (i.zero, i.size, i.bytes)) = some (some (.bool false), 1, 1) := by kernel_rfl
theorem CU (c : Nat) : (97 ≤ c ∧ c ≤ 122) ∨ (65 ≤ c ∧ c ≤ 90) ∨ (48 ≤ c ∧ c ≤ 57) ∨ c = 94 ∨ c = 126 ∨ c = 37 ∨ c = 39 ∨ c = 32 ∨ c = 46 ∨ c = 44 ∨ c = 59 ∨ c = 58 ∨ c = 33 ∨ c = 63 ∨ c = 40 ∨ c = 41 ∨ c = 45 ∨
  ((c < 97 ∨ 122 < c) ∧ (c < 65 ∨ 90 < c) ∧ (c < 48 ∨ 57 < c) ∧ c ≠ 94 ∧ c ≠ 126 ∧ c ≠ 37 ∧ c ≠ 39 ∧ c ≠ 32 ∧ c ≠ 46 ∧ c ≠ 44 ∧ c ≠ 59 ∧ c ≠ 58 ∧ c ≠ 33 ∧ c ≠ 63 ∧ c ≠ 40 ∧ c ≠ 41 ∧ c ≠ 45) := by omega
def oF (c : Nat) (w : World) (e : Ending) (w' : World) : Prop := e = .returned (.int .i64 (cm c)) ∧ w = w'
theorem kp {c : Nat} {n : Int} {w : World} (h : n = cm c) : oF c w (.returned (.int .i64 n)) w := ⟨by rw [h], rfl⟩
set_option maxHeartbeats 400000 in
theorem ct (c : Nat) (h : c ∈ [94, 126, 37, 39, 32, 46, 44, 59, 58, 33, 63, 40, 41, 45]) (w : World) : Calls Tryz.prog 263 #[.int .u8 c] w (oF c w) := by
 simp only [List.mem_cons, List.not_mem_nil, or_false] at h
 rcases h with rfl | rfl | rfl | rfl | rfl | rfl | rfl | rfl | rfl | rfl | rfl | rfl | rfl | rfl
 all_goals
  go_enter Tryz.func263, Tryz.ntmps263
  go_wp2
  go_ret
  exact kp rfl
set_option maxHeartbeats 400000 in
theorem ML (c : Nat) (HK : Hid (cm c = 0)) (hc : c < 256) (h : c < 48 ∨ (57 < c ∧ c < 65) ∨ (90 < c ∧ c < 97) ∨ 122 < c) (SB : ((c : Int) == 94) = false) (MM : ((c : Int) == 126) = false) (SC : ((c : Int) == 37) = false) (e39 : ((c : Int) == 39) = false) (YM : ((c : Int) == 32) = false) (YN : ((c : Int) == 46) = false) (YO : ((c : Int) == 44) = false) (YP : ((c : Int) == 59) = false) (YQ : ((c : Int) == 58) = false) (YS : ((c : Int) == 33) = false) (YT : ((c : Int) == 63) = false) (YU : ((c : Int) == 40) = false) (YV : ((c : Int) == 41) = false) (YW : ((c : Int) == 45) = false) (w : World) : Calls Tryz.prog 263 #[.int .u8 c] w (oF c w) := by
 rcases h with h1 | ⟨h1, h2⟩ | ⟨h1, h2⟩ | h1
 all_goals
  go_enter Tryz.func263, Tryz.ntmps263
  go_wp2
  go_ret
  exact kp HK.out.symm
theorem FE (c : Nat) (hc : c < 256) (h1 : c < 97 ∨ 122 < c) (h2 : c < 65 ∨ 90 < c) (h3 : c < 48 ∨ 57 < c) (YX : c ≠ 94) (n126 : c ≠ 126) (n37 : c ≠ 37) (n39 : c ≠ 39) (n32 : c ≠ 32) (n46 : c ≠ 46) (n44 : c ≠ 44) (n59 : c ≠ 59) (YY : c ≠ 58) (n33 : c ≠ 33) (YZ : c ≠ 63) (n40 : c ≠ 40) (n41 : c ≠ 41) (n45 : c ≠ 45) (w : World) : Calls Tryz.prog 263 #[.int .u8 c] w (oF c w) := by
 have hk : cm c = 0 := by
  unfold cm isLet r7
  rw [if_neg (by simp; omega), if_neg (by omega), if_neg (by omega), if_neg n39, if_neg n32, if_neg (by simp; omega)]
 have SB : ((c : Int) == 94) = false := by rw [beq_eq_false_iff_ne]; omega
 have MM : ((c : Int) == 126) = false := by rw [beq_eq_false_iff_ne]; omega
 have SC : ((c : Int) == 37) = false := by rw [beq_eq_false_iff_ne]; omega
 have e39 : ((c : Int) == 39) = false := by rw [beq_eq_false_iff_ne]; omega
 have YM : ((c : Int) == 32) = false := by rw [beq_eq_false_iff_ne]; omega
 have YN : ((c : Int) == 46) = false := by rw [beq_eq_false_iff_ne]; omega
 have YO : ((c : Int) == 44) = false := by rw [beq_eq_false_iff_ne]; omega
 have YP : ((c : Int) == 59) = false := by rw [beq_eq_false_iff_ne]; omega
 have YQ : ((c : Int) == 58) = false := by rw [beq_eq_false_iff_ne]; omega
 have YS : ((c : Int) == 33) = false := by rw [beq_eq_false_iff_ne]; omega
 have YT : ((c : Int) == 63) = false := by rw [beq_eq_false_iff_ne]; omega
 have YU : ((c : Int) == 40) = false := by rw [beq_eq_false_iff_ne]; omega
 have YV : ((c : Int) == 41) = false := by rw [beq_eq_false_iff_ne]; omega
 have YW : ((c : Int) == 45) = false := by rw [beq_eq_false_iff_ne]; omega
 exact ML c hk hc (by omega) SB MM SC e39 YM YN YO YP YQ YS YT YU YV YW w
set_option maxHeartbeats 400000 in
theorem qM (c : Nat) (hc : c < 256) (h : (97 ≤ c ∧ c ≤ 122) ∨ (65 ≤ c ∧ c ≤ 90) ∨ (48 ≤ c ∧ c ≤ 57)) (w : World) : Calls Tryz.prog 263 #[.int .u8 c] w (oF c w) := by
 rcases h with ⟨h1, h2⟩ | ⟨h1, h2⟩ | ⟨h1, h2⟩
 ·have hk : cm c = 1 := by unfold cm isLet; rw [if_pos (by simp; omega)]
  have HK := aa hk
  clear hk
  go_enter Tryz.func263, Tryz.ntmps263
  go_wp2
  go_ret
  exact kp HK.out.symm
 ·have hk : cm c = 1 := by unfold cm isLet; rw [if_pos (by simp; omega)]
  have HK := aa hk
  clear hk
  go_enter Tryz.func263, Tryz.ntmps263
  go_wp2
  go_ret
  exact kp HK.out.symm
 ·have hk : cm c = 3 := by unfold cm isLet; rw [if_neg (by simp; omega), if_neg (by omega), if_pos (by omega)]
  have HK := aa hk
  clear hk
  have SB : ((c : Int) == 94) = false := by rw [beq_eq_false_iff_ne]; omega
  have MM : ((c : Int) == 126) = false := by rw [beq_eq_false_iff_ne]; omega
  have SC : ((c : Int) == 37) = false := by rw [beq_eq_false_iff_ne]; omega
  go_enter Tryz.func263, Tryz.ntmps263
  go_wp2
  go_ret
  exact kp HK.out.symm
theorem nY (c : Nat) (hc : c < 256) (w : World) : Calls Tryz.prog 263 #[.int .u8 c] w fun e w' => e = .returned (.int .i64 (cm c)) ∧ w = w' := by
 have h := CU c
 rcases h with h | h | h | h | h | h | h | h | h | h | h | h | h | h | h | h | h | ⟨h1, h2, h3, YX, n126, n37, n39, n32, n46, n44, n59, YY, n33, YZ, n40, n41, n45⟩
 ·exact qM c hc (.inl h) w
 ·exact qM c hc (.inr (.inl h)) w
 ·exact qM c hc (.inr (.inr h)) w
 ·exact ct c (by rw [h]; decide) w
 ·exact ct c (by rw [h]; decide) w
 ·exact ct c (by rw [h]; decide) w
 ·exact ct c (by rw [h]; decide) w
 ·exact ct c (by rw [h]; decide) w
 ·exact ct c (by rw [h]; decide) w
 ·exact ct c (by rw [h]; decide) w
 ·exact ct c (by rw [h]; decide) w
 ·exact ct c (by rw [h]; decide) w
 ·exact ct c (by rw [h]; decide) w
 ·exact ct c (by rw [h]; decide) w
 ·exact ct c (by rw [h]; decide) w
 ·exact ct c (by rw [h]; decide) w
 ·exact ct c (by rw [h]; decide) w
 ·exact FE c hc h1 h2 h3 YX n126 n37 n39 n32 n46 n44 n59 YY n33 YZ n40 n41 n45 w
set_option maxHeartbeats 400000 in
theorem Ia (s : ByteArray) (hs : s.size ≤ 70000) (w : World) : Calls Tryz.prog 217 #[.string s] w fun e w' => e = .returned (.int .i64 (iy s.data.toList)) ∧ w = w' := by
 go_enter Tryz.func217, Tryz.ntmps217
 go_wp2
 go_loop [3, 4, 5] (fun n i _ => ∃ k : Nat, k ≤ s.size ∧ i = .int .i64 k ∧ n = .int .i64 (iy (s.data.toList.take k))) (fun _ i _ => s.size - (intOf i).toNat)
 case atStart => exact ⟨0, Nat.zero_le _, rfl, rfl⟩
 case round =>
  obtain ⟨k, hk, rfl, rfl⟩ := hrel
  have hb : iy (s.data.toList.take k) ≤ 70000 := Nat.le_trans (zA _) (by simp; omega)
  by_cases hlt : k < s.size
  ·have hst := ua s k hlt
   have hk' := oy s[k]
   have hc : s[k].toNat < 256 := s[k].toNat_lt
   generalize hm : iy (s.data.toList.take k) = m at *
   have HS := aa hst
   have HK := aa hk'
   clear hst hm hk'
   go_wp2_with (go_at_call 263; refine (nY _ hc _).mono ?_; rintro e w' ⟨rfl, rfl⟩; generalize cm _ = q at *)
   all_goals
    go_round
    case rel => exact ⟨k + 1, by omega, by go_num, by rw [HS.out]; first | (rw [if_pos (HK.out.1 (by first | omega | (simp only [beq_iff_eq] at *; omega)))]; go_num) | (rw [if_neg (fun h => by have := HK.out.2 h; simp only [beq_eq_false_iff_ne, ne_eq] at *; omega)]; go_num)⟩
    case measure => simp [intOf]; omega
  ·go_wp2
   go_ret
   exact ⟨aH (by rw [List.take_of_length_le (by simp; omega)]), rfl⟩
end
section
open Go.RowKit Go.Deep
def Up (w w' : World) : Prop := Below w.heap.size w w'
theorem Up.refl (w : World) : Up w w := Below.refl _ _
theorem Up.trans {a b c : World} (h : Up a b) (k : Up b c) : Up a c := Below.trans h (Below.mono k h.size)
theorem Up.alloc (w : World) (o : Obj) : Up w (w.alloc o) := (Below.refl _ _).alloc (Nat.le_refl _) _
theorem Up.drewN (w : World) (n : Nat) : Up w (w.drewN n) := below_drewN (Below.refl _ _) n
theorem Up.kept {w w' : World} (h : Up w w') (S : Nat → Prop) : Kept S w w' := Kept.below h
theorem Up.size {w w' : World} (h : Up w w') : w.heap.size ≤ w'.heap.size := Below.size h
theorem Up.cell {w w' : World} (h : Up w w') {p : Addr} {v : Value} (hc : w.cell? p = some v) : w'.cell? p = some v := by
 obtain ⟨b, o, i⟩ := p
 have hl : b < w.heap.size := World.block_lt_of_cell? w _ hc
 rw [Below.cell h (p := ⟨b, o, i⟩) hl]; exact hc
theorem dO (w : World) (P N : Value) (T : TypeId) : (w.alloc (.cells #[P, N] T)).cell? ⟨w.heap.size, 0, none⟩ = some P := by simp [World.cell?_alloc_new]
theorem dP (w : World) (P N : Value) (T : TypeId) : (w.alloc (.cells #[P, N] T)).cell? ⟨w.heap.size, 1, none⟩ = some N := by simp [World.cell?_alloc_new]
theorem uh (w : World) (P : Value) (T : TypeId) : (w.alloc (.cells #[P] T)).cell? ⟨w.heap.size, 0, none⟩ = some P := by simp [World.cell?_alloc_new]
theorem QI (S : Nat → Prop) (w : World) (v vs vc : Value) (t : av) (st : List Int) (cs : List (List Int)) (hT : ay S w v t) (hS : ax S w vs st) (hC : aX S w vc cs)
  (hz : ∀ k, (gs t.ns k).size ≤ 70000) (hv : Valid t st cs) : Calls Tryz.prog 183 #[v, vs, vc] w (yt w (k7 t st cs)) := by
 obtain ⟨h1, h2, h3, hok, hn⟩ := aI hv.tree
 obtain ⟨m1, m2, m3, m4, m5⟩ := wu hv.R1
 have hl := qK t.ns
 exact QH S w v vs vc t st cs hT hS hC hv.tree (by omega) hz h2 m2 m1 (Nat.le_of_eq hv.len.symm) m3 m4 (fun j s hj => hv.tb j s hj) (by omega)
theorem eD {S : Nat → Prop} {w : World} {v : Value} {xs : List (List Int)} (h : aX S w v xs) : ∃ p cap, v = .slice p xs.length cap ∧ xs.length ≤ cap ∧
  ∀ k, k < xs.length → ∃ b off q c, p = some ⟨b, off, none⟩ ∧ w.cell? ⟨b, off + k, none⟩ = some (.slice q (gl xs k).length c) ∧ ax S w (.slice q (gl xs k).length c) (gl xs k) := by
 obtain ⟨f, fu, hr⟩ := h
 obtain ⟨p, cap, rfl, hcap, H⟩ := aA.open fu
 refine ⟨p, cap, rfl, hcap, fun k hk => ?_⟩
 obtain ⟨b, off, rfl, hc⟩ := H k hk
 have h1 := hr k hk
 obtain ⟨q, c, e, _, _⟩ := aA.open h1
 rw [e] at hc h1
 exact ⟨b, off, q, c, rfl, hc, h1⟩
theorem dQ {S : Nat → Prop} {w : World} {p : Option Addr} {n cap : Nat} {xs : List Int} (h : ax S w (.slice p n cap) xs) {k : Nat} (hk : k < xs.length) : ∃ b off, p = some ⟨b, off, none⟩ ∧ w.cell? ⟨b, off + k, none⟩ = some (.int .i64 (gi xs k)) := by
 obtain ⟨q, c, e, _, H⟩ := aA.open h
 injection e with e1
 subst e1
 exact H k hk
theorem bQ {S : Nat → Prop} {w : World} {p : Option Addr} {n cap : Nat} {xs : List ByteArray} (h : au S w (.slice p n cap) xs) {k : Nat} (hk : k < xs.length) : ∃ b off, p = some ⟨b, off, none⟩ ∧ w.cell? ⟨b, off + k, none⟩ = some (.string (gs xs k)) := by
 obtain ⟨q, c, e, _, H⟩ := aA.open h
 injection e with e1
 subst e1
 exact H k hk
theorem fA {S : Nat → Prop} {w : World} {p : Option Addr} {n cap : Nat} {xs : List (List Int)} (h : aX S w (.slice p n cap) xs) {k : Nat} (hk : k < xs.length) :
  ∃ b off q c, p = some ⟨b, off, none⟩ ∧ w.cell? ⟨b, off + k, none⟩ = some (.slice q (gl xs k).length c) ∧ ax S w (.slice q (gl xs k).length c) (gl xs k) := by
 obtain ⟨q, c, e, _, H⟩ := eD h
 injection e with e1
 subst e1
 exact H k hk
theorem QJ (t : av) (st : List Int) (cs : List (List Int)) {k : Nat} (hk : k < t.ps.length) : gl (k7 t st cs) k = aN t st cs k := by simp [gl, k7, hk]
theorem CV (t : av) (st : List Int) (cs : List (List Int)) : (k7 t st cs).length = t.ps.length := by simp [k7]
end
section
open Go.RowKit Go.Shelf Go.Deep
section
variable {F : Fence} {n : Nat} {P : Program} {C : World → Prop}
end
end
end Go.Proofs.YteegefnjnikngaaGreat
