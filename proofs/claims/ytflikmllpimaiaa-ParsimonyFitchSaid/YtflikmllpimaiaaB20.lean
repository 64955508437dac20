/- The contract of parsimony.table. -/
import Derived.Test.YtflikmllpimaiaaB18
namespace Go.Proofs.Ytflikmllpimaiaa
open Go.RowKit Go.Deep
theorem Try.infoSI : (Try.prog.info? 22).map (fun i => (i.zero, i.size, i.bytes)) = some (some (.slice none 0 0), 1, 24) := by kernel_rfl
theorem cell_at_new (W : World) (cs : Array Value) (t : TypeId) (k : Nat) : (W.alloc (.cells cs t)).cell? ⟨W.heap.size, k, none⟩ = cs[k]? := by
  unfold World.cell?; rw [World.alloc_heap_new]; rfl
theorem cell_of_box_new (W : World) (v : Value) (t : TypeId) : (W.alloc (.cells #[v] t)).cell? ⟨W.heap.size, 0, none⟩ = some v := cell_at_new W _ t 0
theorem FillW.step {w w' : World} {t : Tre} {st : List Int} {cs : List (List Int)} {pC pL pS pT pO ob : Nat} {V : Nat → Value} {j : Nat} {v : Value} (h : FillW w t st cs pC pL pS pT pO ob V (j + 1))
    (hg : w.grownBy w' (some ob)) (hr : w'.rowIs ob 22 t.ps.length (fun x => if x = j then v else V x)) (hv : IntsAt (· ≠ ob) w' v (tabRow t st cs j)) : FillW w' t st cs pC pL pS pT pO ob (fun x => if x = j then v else V x) j := by
  have hk : Kept (· ≠ ob) w w' := fun b hb hl => hg.block b hl (by simp; exact hb)
  have hc : ∀ {p o : Nat} {x : Value}, p ≠ ob → w.cell? ⟨p, o, none⟩ = some x → w'.cell? ⟨p, o, none⟩ = some x := fun hp hx => hg.cell hx (by simp; exact hp)
  obtain ⟨n1, n2, n3, n4, n5⟩ := h.ne
  obtain ⟨C, a1, a2⟩ := h.cC
  obtain ⟨L, b1, b2⟩ := h.cL
  obtain ⟨Q, c1, c2⟩ := h.cS
  obtain ⟨P, N, d1, d2, d3⟩ := h.cT
  refine ⟨⟨C, hc n1 a1, a2.keep hk⟩, ⟨L, hc n2 b1, b2.keep hk⟩, ⟨Q, hc n3 c1, c2.keep hk⟩, ⟨P, N, hc n4 d1, hc n4 d2, d3.keep hk⟩, hc n5 h.cO, hr, fun x h1 h2 => ?_, h.ne⟩
  by_cases e : x = j
  · subst e; simp only [if_true]; exact hv
  · simp only [e, if_false]; exact (h.rows x (by omega) h2).keep hk
def tabL (t : Tre) (st : List Int) (cs : List (List Int)) : List (List Int) := (List.range t.ps.length).map (tabRow t st cs)
def TbPost (w : World) (l : List (List Int)) (e : Ending) (w' : World) : Prop := Below w.heap.size w w' ∧ ∃ v, e = .returned v ∧ RowsAt Any w' v l
set_option maxRecDepth 100000 in
set_option maxHeartbeats 800000 in
theorem table_t (S : Nat → Prop) (w : World) (v vs vc : Value) (t : Tre) (st : List Int) (cs : List (List Int)) (hT : TreeAt S w v t) (hS : IntsAt S w vs st) (hC : RowsAt S w vc cs)
    (he : treeErr t = 0) (hn1 : t.ns.length ≤ 64) (hz : ∀ k, (gs t.ns k).size ≤ 70000)
    (hn : t.ps.length ≤ 64) (hm : cs.length ≤ 16) (hm0 : 0 < cs.length) (hll : (leavesL t.ns).length ≤ st.length) (hrl : ∀ a, a < cs.length → (gl cs a).length = cs.length) (hcb : ∀ a k, 0 ≤ gi (gl cs a) k ∧ gi (gl cs a) k ≤ 1000)
    (htb : ∀ j s, j < t.ps.length → -1 ≤ gi (tabRow t st cs j) s ∧ gi (tabRow t st cs j) s ≤ 100000) (hln : (leavesL t.ns).length ≤ 64) :
    Calls Try.prog 51 #[v, vs, vc] w (TbPost w (tabL t st cs)) := by
  obtain ⟨P, N, rfl, hP, hN⟩ := hT
  obtain ⟨p, cap, rfl, hcap, HPP⟩ := SlAt.open hP
  obtain ⟨qS, capS, rfl, _, _⟩ := SlAt.open hS
  obtain ⟨fC, hslC, hrowC⟩ := hC
  obtain ⟨qC, capC, rfl, _, _⟩ := SlAt.open hslC
  have hC : RowsAt S w (.slice qC cs.length capC) cs := ⟨fC, hslC, hrowC⟩
  clear hslC hrowC
  have hmk := fun W => run_make_row' (P := Try.prog) 26 22 (.slice none 0 0) 24 Try.underlying26 Try.infoSI rfl .i64 .i64 t.ps.length (by omega) (by omega) W
  have hb5 : Below w.heap.size w (((((w.alloc (.cells #[.slice p t.ps.length cap, N] 25)).alloc (.cells #[.slice qS st.length capS] 22)).alloc (.cells #[.slice qC cs.length capC] 26)).alloc (.cells (madeCells #[.slice none 0 0] t.ps.length) 22)).alloc (.cells #[.slice (some ⟨w.heap.size + 1 + 1 + 1, 0, none⟩) t.ps.length t.ps.length] 26)) := (((((Below.refl _ w).alloc (Nat.le_refl _) _).alloc (by simp) _).alloc (by simp; omega) _).alloc (by simp; omega) _).alloc (by simp; omega) _
  have hT5 : TreeAt S (((((w.alloc (.cells #[.slice p t.ps.length cap, N] 25)).alloc (.cells #[.slice qS st.length capS] 22)).alloc (.cells #[.slice qC cs.length capC] 26)).alloc (.cells (madeCells #[.slice none 0 0] t.ps.length) 22)).alloc (.cells #[.slice (some ⟨w.heap.size + 1 + 1 + 1, 0, none⟩) t.ps.length t.ps.length] 26)) (.agg #[.slice p t.ps.length cap, N]) t := TreeAt.keep ⟨_, _, rfl, hP, hN⟩ (Kept.below hb5)
  have hb35 : Below (((w.alloc (.cells #[.slice p t.ps.length cap, N] 25)).alloc (.cells #[.slice qS st.length capS] 22)).alloc (.cells #[.slice qC cs.length capC] 26)).heap.size (((w.alloc (.cells #[.slice p t.ps.length cap, N] 25)).alloc (.cells #[.slice qS st.length capS] 22)).alloc (.cells #[.slice qC cs.length capC] 26)) (((((w.alloc (.cells #[.slice p t.ps.length cap, N] 25)).alloc (.cells #[.slice qS st.length capS] 22)).alloc (.cells #[.slice qC cs.length capC] 26)).alloc (.cells (madeCells #[.slice none 0 0] t.ps.length) 22)).alloc (.cells #[.slice (some ⟨w.heap.size + 1 + 1 + 1, 0, none⟩) t.ps.length t.ps.length] 26)) := ((Below.refl _ _).alloc (Nat.le_refl _) _).alloc (by simp) _
  have hb12 : Below (w.alloc (.cells #[.slice p t.ps.length cap, N] 25)).heap.size (w.alloc (.cells #[.slice p t.ps.length cap, N] 25)) (((w.alloc (.cells #[.slice p t.ps.length cap, N] 25)).alloc (.cells #[.slice qS st.length capS] 22)).alloc (.cells #[.slice qC cs.length capC] 26)) := ((Below.refl _ _).alloc (Nat.le_refl _) _).alloc (by simp) _
  have hb23 : Below ((w.alloc (.cells #[.slice p t.ps.length cap, N] 25)).alloc (.cells #[.slice qS st.length capS] 22)).heap.size ((w.alloc (.cells #[.slice p t.ps.length cap, N] 25)).alloc (.cells #[.slice qS st.length capS] 22)) (((w.alloc (.cells #[.slice p t.ps.length cap, N] 25)).alloc (.cells #[.slice qS st.length capS] 22)).alloc (.cells #[.slice qC cs.length capC] 26)) := (Below.refl _ _).alloc (Nat.le_refl _) _
  have c0 := cell_later hb35 (cell_later hb12 (cell_at_new w #[.slice p t.ps.length cap, N] 25 0))
  have c1 := cell_later hb35 (cell_later hb12 (cell_at_new w #[.slice p t.ps.length cap, N] 25 1))
  have c2 := cell_later hb35 (cell_later hb23 (cell_of_box_new (w.alloc (.cells #[.slice p t.ps.length cap, N] 25)) (.slice qS st.length capS) 22))
  have c3 := cell_later hb35 (cell_of_box_new ((w.alloc (.cells #[.slice p t.ps.length cap, N] 25)).alloc (.cells #[.slice qS st.length capS] 22)) (.slice qC cs.length capC) 26)
  simp only [World.size_alloc] at c2 c3
  have c4 : (((((w.alloc (.cells #[.slice p t.ps.length cap, N] 25)).alloc (.cells #[.slice qS st.length capS] 22)).alloc (.cells #[.slice qC cs.length capC] 26)).alloc (.cells (madeCells #[.slice none 0 0] t.ps.length) 22)).alloc (.cells #[.slice (some ⟨w.heap.size + 1 + 1 + 1, 0, none⟩) t.ps.length t.ps.length] 26)).rowIs (w.heap.size + 1 + 1 + 1) 22 t.ps.length (fun _ => .slice none 0 0) := by
    have h := World.rowIs_made (((w.alloc (.cells #[.slice p t.ps.length cap, N] 25)).alloc (.cells #[.slice qS st.length capS] 22)).alloc (.cells #[.slice qC cs.length capC] 26)) (.slice none 0 0) t.ps.length 22
    simp only [World.size_alloc] at h
    exact h.alloc _
  have c5 : (((((w.alloc (.cells #[.slice p t.ps.length cap, N] 25)).alloc (.cells #[.slice qS st.length capS] 22)).alloc (.cells #[.slice qC cs.length capC] 26)).alloc (.cells (madeCells #[.slice none 0 0] t.ps.length) 22)).alloc (.cells #[.slice (some ⟨w.heap.size + 1 + 1 + 1, 0, none⟩) t.ps.length t.ps.length] 26)).cell? ⟨w.heap.size + 1 + 1 + 1 + 1, 0, none⟩ = some (.slice (some ⟨w.heap.size + 1 + 1 + 1, 0, none⟩) t.ps.length t.ps.length) := by
    have h := (cell_of_box_new ((((w.alloc (.cells #[.slice p t.ps.length cap, N] 25)).alloc (.cells #[.slice qS st.length capS] 22)).alloc (.cells #[.slice qC cs.length capC] 26)).alloc (.cells (madeCells #[.slice none 0 0] t.ps.length) 22)) (.slice (some ⟨w.heap.size + 1 + 1 + 1, 0, none⟩) t.ps.length t.ps.length) 26)
    simpa only [World.size_alloc] using h
  have z5 : (((((w.alloc (.cells #[.slice p t.ps.length cap, N] 25)).alloc (.cells #[.slice qS st.length capS] 22)).alloc (.cells #[.slice qC cs.length capC] 26)).alloc (.cells (madeCells #[.slice none 0 0] t.ps.length) 22)).alloc (.cells #[.slice (some ⟨w.heap.size + 1 + 1 + 1, 0, none⟩) t.ps.length t.ps.length] 26)).heap.size = w.heap.size + 5 := by simp
  have hL := leaves_t S _ _ t hT5 (by omega) (by omega) hz
  have HL := Lib.hid hL
  have HB5 := Lib.hid hb5
  have C0 := Lib.hid c0
  have C1 := Lib.hid c1
  have C2 := Lib.hid c2
  have C3 := Lib.hid c3
  have C4 := Lib.hid c4
  have C5 := Lib.hid c5
  have Z5 := Lib.hid z5
  have HC := Lib.hid hC
  have HS := Lib.hid hS
  have HP := Lib.hid hP
  clear HPP hb35 hb12 hb23 hb5 hT5 c0 c1 c2 c3 c4 c5 z5 hL hC hS hP hN hz
  go_enter Try.func51, Try.ntmps51
  go_wp2_with fail
  generalize (((((w.alloc (.cells #[.slice p t.ps.length cap, N] 25)).alloc (.cells #[.slice qS st.length capS] 22)).alloc (.cells #[.slice qC cs.length capC] 26)).alloc (.cells (madeCells #[.slice none 0 0] t.ps.length) 22)).alloc (.cells #[.slice (some ⟨w.heap.size + 1 + 1 + 1, 0, none⟩) t.ps.length t.ps.length] 26)) = w5 at *
  clear hmk
  refine HL.out.mono ?_
  rintro e w6 ⟨hb6, ⟨h1, _⟩ | ⟨_, lv, rfl, hlv⟩⟩
  · exact absurd he h1
  obtain ⟨lp, lc, rfl, _, _⟩ := SlAt.open hlv
  have hb7 : Below w6.heap.size w6 (w6.alloc (.cells #[.slice lp (leavesL t.ns).length lc] 22)) := (Below.refl _ _).alloc (Nat.le_refl _) _
  have hb57 : Below w5.heap.size w5 (w6.alloc (.cells #[.slice lp (leavesL t.ns).length lc] 22)) := hb6.trans (hb7.mono hb6.size)
  have d5 := cell_later hb57 C5.out
  have d6 := cell_of_box_new w6 (.slice lp (leavesL t.ns).length lc) 22
  have hbw7 : Below w.heap.size w (w6.alloc (.cells #[.slice lp (leavesL t.ns).length lc] 22)) := HB5.out.trans (hb57.mono HB5.out.size)
  have z6 : w.heap.size + 5 ≤ w6.heap.size := by have := Z5.out; have := hb6.size; omega
  have hF : FillW (w6.alloc (.cells #[.slice lp (leavesL t.ns).length lc] 22)) t st cs (w.heap.size + 1 + 1) w6.heap.size (w.heap.size + 1) w.heap.size (w.heap.size + 1 + 1 + 1 + 1) (w.heap.size + 1 + 1 + 1) (fun _ => .slice none 0 0) t.ps.length :=
    ⟨⟨_, cell_later hb57 C3.out, (((HC.out.sub (T := fun b => b < w.heap.size) fun b _ hb => hb).keep (Kept.below HB5.out)).keep (Kept.below hb57)).sub fun b hb _ => by omega⟩,
      ⟨_, d6, (hlv.keep (Kept.below hb7)).sub fun b hb _ => by have := Z5.out; omega⟩,
      ⟨_, cell_later hb57 C2.out, (((HS.out.sub (T := fun b => b < w.heap.size) fun b _ hb => hb).keep (Kept.below HB5.out)).keep (Kept.below hb57)).sub fun b hb _ => by omega⟩, ⟨_, _, cell_later hb57 C0.out, cell_later hb57 C1.out, (((HP.out.sub (T := fun b => b < w.heap.size) fun b _ hb => hb).keep (Kept.below HB5.out)).keep (Kept.below hb57)).sub fun b hb _ => by omega⟩, d5, C4.out.of_block (hb57.block _ (by have := Z5.out; omega)), fun j h1 h2 => by omega, by omega, by omega, by omega, by omega, by omega⟩
  have HF := Lib.hid hF
  have HBW := Lib.hid hbw7
  clear hb6 hlv hb7 hb57 d6 hbw7 hF
  have HTB := Lib.hid htb
  have HCB := Lib.hid hcb
  have HRL := Lib.hid hrl
  clear htb hcb hrl HL C0 C1 C2 C3 C4 C5 HC HS HP
  go_wp2_with fail
  generalize (w6.alloc (.cells #[.slice lp (leavesL t.ns).length lc] 22)) = w7 at *
  generalize w6.heap.size = pL at *
  go_loopw [11] (fun i wr => ∃ (k : Nat) (V : Nat → Value), k ≤ t.ps.length ∧ i = .int .i64 ((k : Int) - 1) ∧ Hid (FillW wr t st cs (w.heap.size + 1 + 1) pL (w.heap.size + 1) w.heap.size (w.heap.size + 1 + 1 + 1 + 1) (w.heap.size + 1 + 1 + 1) V k) ∧ Hid (Below w.heap.size w wr)) (fun i _ => (intOf i + 1).toNat)
  case atStart => exact ⟨t.ps.length, _, Nat.le_refl _, by go_num, HF, HBW⟩
  case round =>
    obtain ⟨k, V, hk, rfl, hF, hB⟩ := hrel
    rcases Nat.eq_zero_or_pos k with rfl | hk0
    · have hcO := hF.out.cO
      go_wp2_with fail
      go_ret
      refine ⟨hB.out, _, rfl, V, ?_, ?_⟩
      · refine ⟨some ⟨w.heap.size + 1 + 1 + 1, 0, none⟩, t.ps.length, by rw [show (tabL t st cs).length = t.ps.length by simp [tabL]]; rfl, by simp [tabL], .inr ⟨_, 0, rfl, trivial, fun k hk => ?_⟩⟩
        rw [Nat.zero_add]; exact hF.out.row.cell (by simpa [tabL] using hk)
      · intro k hk
        have hk2 : k < t.ps.length := by simpa [tabL] using hk
        have he : gl (tabL t st cs) k = tabRow t st cs k := by simp [gl, tabL, hk2]
        rw [he]; exact (hF.out.rows k (Nat.zero_le _) hk2).sub fun _ _ _ => trivial
    · obtain ⟨j, rfl⟩ : ∃ j, k = j + 1 := ⟨k - 1, by omega⟩
      go_wp2_with fail
      refine (fill_t wr t st cs _ _ _ _ _ _ V j (by omega) hF.out hn hm hm0 hll HRL.out HCB.out HTB.out hln).mono ?_
      rintro e w8 ⟨rfl, hg, v, hr, hv⟩
      have hF2 := Lib.hid (hF.out.step hg hr hv)
      have hB2 := Lib.hid (hB.out.grown hg hB.out.size fun k e => by cases e <;> omega)
      clear hg hr hv
      go_wp2_with fail
      go_roundw
      case rel => exact ⟨j, _, by omega, by go_num, hF2, hB2⟩
      case measure => simp [intOf]
end Go.Proofs.Ytflikmllpimaiaa
