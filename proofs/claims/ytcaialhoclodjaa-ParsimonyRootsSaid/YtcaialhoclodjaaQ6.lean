/- The contract of parsimony.table. The contracts of parsimony.Score and Table. The arguments of a law, opened; the frame of a law's proof. A region that draws its order, only reads, and ends in one operation that may write: by the walk in the order of the text. Names, as layer 1's and layer 31's references have them. -/
import Derived.Test.YtcaialhoclodjaaQ5
import Derived.Test.YtcaialhoclodjaaQ1
import Derived.Test.YtcaialhoclodjaaRows
import Derived.WalkKit
import Derived.ProofKit
import Derived.OpenShut
import Derived.ShutString
import Derived.ChangeOld
import Derived.Below
import Derived.Deep.Matrix
import Derived.Lib.SmallJoins
import Derived.StillTail
import Derived.Test.YtcaialhoclodjaaQ4
import Derived.Test.YtcaialhoclodjaaQ2
import Derived.Test.YtcaialhoclodjaaQ3
namespace Go.Proofs.Ytcaialhoclodjaa
open Go.RowKit Go.Deep
theorem Try.infoSI : (Try.prog.info? 22).map (fun i => (i.zero, i.size, i.bytes)) = some (some (.slice none 0 0), 1, 24) := by kernel_rfl
theorem cell_at_new (W : World) (cs : Array Value) (t : TypeId) (k : Nat) : (W.alloc (.cells cs t)).cell? ⟨W.heap.size, k, none⟩ = cs[k]? := by
  unfold World.cell?; rw [World.alloc_heap_new]; rfl
theorem cell_of_box_new (W : World) (v : Value) (t : TypeId) : (W.alloc (.cells #[v] t)).cell? ⟨W.heap.size, 0, none⟩ = some v := cell_at_new W _ t 0
theorem FillW.step {w w' : World} {t : Tre} {st : List Int} {cs : List (List Int)} {pC pL pS pT pO ob : Nat} {V : Nat → Value} {j : Nat} {v : Value} (h : FillW w t st cs pC pL pS pT pO ob V (j + 1))
    (hg : w.grownBy w' (some ob)) (hr : w'.rowIs ob 22 t.ps.length (fun x => if x = j then v else V x)) (hv : IntsAt (· ≠ ob) w' v (tabRow t st cs j)) : FillW w' t st cs pC pL pS pT pO ob (fun x => if x = j then v else V x) j := by
  have hk : Kept (· ≠ ob) w w' := fun b hb hl => hg.block b hl (by simp; exact hb)
  have hc : ∀ {p o : Nat} {x : Value}, p ≠ ob → w.cell? ⟨p, o, none⟩ = some x → w'.cell? ⟨p, o, none⟩ = some x := fun hp hx => hg.cell hx (by simp; exact hp)
  obtain ⟨n1, n2, n3, n4, n5⟩ := h.ne
  obtain ⟨C, a1, a2⟩ := h.cC
  obtain ⟨L, b1, b2⟩ := h.cL
  obtain ⟨Q, c1, c2⟩ := h.cS
  obtain ⟨P, N, d1, d2, d3⟩ := h.cT
  refine ⟨⟨C, hc n1 a1, a2.keep hk⟩, ⟨L, hc n2 b1, b2.keep hk⟩, ⟨Q, hc n3 c1, c2.keep hk⟩, ⟨P, N, hc n4 d1, hc n4 d2, d3.keep hk⟩, hc n5 h.cO, hr, fun x h1 h2 => ?_, h.ne⟩
  by_cases e : x = j
  · subst e; simp only [if_true]; exact hv
  · simp only [e, if_false]; exact (h.rows x (by omega) h2).keep hk
def tabL (t : Tre) (st : List Int) (cs : List (List Int)) : List (List Int) := (List.range t.ps.length).map (tabRow t st cs)
def TbPost (w : World) (l : List (List Int)) (e : Ending) (w' : World) : Prop := Below w.heap.size w w' ∧ ∃ v, e = .returned v ∧ RowsAt Any w' v l
set_option maxRecDepth 100000 in
set_option maxHeartbeats 800000 in
theorem table_t (S : Nat → Prop) (w : World) (v vs vc : Value) (t : Tre) (st : List Int) (cs : List (List Int)) (hT : TreeAt S w v t) (hS : IntsAt S w vs st) (hC : RowsAt S w vc cs)
    (he : treeErr t = 0) (hn1 : t.ns.length ≤ 64) (hz : ∀ k, (gs t.ns k).size ≤ 70000)
    (hn : t.ps.length ≤ 64) (hm : cs.length ≤ 16) (hm0 : 0 < cs.length) (hll : (leavesL t.ns).length ≤ st.length) (hrl : ∀ a, a < cs.length → (gl cs a).length = cs.length) (hcb : ∀ a k, 0 ≤ gi (gl cs a) k ∧ gi (gl cs a) k ≤ 1000)
    (htb : ∀ j s, j < t.ps.length → -1 ≤ gi (tabRow t st cs j) s ∧ gi (tabRow t st cs j) s ≤ 100000) (hln : (leavesL t.ns).length ≤ 64) :
    Calls Try.prog 47 #[v, vs, vc] w (TbPost w (tabL t st cs)) := by
  obtain ⟨P, N, rfl, hP, hN⟩ := hT
  obtain ⟨p, cap, rfl, hcap, HPP⟩ := SlAt.open hP
  obtain ⟨qS, capS, rfl, _, _⟩ := SlAt.open hS
  obtain ⟨fC, hslC, hrowC⟩ := hC
  obtain ⟨qC, capC, rfl, _, _⟩ := SlAt.open hslC
  have hC : RowsAt S w (.slice qC cs.length capC) cs := ⟨fC, hslC, hrowC⟩
  clear hslC hrowC
  have hmk := fun W => run_make_row' (P := Try.prog) 26 22 (.slice none 0 0) 24 Try.underlying26 Try.infoSI rfl .i64 .i64 t.ps.length (by omega) (by omega) W
  have hb5 : Below w.heap.size w (((((w.alloc (.cells #[.slice p t.ps.length cap, N] 25)).alloc (.cells #[.slice qS st.length capS] 22)).alloc (.cells #[.slice qC cs.length capC] 26)).alloc (.cells (madeCells #[.slice none 0 0] t.ps.length) 22)).alloc (.cells #[.slice (some ⟨w.heap.size + 1 + 1 + 1, 0, none⟩) t.ps.length t.ps.length] 26)) := (((((Below.refl _ w).alloc (Nat.le_refl _) _).alloc (by simp) _).alloc (by simp; omega) _).alloc (by simp; omega) _).alloc (by simp; omega) _
  have hT5 : TreeAt S (((((w.alloc (.cells #[.slice p t.ps.length cap, N] 25)).alloc (.cells #[.slice qS st.length capS] 22)).alloc (.cells #[.slice qC cs.length capC] 26)).alloc (.cells (madeCells #[.slice none 0 0] t.ps.length) 22)).alloc (.cells #[.slice (some ⟨w.heap.size + 1 + 1 + 1, 0, none⟩) t.ps.length t.ps.length] 26)) (.agg #[.slice p t.ps.length cap, N]) t := TreeAt.keep ⟨_, _, rfl, hP, hN⟩ (Kept.below hb5)
  have hb35 : Below (((w.alloc (.cells #[.slice p t.ps.length cap, N] 25)).alloc (.cells #[.slice qS st.length capS] 22)).alloc (.cells #[.slice qC cs.length capC] 26)).heap.size (((w.alloc (.cells #[.slice p t.ps.length cap, N] 25)).alloc (.cells #[.slice qS st.length capS] 22)).alloc (.cells #[.slice qC cs.length capC] 26)) (((((w.alloc (.cells #[.slice p t.ps.length cap, N] 25)).alloc (.cells #[.slice qS st.length capS] 22)).alloc (.cells #[.slice qC cs.length capC] 26)).alloc (.cells (madeCells #[.slice none 0 0] t.ps.length) 22)).alloc (.cells #[.slice (some ⟨w.heap.size + 1 + 1 + 1, 0, none⟩) t.ps.length t.ps.length] 26)) := ((Below.refl _ _).alloc (Nat.le_refl _) _).alloc (by simp) _
  have hb12 : Below (w.alloc (.cells #[.slice p t.ps.length cap, N] 25)).heap.size (w.alloc (.cells #[.slice p t.ps.length cap, N] 25)) (((w.alloc (.cells #[.slice p t.ps.length cap, N] 25)).alloc (.cells #[.slice qS st.length capS] 22)).alloc (.cells #[.slice qC cs.length capC] 26)) := ((Below.refl _ _).alloc (Nat.le_refl _) _).alloc (by simp) _
  have hb23 : Below ((w.alloc (.cells #[.slice p t.ps.length cap, N] 25)).alloc (.cells #[.slice qS st.length capS] 22)).heap.size ((w.alloc (.cells #[.slice p t.ps.length cap, N] 25)).alloc (.cells #[.slice qS st.length capS] 22)) (((w.alloc (.cells #[.slice p t.ps.length cap, N] 25)).alloc (.cells #[.slice qS st.length capS] 22)).alloc (.cells #[.slice qC cs.length capC] 26)) := (Below.refl _ _).alloc (Nat.le_refl _) _
  have c0 := cell_later hb35 (cell_later hb12 (cell_at_new w #[.slice p t.ps.length cap, N] 25 0))
  have c1 := cell_later hb35 (cell_later hb12 (cell_at_new w #[.slice p t.ps.length cap, N] 25 1))
  have c2 := cell_later hb35 (cell_later hb23 (cell_of_box_new (w.alloc (.cells #[.slice p t.ps.length cap, N] 25)) (.slice qS st.length capS) 22))
  have c3 := cell_later hb35 (cell_of_box_new ((w.alloc (.cells #[.slice p t.ps.length cap, N] 25)).alloc (.cells #[.slice qS st.length capS] 22)) (.slice qC cs.length capC) 26)
  simp only [World.size_alloc] at c2 c3
  have c4 : (((((w.alloc (.cells #[.slice p t.ps.length cap, N] 25)).alloc (.cells #[.slice qS st.length capS] 22)).alloc (.cells #[.slice qC cs.length capC] 26)).alloc (.cells (madeCells #[.slice none 0 0] t.ps.length) 22)).alloc (.cells #[.slice (some ⟨w.heap.size + 1 + 1 + 1, 0, none⟩) t.ps.length t.ps.length] 26)).rowIs (w.heap.size + 1 + 1 + 1) 22 t.ps.length (fun _ => .slice none 0 0) := by
    have h := World.rowIs_made (((w.alloc (.cells #[.slice p t.ps.length cap, N] 25)).alloc (.cells #[.slice qS st.length capS] 22)).alloc (.cells #[.slice qC cs.length capC] 26)) (.slice none 0 0) t.ps.length 22
    simp only [World.size_alloc] at h
    exact h.alloc _
  have c5 : (((((w.alloc (.cells #[.slice p t.ps.length cap, N] 25)).alloc (.cells #[.slice qS st.length capS] 22)).alloc (.cells #[.slice qC cs.length capC] 26)).alloc (.cells (madeCells #[.slice none 0 0] t.ps.length) 22)).alloc (.cells #[.slice (some ⟨w.heap.size + 1 + 1 + 1, 0, none⟩) t.ps.length t.ps.length] 26)).cell? ⟨w.heap.size + 1 + 1 + 1 + 1, 0, none⟩ = some (.slice (some ⟨w.heap.size + 1 + 1 + 1, 0, none⟩) t.ps.length t.ps.length) := by
    have h := (cell_of_box_new ((((w.alloc (.cells #[.slice p t.ps.length cap, N] 25)).alloc (.cells #[.slice qS st.length capS] 22)).alloc (.cells #[.slice qC cs.length capC] 26)).alloc (.cells (madeCells #[.slice none 0 0] t.ps.length) 22)) (.slice (some ⟨w.heap.size + 1 + 1 + 1, 0, none⟩) t.ps.length t.ps.length) 26)
    simpa only [World.size_alloc] using h
  have z5 : (((((w.alloc (.cells #[.slice p t.ps.length cap, N] 25)).alloc (.cells #[.slice qS st.length capS] 22)).alloc (.cells #[.slice qC cs.length capC] 26)).alloc (.cells (madeCells #[.slice none 0 0] t.ps.length) 22)).alloc (.cells #[.slice (some ⟨w.heap.size + 1 + 1 + 1, 0, none⟩) t.ps.length t.ps.length] 26)).heap.size = w.heap.size + 5 := by simp
  have hL := leaves_t S _ _ t hT5 (by omega) (by omega) hz
  have HL := Lib.hid hL
  have HB5 := Lib.hid hb5
  have C0 := Lib.hid c0
  have C1 := Lib.hid c1
  have C2 := Lib.hid c2
  have C3 := Lib.hid c3
  have C4 := Lib.hid c4
  have C5 := Lib.hid c5
  have Z5 := Lib.hid z5
  have HC := Lib.hid hC
  have HS := Lib.hid hS
  have HP := Lib.hid hP
  clear HPP hb35 hb12 hb23 hb5 hT5 c0 c1 c2 c3 c4 c5 z5 hL hC hS hP hN hz
  go_enter Try.func47, Try.ntmps47
  go_wp2_with fail
  generalize (((((w.alloc (.cells #[.slice p t.ps.length cap, N] 25)).alloc (.cells #[.slice qS st.length capS] 22)).alloc (.cells #[.slice qC cs.length capC] 26)).alloc (.cells (madeCells #[.slice none 0 0] t.ps.length) 22)).alloc (.cells #[.slice (some ⟨w.heap.size + 1 + 1 + 1, 0, none⟩) t.ps.length t.ps.length] 26)) = w5 at *
  clear hmk
  refine HL.out.mono ?_
  rintro e w6 ⟨hb6, ⟨h1, _⟩ | ⟨_, lv, rfl, hlv⟩⟩
  · exact absurd he h1
  obtain ⟨lp, lc, rfl, _, _⟩ := SlAt.open hlv
  have hb7 : Below w6.heap.size w6 (w6.alloc (.cells #[.slice lp (leavesL t.ns).length lc] 22)) := (Below.refl _ _).alloc (Nat.le_refl _) _
  have hb57 : Below w5.heap.size w5 (w6.alloc (.cells #[.slice lp (leavesL t.ns).length lc] 22)) := hb6.trans (hb7.mono hb6.size)
  have d5 := cell_later hb57 C5.out
  have d6 := cell_of_box_new w6 (.slice lp (leavesL t.ns).length lc) 22
  have hbw7 : Below w.heap.size w (w6.alloc (.cells #[.slice lp (leavesL t.ns).length lc] 22)) := HB5.out.trans (hb57.mono HB5.out.size)
  have z6 : w.heap.size + 5 ≤ w6.heap.size := by have := Z5.out; have := hb6.size; omega
  have hF : FillW (w6.alloc (.cells #[.slice lp (leavesL t.ns).length lc] 22)) t st cs (w.heap.size + 1 + 1) w6.heap.size (w.heap.size + 1) w.heap.size (w.heap.size + 1 + 1 + 1 + 1) (w.heap.size + 1 + 1 + 1) (fun _ => .slice none 0 0) t.ps.length :=
    ⟨⟨_, cell_later hb57 C3.out, (((HC.out.sub (T := fun b => b < w.heap.size) fun b _ hb => hb).keep (Kept.below HB5.out)).keep (Kept.below hb57)).sub fun b hb _ => by omega⟩,
      ⟨_, d6, (hlv.keep (Kept.below hb7)).sub fun b hb _ => by have := Z5.out; omega⟩,
      ⟨_, cell_later hb57 C2.out, (((HS.out.sub (T := fun b => b < w.heap.size) fun b _ hb => hb).keep (Kept.below HB5.out)).keep (Kept.below hb57)).sub fun b hb _ => by omega⟩, ⟨_, _, cell_later hb57 C0.out, cell_later hb57 C1.out, (((HP.out.sub (T := fun b => b < w.heap.size) fun b _ hb => hb).keep (Kept.below HB5.out)).keep (Kept.below hb57)).sub fun b hb _ => by omega⟩, d5, C4.out.of_block (hb57.block _ (by have := Z5.out; omega)), fun j h1 h2 => by omega, by omega, by omega, by omega, by omega, by omega⟩
  have HF := Lib.hid hF
  have HBW := Lib.hid hbw7
  clear hb6 hlv hb7 hb57 d6 hbw7 hF
  have HTB := Lib.hid htb
  have HCB := Lib.hid hcb
  have HRL := Lib.hid hrl
  clear htb hcb hrl HL C0 C1 C2 C3 C4 C5 HC HS HP
  go_wp2_with fail
  generalize (w6.alloc (.cells #[.slice lp (leavesL t.ns).length lc] 22)) = w7 at *
  generalize w6.heap.size = pL at *
  go_loopw [11] (fun i wr => ∃ (k : Nat) (V : Nat → Value), k ≤ t.ps.length ∧ i = .int .i64 ((k : Int) - 1) ∧ Hid (FillW wr t st cs (w.heap.size + 1 + 1) pL (w.heap.size + 1) w.heap.size (w.heap.size + 1 + 1 + 1 + 1) (w.heap.size + 1 + 1 + 1) V k) ∧ Hid (Below w.heap.size w wr)) (fun i _ => (intOf i + 1).toNat)
  case atStart => exact ⟨t.ps.length, _, Nat.le_refl _, by go_num, HF, HBW⟩
  case round =>
    obtain ⟨k, V, hk, rfl, hF, hB⟩ := hrel
    rcases Nat.eq_zero_or_pos k with rfl | hk0
    · have hcO := hF.out.cO
      go_wp2_with fail
      go_ret
      refine ⟨hB.out, _, rfl, V, ?_, ?_⟩
      · refine ⟨some ⟨w.heap.size + 1 + 1 + 1, 0, none⟩, t.ps.length, by rw [show (tabL t st cs).length = t.ps.length by simp [tabL]]; rfl, by simp [tabL], .inr ⟨_, 0, rfl, trivial, fun k hk => ?_⟩⟩
        rw [Nat.zero_add]; exact hF.out.row.cell (by simpa [tabL] using hk)
      · intro k hk
        have hk2 : k < t.ps.length := by simpa [tabL] using hk
        have he : gl (tabL t st cs) k = tabRow t st cs k := by simp [gl, tabL, hk2]
        rw [he]; exact (hF.out.rows k (Nat.zero_le _) hk2).sub fun _ _ _ => trivial
    · obtain ⟨j, rfl⟩ : ∃ j, k = j + 1 := ⟨k - 1, by omega⟩
      go_wp2_with fail
      refine (fill_t wr t st cs _ _ _ _ _ _ V j (by omega) hF.out hn hm hm0 hll HRL.out HCB.out HTB.out hln).mono ?_
      rintro e w8 ⟨rfl, hg, v, hr, hv⟩
      have hF2 := Lib.hid (hF.out.step hg hr hv)
      have hB2 := Lib.hid (hB.out.grown hg hB.out.size fun k e => by cases e <;> omega)
      clear hg hr hv
      go_wp2_with fail
      go_roundw
      case rel => exact ⟨j, _, by omega, by go_num, hF2, hB2⟩
      case measure => simp [intOf]
end Go.Proofs.Ytcaialhoclodjaa
namespace Go.Proofs.Ytcaialhoclodjaa
open Go.RowKit Go.Deep
/-- What lay in w lies in w' as it lay. -/
def Up (w w' : World) : Prop := Below w.heap.size w w'
theorem Up.refl (w : World) : Up w w := Below.refl _ _
theorem Up.trans {a b c : World} (h : Up a b) (k : Up b c) : Up a c := Below.trans h (Below.mono k h.size)
theorem Up.alloc (w : World) (o : Obj) : Up w (w.alloc o) := (Below.refl _ _).alloc (Nat.le_refl _) _
theorem Up.drewN (w : World) (n : Nat) : Up w (w.drewN n) := below_drewN (Below.refl _ _) n
theorem Up.kept {w w' : World} (h : Up w w') (S : Nat → Prop) : Kept S w w' := Kept.below h
theorem Up.size {w w' : World} (h : Up w w') : w.heap.size ≤ w'.heap.size := Below.size h
theorem Up.cell {w w' : World} (h : Up w w') {p : Addr} {v : Value} (hc : w.cell? p = some v) : w'.cell? p = some v := by
  obtain ⟨b, o, i⟩ := p
  have hl : b < w.heap.size := World.block_lt_of_cell? w _ hc
  rw [Below.cell h (p := ⟨b, o, i⟩) hl]; exact hc
theorem box2_0 (w : World) (P N : Value) (T : TypeId) : (w.alloc (.cells #[P, N] T)).cell? ⟨w.heap.size, 0, none⟩ = some P := by simp [World.cell?_alloc_new]
theorem box2_1 (w : World) (P N : Value) (T : TypeId) : (w.alloc (.cells #[P, N] T)).cell? ⟨w.heap.size, 1, none⟩ = some N := by simp [World.cell?_alloc_new]
theorem box1_0 (w : World) (P : Value) (T : TypeId) : (w.alloc (.cells #[P] T)).cell? ⟨w.heap.size, 0, none⟩ = some P := by simp [World.cell?_alloc_new]
def Sized (t : Tre) (st : List Int) (cs : List (List Int)) : Prop :=
  t.ps.length ≤ 1000000 ∧ t.ns.length ≤ 1000000 ∧ (∀ k, (gs t.ns k).size ≤ 70000) ∧ st.length ≤ 1000000 ∧ cs.length ≤ 1000000 ∧ ∀ k, (gl cs k).length ≤ 1000000
theorem pcheck_s (S : Nat → Prop) (w : World) (v vs vc : Value) (t : Tre) (st : List Int) (cs : List (List Int)) (hT : TreeAt S w v t) (hS : IntsAt S w vs st) (hC : RowsAt S w vc cs) (hz : Sized t st cs) :
    Calls Try.prog 45 #[v, vs, vc] w fun e w' => StI e w' w (parErr t st cs) := by
  obtain ⟨h1, h2, h3, h4, h5, h6⟩ := hz
  exact pcheck_t S w v vs vc t st cs hT hS hC h1 h2 h3 h4 h5 h6
theorem table_v (S : Nat → Prop) (w : World) (v vs vc : Value) (t : Tre) (st : List Int) (cs : List (List Int)) (hT : TreeAt S w v t) (hS : IntsAt S w vs st) (hC : RowsAt S w vc cs)
    (hz : ∀ k, (gs t.ns k).size ≤ 70000) (hv : Valid t st cs) : Calls Try.prog 47 #[v, vs, vc] w (TbPost w (tabL t st cs)) := by
  obtain ⟨h1, h2, h3, hok, hn⟩ := treeErr_zero hv.tree
  obtain ⟨m1, m2, m3, m4, m5⟩ := matErr_zero hv.mat
  have hl := leavesL_len t.ns
  exact table_t S w v vs vc t st cs hT hS hC hv.tree (by omega) hz h2 m2 m1 (Nat.le_of_eq hv.len.symm) m3 m4 (fun j s hj => hv.tb j s hj) (by omega)
def ScPost (w : World) (t : Tre) (st : List Int) (cs : List (List Int)) (e : Ending) (w' : World) : Prop :=
  Up w w' ∧ e = .returned (.tuple #[.int .i64 (scoreN t st cs), .int .i64 (parErr t st cs)])
theorem rows_open {S : Nat → Prop} {w : World} {v : Value} {xs : List (List Int)} (h : RowsAt S w v xs) : ∃ p cap, v = .slice p xs.length cap ∧ xs.length ≤ cap ∧
    ∀ k, k < xs.length → ∃ b off q c, p = some ⟨b, off, none⟩ ∧ w.cell? ⟨b, off + k, none⟩ = some (.slice q (gl xs k).length c) ∧ IntsAt S w (.slice q (gl xs k).length c) (gl xs k) := by
  obtain ⟨f, hsl, hr⟩ := h
  obtain ⟨p, cap, rfl, hcap, H⟩ := SlAt.open hsl
  refine ⟨p, cap, rfl, hcap, fun k hk => ?_⟩
  obtain ⟨b, off, rfl, hc⟩ := H k hk
  have h1 := hr k hk
  obtain ⟨q, c, e, _, _⟩ := SlAt.open h1
  rw [e] at hc h1
  exact ⟨b, off, q, c, rfl, hc, h1⟩
theorem ints_get {S : Nat → Prop} {w : World} {p : Option Addr} {n cap : Nat} {xs : List Int} (h : IntsAt S w (.slice p n cap) xs) {k : Nat} (hk : k < xs.length) : ∃ b off, p = some ⟨b, off, none⟩ ∧ w.cell? ⟨b, off + k, none⟩ = some (.int .i64 (gi xs k)) := by
  obtain ⟨q, c, e, _, H⟩ := SlAt.open h
  injection e with e1
  subst e1
  exact H k hk
theorem strs_get {S : Nat → Prop} {w : World} {p : Option Addr} {n cap : Nat} {xs : List ByteArray} (h : StrsAt S w (.slice p n cap) xs) {k : Nat} (hk : k < xs.length) : ∃ b off, p = some ⟨b, off, none⟩ ∧ w.cell? ⟨b, off + k, none⟩ = some (.string (gs xs k)) := by
  obtain ⟨q, c, e, _, H⟩ := SlAt.open h
  injection e with e1
  subst e1
  exact H k hk
theorem rows_get {S : Nat → Prop} {w : World} {p : Option Addr} {n cap : Nat} {xs : List (List Int)} (h : RowsAt S w (.slice p n cap) xs) {k : Nat} (hk : k < xs.length) :
    ∃ b off q c, p = some ⟨b, off, none⟩ ∧ w.cell? ⟨b, off + k, none⟩ = some (.slice q (gl xs k).length c) ∧ IntsAt S w (.slice q (gl xs k).length c) (gl xs k) := by
  obtain ⟨q, c, e, _, H⟩ := rows_open h
  injection e with e1
  subst e1
  exact H k hk
theorem ints_get' {S : Nat → Prop} {w : World} {b off : Nat} {n cap : Nat} {xs : List Int} (h : IntsAt S w (.slice (some ⟨b, off, none⟩) n cap) xs) {k : Nat} (hk : k < xs.length) : w.cell? ⟨b, off + k, none⟩ = some (.int .i64 (gi xs k)) := by
  obtain ⟨b', o', e, hc⟩ := ints_get h hk
  injection e with e
  injection e with e1 e2
  subst e1; subst e2; exact hc
theorem rows_get' {S : Nat → Prop} {w : World} {b off : Nat} {n cap : Nat} {xs : List (List Int)} (h : RowsAt S w (.slice (some ⟨b, off, none⟩) n cap) xs) {k : Nat} (hk : k < xs.length) :
    ∃ q c, w.cell? ⟨b, off + k, none⟩ = some (.slice q (gl xs k).length c) ∧ IntsAt S w (.slice q (gl xs k).length c) (gl xs k) := by
  obtain ⟨b', o', q, c, e, hc, hi⟩ := rows_get h hk
  injection e with e
  injection e with e1 e2
  subst e1; subst e2; exact ⟨q, c, hc, hi⟩
theorem gl_tabL (t : Tre) (st : List Int) (cs : List (List Int)) {k : Nat} (hk : k < t.ps.length) : gl (tabL t st cs) k = tabRow t st cs k := by simp [gl, tabL, hk]
theorem tabL_len (t : Tre) (st : List Int) (cs : List (List Int)) : (tabL t st cs).length = t.ps.length := by simp [tabL]
set_option maxRecDepth 100000 in
set_option maxHeartbeats 800000 in
theorem score_t (S : Nat → Prop) (w : World) (v vs vc : Value) (t : Tre) (st : List Int) (cs : List (List Int)) (hT : TreeAt S w v t) (hS : IntsAt S w vs st) (hC : RowsAt S w vc cs) (hz : Sized t st cs) :
    Calls Try.prog 18 #[v, vs, vc] w (ScPost w t st cs) := by
  have hns := hz.2.2.1
  obtain ⟨P, N, rfl, hP, hN⟩ := hT
  have hu := Up.alloc w (.cells #[P, N] 25)
  have hT1 : TreeAt S (w.alloc (.cells #[P, N] 25)) (.agg #[P, N]) t := TreeAt.keep ⟨P, N, rfl, hP, hN⟩ (hu.kept S)
  have hS1 := IntsAt.keep hS (hu.kept S)
  have hC1 := hC.keep (hu.kept S)
  have hk := pcheck_s S _ _ _ _ t st cs hT1 hS1 hC1 hz
  have hb0 := box2_0 w P N 25
  have hb1 := box2_1 w P N 25
  have HK := Lib.hid hk
  have HU := Lib.hid hu
  have HB0 := Lib.hid hb0
  have HB1 := Lib.hid hb1
  have HT := Lib.hid hT1
  have HS := Lib.hid hS1
  have HC := Lib.hid hC1
  have HNS := Lib.hid hns
  clear hk hu hb0 hb1 hT1 hS1 hC1 hS hC hP hN hz hns
  go_enter Try.func18, Try.ntmps18
  go_wp2_with fail
  generalize w.alloc (.cells #[P, N] 25) = w1 at *
  refine HK.out.mono ?_
  rintro e w2 ⟨rfl, hb⟩
  have hu2 : Up w1 w2 := hb
  have hc0 := hu2.cell HB0.out
  have hc1 := hu2.cell HB1.out
  have HU2 := Lib.hid (HU.out.trans hu2)
  have HT2 := Lib.hid (HT.out.keep (hu2.kept S))
  have HS2 := Lib.hid (IntsAt.keep HS.out (hu2.kept S))
  have HC2 := Lib.hid (HC.out.keep (hu2.kept S))
  clear hb hu2 HK HU HB0 HB1 HT HS HC
  by_cases he : parErr t st cs = 0
  · have he1 : (parErr t st cs != 0) = false := by simpa using he
    have hv := parErr_valid he
    have hfin : scoreN t st cs = (bestK (fun _ => 0) (gi (tabRow t st cs 0)) cs.length).1 := by unfold scoreN; rw [if_pos he]
    have hp0 : 0 < t.ps.length := (treeErr_zero hv.tree).1
    have hml : (tabRow t st cs 0).length ≤ 1000 := by rw [tabRow_len]; have := (matErr_zero hv.mat).2.1; omega
    have HF := Lib.hid hfin
    have HE := Lib.hid he
    have HTB := Lib.hid (table_v S w2 _ _ _ t st cs HT2.out HS2.out HC2.out HNS.out hv)
    clear he hv hfin
    go_wp2_with fail
    refine HTB.out.mono ?_
    rintro e w3 ⟨hb3, tv, rfl, hrows⟩
    have hu3 : Up w2 w3 := hb3
    obtain ⟨p, cap, rfl, hcap, H⟩ := rows_open hrows
    obtain ⟨b, off, q, c, rfl, hcell, hint⟩ := H 0 (by rw [tabL_len]; exact hp0)
    rw [gl_tabL _ _ _ hp0] at hcell hint
    rw [tabL_len]
    rw [Nat.add_zero] at hcell
    have HL := Lib.hid (least_t Any w3 _ _ hint hml)
    have HU3 := Lib.hid (HU2.out.trans hu3)
    clear hrows H hint hb3 hu3 HTB HNS hcap
    go_wp2_with fail
    refine HL.out.mono ?_
    rintro e w4 ⟨rfl, rfl⟩
    unfold pairOf
    go_wp2_with fail
    go_ret2
    exact ⟨HU3.out, by rw [HF.out, HE.out, tabRow_len]; rfl⟩
  · have he1 : (parErr t st cs != 0) = true := by simpa using he
    have HE := Lib.hid he
    clear he
    go_wp2_with fail
    go_ret2
    exact ⟨HU2.out, by unfold scoreN; rw [if_neg HE.out]; rfl⟩
end Go.Proofs.Ytcaialhoclodjaa
namespace Go.Proofs.Ytcaialhoclodjaa
open Go.ChangeShapes Go.WideShapes Go.ChangeAt Go.RowKit Go.Deep
theorem own_none : ownKnob Try.prog.godebug = none := by kernel_rfl
theorem laidOut : laidOutB Try.prog = true := by kernel_rfl
section
variable {H : Type} {enc : TypeId × Value → H} {W : World}
theorem len_max {n : Nat} (h : n ≤ maxLen) : n ≤ 9223372036854775807 := by unfold maxLen at h; exact h
theorem open_ints1 {fuel : Nat} {v : Value} {x : DataW H × List MemPlace} (h : DataW.trod enc Try.prog W 0 (fun _ => true) true fuel 22 [v] = some x) : ∃ xs : List Int, IntsAt Any W v xs ∧ xs.length ≤ 9223372036854775807 := by
  rcases open_ints Try.underlying22 Try.underlying3 (by kernel_rfl) h with ⟨hcs, _⟩ | ⟨a, l, c, zs, hcs, _, hl, hm, hz, _, hcell, _⟩
  · obtain rfl : v = .slice none 0 0 := by simpa using hcs
    exact ⟨[], ⟨none, 0, rfl, Nat.le_refl _, .inl rfl⟩, by simp⟩
  · obtain rfl : v = .slice (some a) l c := by simpa using hcs
    simp only [if_true] at hz
    have hlen : (zs.take l).length = l := by simp; omega
    refine ⟨zs.take l, ⟨some a, c, by rw [hlen], by rw [hlen]; exact hl, ?_⟩, by rw [hlen]; exact len_max (Nat.le_trans hl hm)⟩
    by_cases h0 : l = 0
    · exact .inl (by rw [hlen]; exact h0)
    · obtain ⟨b, off, rfl, hc⟩ := ints_at hcell (by omega)
      refine .inr ⟨b, off, rfl, trivial, fun k hk => ?_⟩
      rw [hlen] at hk
      rw [hc k (by omega)]
      simp [gi, hk]
theorem open_strs1 {fuel : Nat} {v : Value} {x : DataW H × List MemPlace} (h : DataW.trod enc Try.prog W 0 (fun _ => true) true fuel 23 [v] = some x) : ∃ xs : List ByteArray, StrsAt Any W v xs ∧ xs.length ≤ 9223372036854775807 ∧ ∀ k, (gs xs k).size ≤ 9223372036854775807 := by
  rcases open_strings Try.underlying23 Try.underlying9 (by kernel_rfl) h with ⟨hcs, _⟩ | ⟨a, l, c, zs, hcs, _, hl, hm, hz, _, hcell, hwf⟩
  · obtain rfl : v = .slice none 0 0 := by simpa using hcs
    exact ⟨[], ⟨none, 0, rfl, Nat.le_refl _, .inl rfl⟩, by simp, fun k => by simp [gs]⟩
  · obtain rfl : v = .slice (some a) l c := by simpa using hcs
    simp only [if_true] at hz
    have hlen : (zs.take l).length = l := by simp; omega
    refine ⟨zs.take l, ⟨some a, c, by rw [hlen], by rw [hlen]; exact hl, ?_⟩, by rw [hlen]; exact len_max (Nat.le_trans hl hm), fun k => ?_⟩
    · by_cases h0 : l = 0
      · exact .inl (by rw [hlen]; exact h0)
      · obtain ⟨b, off, spot⟩ := a
        have hspot : spot = none := by simpa [Addr.add] using World.cell?_spot (hcell 0 (by omega))
        subst hspot
        refine .inr ⟨b, off, rfl, trivial, fun k hk => ?_⟩
        rw [hlen] at hk
        rw [← add_plain, hcell k (by omega)]
        have hk2 : k < zs.length := by omega
        simp [gs, hk, hk2]
    · by_cases hk : k < (zs.take l).length
      · have hm : gs (zs.take l) k ∈ zs := by
          have : gs (zs.take l) k = (zs.take l)[k] := by unfold gs; rw [List.getD_eq_getElem?_getD, List.getElem?_eq_getElem hk]; rfl
          rw [this]; exact List.mem_of_mem_take (List.getElem_mem hk)
        exact len_max (hwf _ hm)
      · have : gs (zs.take l) k = ByteArray.empty := by simp [gs, List.getElem?_eq_none (by omega : (zs.take l).length ≤ k)]
        rw [this]; simp
theorem open_rows1 {fuel : Nat} {v : Value} {x : DataW H × List MemPlace} (h : DataW.trod enc Try.prog W 0 (fun _ => true) true fuel 26 [v] = some x) : ∃ xs : List (List Int), RowsAt Any W v xs ∧ xs.length ≤ 9223372036854775807 ∧ ∀ k, (gl xs k).length ≤ 9223372036854775807 := by
  rcases open_int_rows Try.underlying26 Try.underlying22 Try.underlying3 (by kernel_rfl) (by kernel_rfl) h with ⟨hcs, _⟩ | ⟨a, l, c, A, L, C, Z, hcs, _, hl, hm, _, hr⟩
  · obtain rfl : v = .slice none 0 0 := by simpa using hcs
    exact ⟨[], ⟨fun _ => undef, ⟨none, 0, rfl, Nat.le_refl _, .inl rfl⟩, fun k hk => absurd hk (Nat.not_lt_zero _)⟩, by simp, fun k => by simp [gl]⟩
  · obtain rfl : v = .slice (some a) l c := by simpa using hcs
    have hlen : ((List.range l).map fun r => (Z r).take (L r)).length = l := by simp
    have hgl : ∀ k, k < l → gl ((List.range l).map fun r => (Z r).take (L r)) k = (Z k).take (L k) := fun k hk => by simp [gl, hk]
    have hLk : ∀ k, k < l → ((Z k).take (L k)).length = L k := fun k hk => by obtain ⟨_, h1, _, h3, _⟩ := hr k (by omega); simp; omega
    refine ⟨(List.range l).map fun r => (Z r).take (L r), ⟨fun k => .slice (A k) (L k) (C k), ⟨some a, c, by rw [hlen], by rw [hlen]; exact hl, ?_⟩, fun k hk => ?_⟩, by rw [hlen]; exact len_max (Nat.le_trans hl hm), fun k => ?_⟩
    · by_cases h0 : l = 0
      · exact .inl (by rw [hlen]; exact h0)
      · obtain ⟨b, off, spot⟩ := a
        have hspot : spot = none := by simpa [Addr.add] using World.cell?_spot (hr 0 (by omega)).1
        subst hspot
        refine .inr ⟨b, off, rfl, trivial, fun k hk => ?_⟩
        rw [hlen] at hk
        rw [← add_plain]; exact (hr k (by omega)).1
    · rw [hlen] at hk
      obtain ⟨_, h1, h2, h3, _, h5, h6⟩ := hr k (by omega)
      rw [hgl k hk]
      refine ⟨A k, C k, by rw [hLk k hk], by rw [hLk k hk]; exact h1, ?_⟩
      by_cases h0 : L k = 0
      · exact .inl (by rw [hLk k hk]; exact h0)
      · cases hA : A k with
        | none => have := h5 hA; omega
        | some a' =>
          obtain ⟨_, h7⟩ := h6 a' hA
          obtain ⟨b, off, rfl, hc⟩ := ints_at (zs := Z k) (k := .i64) (fun i hi => h7 i (by omega)) (by omega)
          refine .inr ⟨b, off, rfl, trivial, fun j hj => ?_⟩
          rw [hLk k hk] at hj
          rw [hc j (by omega)]
          simp [gi, hj]
    · by_cases hk : k < l
      · rw [hgl k hk, hLk k hk]
        obtain ⟨_, h1, h2, _⟩ := hr k (by omega)
        exact len_max (Nat.le_trans h1 h2)
      · have : gl ((List.range l).map fun r => (Z r).take (L r)) k = [] := by simp [gl, hk]
        rw [this]; simp
set_option maxRecDepth 100000 in
theorem open_tree1 {v : Value} {d : DataW H} {p : List MemPlace} {base : Nat} (hv : Value.okWide Try.prog W .any base 25 v) (h : DataW.Trod enc Try.prog W 0 (fun _ => true) true 25 v d p) :
    ∃ t : Tre, TreeAt Any W v t ∧ t.ps.length ≤ 9223372036854775807 ∧ t.ns.length ≤ 9223372036854775807 ∧ ∀ k, (gs t.ns k).size ≤ 9223372036854775807 := by
  obtain ⟨c0, c1, y0, y1, m, rfl, _, _, h0, h1⟩ := Joins.open_agg2 Try.underlying25 (by kernel_rfl) (by kernel_rfl) hv h
  obtain ⟨ps, hp, hpl⟩ := open_ints1 h0
  obtain ⟨ns, hn, hnl, hns⟩ := open_strs1 h1
  exact ⟨⟨ps, ns⟩, ⟨c0, c1, rfl, hp, hn⟩, hpl, hnl, hns⟩
theorem trod_one {t : TypeId} {v : Value} {d : DataW H} {p : List MemPlace} (h1 : v.cells = #[v]) (h : DataW.Trod enc Try.prog W 0 (fun _ => true) true t v d p) : ∃ fuel, DataW.trod enc Try.prog W 0 (fun _ => true) true fuel t [v] = some (d, p) := by
  obtain ⟨n, hn⟩ := h
  rw [h1] at hn; exact ⟨n, hn⟩
theorem lt_of {t : TypeId} {v : Value} {d : DataW H} {p : List MemPlace} (h : DataW.Trod enc Try.prog W 0 (fun _ => true) true t v d p) : ∀ x ∈ p, x.block < W.heap.size := by
  obtain ⟨m, hm⟩ := h; exact DataW.trod_lt m _ _ _ hm
set_option maxRecDepth 100000 in
theorem open_intsV {v : Value} {d : DataW H} {p : List MemPlace} {base : Nat} (hv : Value.okWide Try.prog W .any base 22 v) (h : DataW.Trod enc Try.prog W 0 (fun _ => true) true 22 v d p) : ∃ xs : List Int, IntsAt Any W v xs ∧ xs.length ≤ 9223372036854775807 := by
  obtain ⟨a, l, c, rfl⟩ := okWide_slice Try.underlying22 hv
  obtain ⟨n, hn⟩ := trod_one rfl h
  exact open_ints1 hn
set_option maxRecDepth 100000 in
theorem open_rowsV {v : Value} {d : DataW H} {p : List MemPlace} {base : Nat} (hv : Value.okWide Try.prog W .any base 26 v) (h : DataW.Trod enc Try.prog W 0 (fun _ => true) true 26 v d p) : ∃ xs : List (List Int), RowsAt Any W v xs ∧ xs.length ≤ 9223372036854775807 ∧ ∀ k, (gl xs k).length ≤ 9223372036854775807 := by
  obtain ⟨a, l, c, rfl⟩ := okWide_slice Try.underlying26 hv
  obtain ⟨n, hn⟩ := trod_one rfl h
  exact open_rows1 hn
end
end Go.Proofs.Ytcaialhoclodjaa
namespace Go.Proofs.Ytcaialhoclodjaa
open Go.RowKit Go.Shelf Go.Deep
section
variable {F : Fence} {n : Nat} {P : Program} {C : World → Prop}
end
end Go.Proofs.Ytcaialhoclodjaa
namespace Go.Proofs.Ytcaialhoclodjaa
open Go.RowKit Go.Deep
theorem Try.infoBo : (Try.prog.info? 4).map (fun i => (i.zero, i.size, i.bytes)) = some (some (.bool false), 1, 1) := by kernel_rfl
theorem kind_classes (c : Nat) : (97 ≤ c ∧ c ≤ 122) ∨ (65 ≤ c ∧ c ≤ 90) ∨ (48 ≤ c ∧ c ≤ 57) ∨ c = 94 ∨ c = 126 ∨ c = 37 ∨ c = 39 ∨ c = 32 ∨ c = 46 ∨ c = 44 ∨ c = 59 ∨ c = 58 ∨ c = 33 ∨ c = 63 ∨ c = 40 ∨ c = 41 ∨ c = 45 ∨
    ((c < 97 ∨ 122 < c) ∧ (c < 65 ∨ 90 < c) ∧ (c < 48 ∨ 57 < c) ∧ c ≠ 94 ∧ c ≠ 126 ∧ c ≠ 37 ∧ c ≠ 39 ∧ c ≠ 32 ∧ c ≠ 46 ∧ c ≠ 44 ∧ c ≠ 59 ∧ c ≠ 58 ∧ c ≠ 33 ∧ c ≠ 63 ∧ c ≠ 40 ∧ c ≠ 41 ∧ c ≠ 45) := by omega
def KindPost (c : Nat) (w : World) (e : Ending) (w' : World) : Prop := e = .returned (.int .i64 (kindL c)) ∧ w = w'
theorem kp {c : Nat} {n : Int} {w : World} (h : n = kindL c) : KindPost c w (.returned (.int .i64 n)) w := ⟨by rw [h], rfl⟩
set_option maxRecDepth 100000 in
set_option maxHeartbeats 400000 in
theorem kindR_const (c : Nat) (h : c ∈ [94, 126, 37, 39, 32, 46, 44, 59, 58, 33, 63, 40, 41, 45]) (w : World) : Calls Try.prog 148 #[.int .u8 c] w (KindPost c w) := by
  simp only [List.mem_cons, List.not_mem_nil, or_false] at h
  rcases h with rfl | rfl | rfl | rfl | rfl | rfl | rfl | rfl | rfl | rfl | rfl | rfl | rfl | rfl
  all_goals
    go_enter Try.func148, Try.ntmps148
    go_wp2
    go_ret
    exact kp rfl
set_option maxRecDepth 100000 in
set_option maxHeartbeats 400000 in
theorem kindR_o1 (c : Nat) (HK : Hid (kindL c = 0)) (hc : c < 256) (h : c < 48 ∨ (57 < c ∧ c < 65) ∨ (90 < c ∧ c < 97) ∨ 122 < c) (e94 : ((c : Int) == 94) = false) (e126 : ((c : Int) == 126) = false) (e37 : ((c : Int) == 37) = false) (e39 : ((c : Int) == 39) = false) (e32 : ((c : Int) == 32) = false) (e46 : ((c : Int) == 46) = false) (e44 : ((c : Int) == 44) = false) (e59 : ((c : Int) == 59) = false) (e58 : ((c : Int) == 58) = false) (e33 : ((c : Int) == 33) = false) (e63 : ((c : Int) == 63) = false) (e40 : ((c : Int) == 40) = false) (e41 : ((c : Int) == 41) = false) (e45 : ((c : Int) == 45) = false) (w : World) : Calls Try.prog 148 #[.int .u8 c] w (KindPost c w) := by
  rcases h with h1 | ⟨h1, h2⟩ | ⟨h1, h2⟩ | h1
  all_goals
    go_enter Try.func148, Try.ntmps148
    go_wp2
    go_ret
    exact kp HK.out.symm
theorem kindR_other (c : Nat) (hc : c < 256) (h1 : c < 97 ∨ 122 < c) (h2 : c < 65 ∨ 90 < c) (h3 : c < 48 ∨ 57 < c) (n94 : c ≠ 94) (n126 : c ≠ 126) (n37 : c ≠ 37) (n39 : c ≠ 39) (n32 : c ≠ 32) (n46 : c ≠ 46) (n44 : c ≠ 44) (n59 : c ≠ 59) (n58 : c ≠ 58) (n33 : c ≠ 33) (n63 : c ≠ 63) (n40 : c ≠ 40) (n41 : c ≠ 41) (n45 : c ≠ 45) (w : World) : Calls Try.prog 148 #[.int .u8 c] w (KindPost c w) := by
  have hk : kindL c = 0 := by
    unfold kindL isLet isPun
    rw [if_neg (by simp; omega), if_neg (by omega), if_neg (by omega), if_neg n39, if_neg n32, if_neg (by simp; omega)]
  have e94 : ((c : Int) == 94) = false := by rw [beq_eq_false_iff_ne]; omega
  have e126 : ((c : Int) == 126) = false := by rw [beq_eq_false_iff_ne]; omega
  have e37 : ((c : Int) == 37) = false := by rw [beq_eq_false_iff_ne]; omega
  have e39 : ((c : Int) == 39) = false := by rw [beq_eq_false_iff_ne]; omega
  have e32 : ((c : Int) == 32) = false := by rw [beq_eq_false_iff_ne]; omega
  have e46 : ((c : Int) == 46) = false := by rw [beq_eq_false_iff_ne]; omega
  have e44 : ((c : Int) == 44) = false := by rw [beq_eq_false_iff_ne]; omega
  have e59 : ((c : Int) == 59) = false := by rw [beq_eq_false_iff_ne]; omega
  have e58 : ((c : Int) == 58) = false := by rw [beq_eq_false_iff_ne]; omega
  have e33 : ((c : Int) == 33) = false := by rw [beq_eq_false_iff_ne]; omega
  have e63 : ((c : Int) == 63) = false := by rw [beq_eq_false_iff_ne]; omega
  have e40 : ((c : Int) == 40) = false := by rw [beq_eq_false_iff_ne]; omega
  have e41 : ((c : Int) == 41) = false := by rw [beq_eq_false_iff_ne]; omega
  have e45 : ((c : Int) == 45) = false := by rw [beq_eq_false_iff_ne]; omega
  exact kindR_o1 c hk hc (by omega) e94 e126 e37 e39 e32 e46 e44 e59 e58 e33 e63 e40 e41 e45 w
set_option maxRecDepth 100000 in
set_option maxHeartbeats 400000 in
theorem kindR_range (c : Nat) (hc : c < 256) (h : (97 ≤ c ∧ c ≤ 122) ∨ (65 ≤ c ∧ c ≤ 90) ∨ (48 ≤ c ∧ c ≤ 57)) (w : World) : Calls Try.prog 148 #[.int .u8 c] w (KindPost c w) := by
  rcases h with ⟨h1, h2⟩ | ⟨h1, h2⟩ | ⟨h1, h2⟩
  · have hk : kindL c = 1 := by unfold kindL isLet; rw [if_pos (by simp; omega)]
    have HK := Lib.hid hk
    clear hk
    go_enter Try.func148, Try.ntmps148
    go_wp2
    go_ret
    exact kp HK.out.symm
  · have hk : kindL c = 1 := by unfold kindL isLet; rw [if_pos (by simp; omega)]
    have HK := Lib.hid hk
    clear hk
    go_enter Try.func148, Try.ntmps148
    go_wp2
    go_ret
    exact kp HK.out.symm
  · have hk : kindL c = 3 := by unfold kindL isLet; rw [if_neg (by simp; omega), if_neg (by omega), if_pos (by omega)]
    have HK := Lib.hid hk
    clear hk
    have e94 : ((c : Int) == 94) = false := by rw [beq_eq_false_iff_ne]; omega
    have e126 : ((c : Int) == 126) = false := by rw [beq_eq_false_iff_ne]; omega
    have e37 : ((c : Int) == 37) = false := by rw [beq_eq_false_iff_ne]; omega
    go_enter Try.func148, Try.ntmps148
    go_wp2
    go_ret
    exact kp HK.out.symm
theorem kindR_t (c : Nat) (hc : c < 256) (w : World) : Calls Try.prog 148 #[.int .u8 c] w fun e w' => e = .returned (.int .i64 (kindL c)) ∧ w = w' := by
  have h := kind_classes c
  rcases h with h | h | h | h | h | h | h | h | h | h | h | h | h | h | h | h | h | ⟨h1, h2, h3, n94, n126, n37, n39, n32, n46, n44, n59, n58, n33, n63, n40, n41, n45⟩
  · exact kindR_range c hc (.inl h) w
  · exact kindR_range c hc (.inr (.inl h)) w
  · exact kindR_range c hc (.inr (.inr h)) w
  · exact kindR_const c (by rw [h]; decide) w
  · exact kindR_const c (by rw [h]; decide) w
  · exact kindR_const c (by rw [h]; decide) w
  · exact kindR_const c (by rw [h]; decide) w
  · exact kindR_const c (by rw [h]; decide) w
  · exact kindR_const c (by rw [h]; decide) w
  · exact kindR_const c (by rw [h]; decide) w
  · exact kindR_const c (by rw [h]; decide) w
  · exact kindR_const c (by rw [h]; decide) w
  · exact kindR_const c (by rw [h]; decide) w
  · exact kindR_const c (by rw [h]; decide) w
  · exact kindR_const c (by rw [h]; decide) w
  · exact kindR_const c (by rw [h]; decide) w
  · exact kindR_const c (by rw [h]; decide) w
  · exact kindR_other c hc h1 h2 h3 n94 n126 n37 n39 n32 n46 n44 n59 n58 n33 n63 n40 n41 n45 w
set_option maxHeartbeats 400000 in
theorem lettersR_t (s : ByteArray) (hs : s.size ≤ 70000) (w : World) : Calls Try.prog 143 #[.string s] w fun e w' => e = .returned (.int .i64 (cntA s.data.toList)) ∧ w = w' := by
  go_enter Try.func143, Try.ntmps143
  go_wp2
  go_loop [3, 4, 5] (fun n i _ => ∃ k : Nat, k ≤ s.size ∧ i = .int .i64 k ∧ n = .int .i64 (cntA (s.data.toList.take k))) (fun _ i _ => s.size - (intOf i).toNat)
  case atStart => exact ⟨0, Nat.zero_le _, rfl, rfl⟩
  case round =>
    obtain ⟨k, hk, rfl, rfl⟩ := hrel
    have hb : cntA (s.data.toList.take k) ≤ 70000 := Nat.le_trans (cntA_le _) (by simp; omega)
    by_cases hlt : k < s.size
    · have hst := letters_step s k hlt
      have hk' := kind_aln s[k]
      have hc : s[k].toNat < 256 := s[k].toNat_lt
      generalize hm : cntA (s.data.toList.take k) = m at *
      have HS := Lib.hid hst
      have HK := Lib.hid hk'
      clear hst hm hk'
      go_wp2_with (go_at_call 148; refine (kindR_t _ hc _).mono ?_; rintro e w' ⟨rfl, rfl⟩; generalize kindL _ = q at *)
      all_goals
        go_round
        case rel => exact ⟨k + 1, by omega, by go_num, by rw [HS.out]; first | (rw [if_pos (HK.out.1 (by first | omega | (simp only [beq_iff_eq] at *; omega)))]; go_num) | (rw [if_neg (fun h => by have := HK.out.2 h; simp only [beq_eq_false_iff_ne, ne_eq] at *; omega)]; go_num)⟩
        case measure => simp [intOf]; omega
    · go_wp2
      go_ret
      exact ⟨ret_int (by rw [List.take_of_length_le (by simp; omega)]), rfl⟩
end Go.Proofs.Ytcaialhoclodjaa
