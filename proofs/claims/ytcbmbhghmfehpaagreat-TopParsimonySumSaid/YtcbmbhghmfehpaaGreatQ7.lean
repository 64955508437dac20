/- The contract of parsimony.table. The contracts of parsimony.Score and Table. The arguments of a law, opened; the frame of a law's proof. slices.IndexFunc and ContainsFunc at ints with a function that draws. -/
import Derived.Test.YtcbmbhghmfehpaaGreatQ6
import Derived.Test.YtcbmbhghmfehpaaGreatQ1
import Derived.Test.YtcbmbhghmfehpaaGreatRows
import Derived.WalkKit
import Derived.ProofKit
import Derived.OpenShut
import Derived.ShutString
import Derived.ChangeOld
import Derived.Below
import Derived.Deep.Matrix
import Derived.Lib.SmallJoins
import Derived.Test.YtcbmbhghmfehpaaGreatQ2
namespace Go.Proofs.YtcbmbhghmfehpaaGreat
open Go.RowKit Go.Deep
theorem Tryz.infoSI : (Tryz.prog.info? 26).map (fun i => (i.zero, i.size, i.bytes)) = some (some (.slice none 0 0), 1, 24) := by kernel_rfl
theorem cell_at_new (W : World) (cs : Array Value) (t : TypeId) (k : Nat) : (W.alloc (.cells cs t)).cell? ⟨W.heap.size, k, none⟩ = cs[k]? := by
  unfold World.cell?; rw [World.alloc_heap_new]; rfl
theorem cell_of_box_new (W : World) (v : Value) (t : TypeId) : (W.alloc (.cells #[v] t)).cell? ⟨W.heap.size, 0, none⟩ = some v := cell_at_new W _ t 0
theorem FillW.step {w w' : World} {t : Tre} {st : List Int} {cs : List (List Int)} {pC pL pS pT pO ob : Nat} {V : Nat → Value} {j : Nat} {v : Value} (h : FillW w t st cs pC pL pS pT pO ob V (j + 1))
    (hg : w.grownBy w' (some ob)) (hr : w'.rowIs ob 26 t.ps.length (fun x => if x = j then v else V x)) (hv : IntsAt (· ≠ ob) w' v (tabRow t st cs j)) : FillW w' t st cs pC pL pS pT pO ob (fun x => if x = j then v else V x) j := by
  have hk : Kept (· ≠ ob) w w' := fun b hb hl => hg.block b hl (by simp; exact hb)
  have hc : ∀ {p o : Nat} {x : Value}, p ≠ ob → w.cell? ⟨p, o, none⟩ = some x → w'.cell? ⟨p, o, none⟩ = some x := fun hp hx => hg.cell hx (by simp; exact hp)
  obtain ⟨n1, n2, n3, n4, n5⟩ := h.ne
  obtain ⟨C, a1, a2⟩ := h.cC
  obtain ⟨L, b1, b2⟩ := h.cL
  obtain ⟨Q, c1, c2⟩ := h.cS
  obtain ⟨P, N, d1, d2, d3⟩ := h.cT
  refine ⟨⟨C, hc n1 a1, a2.keep hk⟩, ⟨L, hc n2 b1, b2.keep hk⟩, ⟨Q, hc n3 c1, c2.keep hk⟩, ⟨P, N, hc n4 d1, hc n4 d2, d3.keep hk⟩, hc n5 h.cO, hr, fun x h1 h2 => ?_, h.ne⟩
  by_cases e : x = j
  · subst e; simp only [if_true]; exact hv
  · simp only [e, if_false]; exact (h.rows x (by omega) h2).keep hk
def tabL (t : Tre) (st : List Int) (cs : List (List Int)) : List (List Int) := (List.range t.ps.length).map (tabRow t st cs)
def TbPost (w : World) (l : List (List Int)) (e : Ending) (w' : World) : Prop := Below w.heap.size w w' ∧ ∃ v, e = .returned v ∧ RowsAt Any w' v l
set_option maxRecDepth 100000 in
set_option maxHeartbeats 800000 in
theorem table_t (S : Nat → Prop) (w : World) (v vs vc : Value) (t : Tre) (st : List Int) (cs : List (List Int)) (hT : TreeAt S w v t) (hS : IntsAt S w vs st) (hC : RowsAt S w vc cs)
    (he : treeErr t = 0) (hn1 : t.ns.length ≤ 64) (hz : ∀ k, (gs t.ns k).size ≤ 70000)
    (hn : t.ps.length ≤ 64) (hm : cs.length ≤ 16) (hm0 : 0 < cs.length) (hll : (leavesL t.ns).length ≤ st.length) (hrl : ∀ a, a < cs.length → (gl cs a).length = cs.length) (hcb : ∀ a k, 0 ≤ gi (gl cs a) k ∧ gi (gl cs a) k ≤ 1000)
    (htb : ∀ j s, j < t.ps.length → -1 ≤ gi (tabRow t st cs j) s ∧ gi (tabRow t st cs j) s ≤ 100000) (hln : (leavesL t.ns).length ≤ 64) :
    Calls Tryz.prog 105 #[v, vs, vc] w (TbPost w (tabL t st cs)) := by
  obtain ⟨P, N, rfl, hP, hN⟩ := hT
  obtain ⟨p, cap, rfl, hcap, HPP⟩ := SlAt.open hP
  obtain ⟨qS, capS, rfl, _, _⟩ := SlAt.open hS
  obtain ⟨fC, hslC, hrowC⟩ := hC
  obtain ⟨qC, capC, rfl, _, _⟩ := SlAt.open hslC
  have hC : RowsAt S w (.slice qC cs.length capC) cs := ⟨fC, hslC, hrowC⟩
  clear hslC hrowC
  have hmk := fun W => run_make_row' (P := Tryz.prog) 22 26 (.slice none 0 0) 24 Tryz.underlying22 Tryz.infoSI rfl .i64 .i64 t.ps.length (by omega) (by omega) W
  have hb5 : Below w.heap.size w (((((w.alloc (.cells #[.slice p t.ps.length cap, N] 45)).alloc (.cells #[.slice qS st.length capS] 26)).alloc (.cells #[.slice qC cs.length capC] 22)).alloc (.cells (madeCells #[.slice none 0 0] t.ps.length) 26)).alloc (.cells #[.slice (some ⟨w.heap.size + 1 + 1 + 1, 0, none⟩) t.ps.length t.ps.length] 22)) := (((((Below.refl _ w).alloc (Nat.le_refl _) _).alloc (by simp) _).alloc (by simp; omega) _).alloc (by simp; omega) _).alloc (by simp; omega) _
  have hT5 : TreeAt S (((((w.alloc (.cells #[.slice p t.ps.length cap, N] 45)).alloc (.cells #[.slice qS st.length capS] 26)).alloc (.cells #[.slice qC cs.length capC] 22)).alloc (.cells (madeCells #[.slice none 0 0] t.ps.length) 26)).alloc (.cells #[.slice (some ⟨w.heap.size + 1 + 1 + 1, 0, none⟩) t.ps.length t.ps.length] 22)) (.agg #[.slice p t.ps.length cap, N]) t := TreeAt.keep ⟨_, _, rfl, hP, hN⟩ (Kept.below hb5)
  have hb35 : Below (((w.alloc (.cells #[.slice p t.ps.length cap, N] 45)).alloc (.cells #[.slice qS st.length capS] 26)).alloc (.cells #[.slice qC cs.length capC] 22)).heap.size (((w.alloc (.cells #[.slice p t.ps.length cap, N] 45)).alloc (.cells #[.slice qS st.length capS] 26)).alloc (.cells #[.slice qC cs.length capC] 22)) (((((w.alloc (.cells #[.slice p t.ps.length cap, N] 45)).alloc (.cells #[.slice qS st.length capS] 26)).alloc (.cells #[.slice qC cs.length capC] 22)).alloc (.cells (madeCells #[.slice none 0 0] t.ps.length) 26)).alloc (.cells #[.slice (some ⟨w.heap.size + 1 + 1 + 1, 0, none⟩) t.ps.length t.ps.length] 22)) := ((Below.refl _ _).alloc (Nat.le_refl _) _).alloc (by simp) _
  have hb12 : Below (w.alloc (.cells #[.slice p t.ps.length cap, N] 45)).heap.size (w.alloc (.cells #[.slice p t.ps.length cap, N] 45)) (((w.alloc (.cells #[.slice p t.ps.length cap, N] 45)).alloc (.cells #[.slice qS st.length capS] 26)).alloc (.cells #[.slice qC cs.length capC] 22)) := ((Below.refl _ _).alloc (Nat.le_refl _) _).alloc (by simp) _
  have hb23 : Below ((w.alloc (.cells #[.slice p t.ps.length cap, N] 45)).alloc (.cells #[.slice qS st.length capS] 26)).heap.size ((w.alloc (.cells #[.slice p t.ps.length cap, N] 45)).alloc (.cells #[.slice qS st.length capS] 26)) (((w.alloc (.cells #[.slice p t.ps.length cap, N] 45)).alloc (.cells #[.slice qS st.length capS] 26)).alloc (.cells #[.slice qC cs.length capC] 22)) := (Below.refl _ _).alloc (Nat.le_refl _) _
  have c0 := cell_later hb35 (cell_later hb12 (cell_at_new w #[.slice p t.ps.length cap, N] 45 0))
  have c1 := cell_later hb35 (cell_later hb12 (cell_at_new w #[.slice p t.ps.length cap, N] 45 1))
  have c2 := cell_later hb35 (cell_later hb23 (cell_of_box_new (w.alloc (.cells #[.slice p t.ps.length cap, N] 45)) (.slice qS st.length capS) 26))
  have c3 := cell_later hb35 (cell_of_box_new ((w.alloc (.cells #[.slice p t.ps.length cap, N] 45)).alloc (.cells #[.slice qS st.length capS] 26)) (.slice qC cs.length capC) 22)
  simp only [World.size_alloc] at c2 c3
  have c4 : (((((w.alloc (.cells #[.slice p t.ps.length cap, N] 45)).alloc (.cells #[.slice qS st.length capS] 26)).alloc (.cells #[.slice qC cs.length capC] 22)).alloc (.cells (madeCells #[.slice none 0 0] t.ps.length) 26)).alloc (.cells #[.slice (some ⟨w.heap.size + 1 + 1 + 1, 0, none⟩) t.ps.length t.ps.length] 22)).rowIs (w.heap.size + 1 + 1 + 1) 26 t.ps.length (fun _ => .slice none 0 0) := by
    have h := World.rowIs_made (((w.alloc (.cells #[.slice p t.ps.length cap, N] 45)).alloc (.cells #[.slice qS st.length capS] 26)).alloc (.cells #[.slice qC cs.length capC] 22)) (.slice none 0 0) t.ps.length 26
    simp only [World.size_alloc] at h
    exact h.alloc _
  have c5 : (((((w.alloc (.cells #[.slice p t.ps.length cap, N] 45)).alloc (.cells #[.slice qS st.length capS] 26)).alloc (.cells #[.slice qC cs.length capC] 22)).alloc (.cells (madeCells #[.slice none 0 0] t.ps.length) 26)).alloc (.cells #[.slice (some ⟨w.heap.size + 1 + 1 + 1, 0, none⟩) t.ps.length t.ps.length] 22)).cell? ⟨w.heap.size + 1 + 1 + 1 + 1, 0, none⟩ = some (.slice (some ⟨w.heap.size + 1 + 1 + 1, 0, none⟩) t.ps.length t.ps.length) := by
    have h := (cell_of_box_new ((((w.alloc (.cells #[.slice p t.ps.length cap, N] 45)).alloc (.cells #[.slice qS st.length capS] 26)).alloc (.cells #[.slice qC cs.length capC] 22)).alloc (.cells (madeCells #[.slice none 0 0] t.ps.length) 26)) (.slice (some ⟨w.heap.size + 1 + 1 + 1, 0, none⟩) t.ps.length t.ps.length) 22)
    simpa only [World.size_alloc] using h
  have z5 : (((((w.alloc (.cells #[.slice p t.ps.length cap, N] 45)).alloc (.cells #[.slice qS st.length capS] 26)).alloc (.cells #[.slice qC cs.length capC] 22)).alloc (.cells (madeCells #[.slice none 0 0] t.ps.length) 26)).alloc (.cells #[.slice (some ⟨w.heap.size + 1 + 1 + 1, 0, none⟩) t.ps.length t.ps.length] 22)).heap.size = w.heap.size + 5 := by simp
  have hL := leaves_t S _ _ t hT5 (by omega) (by omega) hz
  have HL := Lib.hid hL
  have HB5 := Lib.hid hb5
  have C0 := Lib.hid c0
  have C1 := Lib.hid c1
  have C2 := Lib.hid c2
  have C3 := Lib.hid c3
  have C4 := Lib.hid c4
  have C5 := Lib.hid c5
  have Z5 := Lib.hid z5
  have HC := Lib.hid hC
  have HS := Lib.hid hS
  have HP := Lib.hid hP
  clear HPP hb35 hb12 hb23 hb5 hT5 c0 c1 c2 c3 c4 c5 z5 hL hC hS hP hN hz
  go_enter Tryz.func105, Tryz.ntmps105
  go_wp2_with fail
  generalize (((((w.alloc (.cells #[.slice p t.ps.length cap, N] 45)).alloc (.cells #[.slice qS st.length capS] 26)).alloc (.cells #[.slice qC cs.length capC] 22)).alloc (.cells (madeCells #[.slice none 0 0] t.ps.length) 26)).alloc (.cells #[.slice (some ⟨w.heap.size + 1 + 1 + 1, 0, none⟩) t.ps.length t.ps.length] 22)) = w5 at *
  clear hmk
  refine HL.out.mono ?_
  rintro e w6 ⟨hb6, ⟨h1, _⟩ | ⟨_, lv, rfl, hlv⟩⟩
  · exact absurd he h1
  obtain ⟨lp, lc, rfl, _, _⟩ := SlAt.open hlv
  have hb7 : Below w6.heap.size w6 (w6.alloc (.cells #[.slice lp (leavesL t.ns).length lc] 26)) := (Below.refl _ _).alloc (Nat.le_refl _) _
  have hb57 : Below w5.heap.size w5 (w6.alloc (.cells #[.slice lp (leavesL t.ns).length lc] 26)) := hb6.trans (hb7.mono hb6.size)
  have d5 := cell_later hb57 C5.out
  have d6 := cell_of_box_new w6 (.slice lp (leavesL t.ns).length lc) 26
  have hbw7 : Below w.heap.size w (w6.alloc (.cells #[.slice lp (leavesL t.ns).length lc] 26)) := HB5.out.trans (hb57.mono HB5.out.size)
  have z6 : w.heap.size + 5 ≤ w6.heap.size := by have := Z5.out; have := hb6.size; omega
  have hF : FillW (w6.alloc (.cells #[.slice lp (leavesL t.ns).length lc] 26)) t st cs (w.heap.size + 1 + 1) w6.heap.size (w.heap.size + 1) w.heap.size (w.heap.size + 1 + 1 + 1 + 1) (w.heap.size + 1 + 1 + 1) (fun _ => .slice none 0 0) t.ps.length :=
    ⟨⟨_, cell_later hb57 C3.out, (((HC.out.sub (T := fun b => b < w.heap.size) fun b _ hb => hb).keep (Kept.below HB5.out)).keep (Kept.below hb57)).sub fun b hb _ => by omega⟩,
      ⟨_, d6, (hlv.keep (Kept.below hb7)).sub fun b hb _ => by have := Z5.out; omega⟩,
      ⟨_, cell_later hb57 C2.out, (((HS.out.sub (T := fun b => b < w.heap.size) fun b _ hb => hb).keep (Kept.below HB5.out)).keep (Kept.below hb57)).sub fun b hb _ => by omega⟩, ⟨_, _, cell_later hb57 C0.out, cell_later hb57 C1.out, (((HP.out.sub (T := fun b => b < w.heap.size) fun b _ hb => hb).keep (Kept.below HB5.out)).keep (Kept.below hb57)).sub fun b hb _ => by omega⟩, d5, C4.out.of_block (hb57.block _ (by have := Z5.out; omega)), fun j h1 h2 => by omega, by omega, by omega, by omega, by omega, by omega⟩
  have HF := Lib.hid hF
  have HBW := Lib.hid hbw7
  clear hb6 hlv hb7 hb57 d6 hbw7 hF
  have HTB := Lib.hid htb
  have HCB := Lib.hid hcb
  have HRL := Lib.hid hrl
  clear htb hcb hrl HL C0 C1 C2 C3 C4 C5 HC HS HP
  go_wp2_with fail
  generalize (w6.alloc (.cells #[.slice lp (leavesL t.ns).length lc] 26)) = w7 at *
  generalize w6.heap.size = pL at *
  go_loopw [11] (fun i wr => ∃ (k : Nat) (V : Nat → Value), k ≤ t.ps.length ∧ i = .int .i64 ((k : Int) - 1) ∧ Hid (FillW wr t st cs (w.heap.size + 1 + 1) pL (w.heap.size + 1) w.heap.size (w.heap.size + 1 + 1 + 1 + 1) (w.heap.size + 1 + 1 + 1) V k) ∧ Hid (Below w.heap.size w wr)) (fun i _ => (intOf i + 1).toNat)
  case atStart => exact ⟨t.ps.length, _, Nat.le_refl _, by go_num, HF, HBW⟩
  case round =>
    obtain ⟨k, V, hk, rfl, hF, hB⟩ := hrel
    rcases Nat.eq_zero_or_pos k with rfl | hk0
    · have hcO := hF.out.cO
      go_wp2_with fail
      go_ret
      refine ⟨hB.out, _, rfl, V, ?_, ?_⟩
      · refine ⟨some ⟨w.heap.size + 1 + 1 + 1, 0, none⟩, t.ps.length, by rw [show (tabL t st cs).length = t.ps.length by simp [tabL]]; rfl, by simp [tabL], .inr ⟨_, 0, rfl, trivial, fun k hk => ?_⟩⟩
        rw [Nat.zero_add]; exact hF.out.row.cell (by simpa [tabL] using hk)
      · intro k hk
        have hk2 : k < t.ps.length := by simpa [tabL] using hk
        have he : gl (tabL t st cs) k = tabRow t st cs k := by simp [gl, tabL, hk2]
        rw [he]; exact (hF.out.rows k (Nat.zero_le _) hk2).sub fun _ _ _ => trivial
    · obtain ⟨j, rfl⟩ : ∃ j, k = j + 1 := ⟨k - 1, by omega⟩
      go_wp2_with fail
      refine (fill_t wr t st cs _ _ _ _ _ _ V j (by omega) hF.out hn hm hm0 hll HRL.out HCB.out HTB.out hln).mono ?_
      rintro e w8 ⟨rfl, hg, v, hr, hv⟩
      have hF2 := Lib.hid (hF.out.step hg hr hv)
      have hB2 := Lib.hid (hB.out.grown hg hB.out.size fun k e => by cases e <;> omega)
      clear hg hr hv
      go_wp2_with fail
      go_roundw
      case rel => exact ⟨j, _, by omega, by go_num, hF2, hB2⟩
      case measure => simp [intOf]
end Go.Proofs.YtcbmbhghmfehpaaGreat
namespace Go.Proofs.YtcbmbhghmfehpaaGreat
open Go.RowKit Go.Deep
def Up (w w' : World) : Prop := Below w.heap.size w w'
theorem Up.refl (w : World) : Up w w := Below.refl _ _
theorem Up.trans {a b c : World} (h : Up a b) (k : Up b c) : Up a c := Below.trans h (Below.mono k h.size)
theorem Up.alloc (w : World) (o : Obj) : Up w (w.alloc o) := (Below.refl _ _).alloc (Nat.le_refl _) _
theorem Up.drewN (w : World) (n : Nat) : Up w (w.drewN n) := below_drewN (Below.refl _ _) n
theorem Up.kept {w w' : World} (h : Up w w') (S : Nat → Prop) : Kept S w w' := Kept.below h
theorem Up.size {w w' : World} (h : Up w w') : w.heap.size ≤ w'.heap.size := Below.size h
theorem Up.cell {w w' : World} (h : Up w w') {p : Addr} {v : Value} (hc : w.cell? p = some v) : w'.cell? p = some v := by
  obtain ⟨b, o, i⟩ := p
  have hl : b < w.heap.size := World.block_lt_of_cell? w _ hc
  rw [Below.cell h (p := ⟨b, o, i⟩) hl]; exact hc
theorem box2_0 (w : World) (P N : Value) (T : TypeId) : (w.alloc (.cells #[P, N] T)).cell? ⟨w.heap.size, 0, none⟩ = some P := by simp [World.cell?_alloc_new]
theorem box2_1 (w : World) (P N : Value) (T : TypeId) : (w.alloc (.cells #[P, N] T)).cell? ⟨w.heap.size, 1, none⟩ = some N := by simp [World.cell?_alloc_new]
theorem box1_0 (w : World) (P : Value) (T : TypeId) : (w.alloc (.cells #[P] T)).cell? ⟨w.heap.size, 0, none⟩ = some P := by simp [World.cell?_alloc_new]
theorem table_v (S : Nat → Prop) (w : World) (v vs vc : Value) (t : Tre) (st : List Int) (cs : List (List Int)) (hT : TreeAt S w v t) (hS : IntsAt S w vs st) (hC : RowsAt S w vc cs)
    (hz : ∀ k, (gs t.ns k).size ≤ 70000) (hv : Valid t st cs) : Calls Tryz.prog 105 #[v, vs, vc] w (TbPost w (tabL t st cs)) := by
  obtain ⟨h1, h2, h3, hok, hn⟩ := treeErr_zero hv.tree
  obtain ⟨m1, m2, m3, m4, m5⟩ := matErr_zero hv.mat
  have hl := leavesL_len t.ns
  exact table_t S w v vs vc t st cs hT hS hC hv.tree (by omega) hz h2 m2 m1 (Nat.le_of_eq hv.len.symm) m3 m4 (fun j s hj => hv.tb j s hj) (by omega)
theorem rows_open {S : Nat → Prop} {w : World} {v : Value} {xs : List (List Int)} (h : RowsAt S w v xs) : ∃ p cap, v = .slice p xs.length cap ∧ xs.length ≤ cap ∧
    ∀ k, k < xs.length → ∃ b off q c, p = some ⟨b, off, none⟩ ∧ w.cell? ⟨b, off + k, none⟩ = some (.slice q (gl xs k).length c) ∧ IntsAt S w (.slice q (gl xs k).length c) (gl xs k) := by
  obtain ⟨f, hsl, hr⟩ := h
  obtain ⟨p, cap, rfl, hcap, H⟩ := SlAt.open hsl
  refine ⟨p, cap, rfl, hcap, fun k hk => ?_⟩
  obtain ⟨b, off, rfl, hc⟩ := H k hk
  have h1 := hr k hk
  obtain ⟨q, c, e, _, _⟩ := SlAt.open h1
  rw [e] at hc h1
  exact ⟨b, off, q, c, rfl, hc, h1⟩
theorem ints_get {S : Nat → Prop} {w : World} {p : Option Addr} {n cap : Nat} {xs : List Int} (h : IntsAt S w (.slice p n cap) xs) {k : Nat} (hk : k < xs.length) : ∃ b off, p = some ⟨b, off, none⟩ ∧ w.cell? ⟨b, off + k, none⟩ = some (.int .i64 (gi xs k)) := by
  obtain ⟨q, c, e, _, H⟩ := SlAt.open h
  injection e with e1
  subst e1
  exact H k hk
theorem strs_get {S : Nat → Prop} {w : World} {p : Option Addr} {n cap : Nat} {xs : List ByteArray} (h : StrsAt S w (.slice p n cap) xs) {k : Nat} (hk : k < xs.length) : ∃ b off, p = some ⟨b, off, none⟩ ∧ w.cell? ⟨b, off + k, none⟩ = some (.string (gs xs k)) := by
  obtain ⟨q, c, e, _, H⟩ := SlAt.open h
  injection e with e1
  subst e1
  exact H k hk
theorem rows_get {S : Nat → Prop} {w : World} {p : Option Addr} {n cap : Nat} {xs : List (List Int)} (h : RowsAt S w (.slice p n cap) xs) {k : Nat} (hk : k < xs.length) :
    ∃ b off q c, p = some ⟨b, off, none⟩ ∧ w.cell? ⟨b, off + k, none⟩ = some (.slice q (gl xs k).length c) ∧ IntsAt S w (.slice q (gl xs k).length c) (gl xs k) := by
  obtain ⟨q, c, e, _, H⟩ := rows_open h
  injection e with e1
  subst e1
  exact H k hk
theorem ints_get' {S : Nat → Prop} {w : World} {b off : Nat} {n cap : Nat} {xs : List Int} (h : IntsAt S w (.slice (some ⟨b, off, none⟩) n cap) xs) {k : Nat} (hk : k < xs.length) : w.cell? ⟨b, off + k, none⟩ = some (.int .i64 (gi xs k)) := by
  obtain ⟨b', o', e, hc⟩ := ints_get h hk
  injection e with e
  injection e with e1 e2
  subst e1; subst e2; exact hc
theorem gl_tabL (t : Tre) (st : List Int) (cs : List (List Int)) {k : Nat} (hk : k < t.ps.length) : gl (tabL t st cs) k = tabRow t st cs k := by simp [gl, tabL, hk]
theorem tabL_len (t : Tre) (st : List Int) (cs : List (List Int)) : (tabL t st cs).length = t.ps.length := by simp [tabL]
end Go.Proofs.YtcbmbhghmfehpaaGreat
namespace Go.Proofs.YtcbmbhghmfehpaaGreat
open Go.ChangeShapes Go.WideShapes Go.ChangeAt Go.RowKit Go.Deep
theorem own_none : ownKnob Tryz.prog.godebug = none := by kernel_rfl
theorem laidOut : laidOutB Tryz.prog = true := by kernel_rfl
section
variable {H : Type} {enc : TypeId × Value → H} {W : World}
theorem len_max {n : Nat} (h : n ≤ maxLen) : n ≤ 9223372036854775807 := by unfold maxLen at h; exact h
theorem trod_one {t : TypeId} {v : Value} {d : DataW H} {p : List MemPlace} (h1 : v.cells = #[v]) (h : DataW.Trod enc Tryz.prog W 0 (fun _ => true) true t v d p) : ∃ fuel, DataW.trod enc Tryz.prog W 0 (fun _ => true) true fuel t [v] = some (d, p) := by
  obtain ⟨n, hn⟩ := h
  rw [h1] at hn; exact ⟨n, hn⟩
theorem lt_of {t : TypeId} {v : Value} {d : DataW H} {p : List MemPlace} (h : DataW.Trod enc Tryz.prog W 0 (fun _ => true) true t v d p) : ∀ x ∈ p, x.block < W.heap.size := by
  obtain ⟨m, hm⟩ := h; exact DataW.trod_lt m _ _ _ hm
end
end Go.Proofs.YtcbmbhghmfehpaaGreat
namespace Go.Proofs.YtcbmbhghmfehpaaGreat
open Go.RowKit Go.Deep
def FnD (g : Nat) (lb args : Array Value) (res : Value) (w : World) : Prop := ∀ m, Calls Tryz.prog g (args ++ lb) (w.drewN m) fun e w' => e = .returned res ∧ ∃ q, w' = w.drewN q
set_option maxHeartbeats 400000 in
theorem ints_ix_d (g : Nat) (lb : Array Value) (eg : ∀ args w, (callFunc g args).run Tryz.prog w = .ok (.enter g args) w) (S : Nat → Prop) (w : World) (v : Value) (n : Nat) (f : Nat → Value) (p : Nat → Bool)
    (h : SlAt S w v n f) (hn : n ≤ 1000000) (hp : ∀ k, k < n → FnD g lb #[f k] (.bool (p k)) w) :
    Calls Tryz.prog 139 #[v, .func (.func g) #[] lb] w fun e w' => e = .returned (.int .i64 (firstIx p n)) ∧ ∃ q, w' = w.drewN q := by
  obtain ⟨q, cap, rfl, hcap, H⟩ := h.open
  have HP := Lib.hid hp
  clear h hp
  go_enter Tryz.func139, Tryz.ntmps139
  go_wp2_with fail
  go_loopw [5, 8] (fun _ i wr => ∃ k : Nat, k ≤ n ∧ i = .int .i64 k ∧ Hid (∀ j, j < k → p j = false) ∧ Hid (∃ m, wr = w.drewN m)) (fun _ i _ => n - (intOf i).toNat)
  case atStart => exact ⟨0, Nat.zero_le _, rfl, fun j hj => absurd hj (Nat.not_lt_zero _), 0, rfl⟩
  case round =>
    obtain ⟨k, hk, rfl, hd, hm⟩ := hrel
    obtain ⟨m, rfl⟩ := hm.out
    clear hm
    by_cases hlt : k < n
    · obtain ⟨b, off, rfl, hc⟩ := H k hlt
      have hc := (Up.drewN w m).cell hc
      clear H
      have hpk := HP.out k hlt
      unfold FnD at hpk
      have HPK := Lib.hid (hpk m)
      clear hpk HP
      generalize hv : p k = pk at *
      have HV := Lib.hid hv
      clear hv
      cases pk
      · go_wp2_with fail
        refine HPK.out.mono ?_
        rintro e w' ⟨rfl, m2, rfl⟩
        go_wp2_with fail
        go_roundw
        case rel => exact ⟨k + 1, by omega, by go_num, fun j hj => if e : j = k then by subst e; exact HV.out else hd.out j (by omega), m2, rfl⟩
        case measure => simp [intOf]; omega
      · go_wp2_with fail
        refine HPK.out.mono ?_
        rintro e w' ⟨rfl, m2, rfl⟩
        go_wp2_with fail
        go_ret
        exact ⟨ret_int (firstIx_at hlt hd.out HV.out).symm, m2, rfl⟩
    · clear H
      go_wp2_with fail
      go_ret
      exact ⟨ret_int (firstIx_none fun j hj => hd.out j (by omega)).symm, m, rfl⟩
set_option maxHeartbeats 400000 in
theorem ints_has_d (g : Nat) (lb : Array Value) (eg : ∀ args w, (callFunc g args).run Tryz.prog w = .ok (.enter g args) w) (S : Nat → Prop) (w : World) (v : Value) (n : Nat) (f : Nat → Value) (p : Nat → Bool)
    (h : SlAt S w v n f) (hn : n ≤ 1000000) (hp : ∀ k, k < n → FnD g lb #[f k] (.bool (p k)) w) :
    Calls Tryz.prog 70 #[v, .func (.func g) #[] lb] w fun e w' => e = .returned (.bool ((List.range n).any p)) ∧ ∃ q, w' = w.drewN q := by
  have hx := firstIx_any p n
  have HX := Lib.hid hx
  have HI := Lib.hid (ints_ix_d g lb eg S w v n f p h hn hp)
  obtain ⟨q, cap, rfl, -, -⟩ := SlAt.open h
  clear hx hp h eg
  go_enter Tryz.func70, Tryz.ntmps70
  go_wp2_with fail
  refine HI.out.mono ?_
  rintro e w' ⟨rfl, m, rfl⟩
  go_wp2_with fail
  go_ret
  exact ⟨ret_bool (by rw [← HX.out]), m, rfl⟩
end Go.Proofs.YtcbmbhghmfehpaaGreat
