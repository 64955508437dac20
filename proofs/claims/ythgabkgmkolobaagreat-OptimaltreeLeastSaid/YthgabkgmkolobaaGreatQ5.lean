/- The contract of the closure that fills a row of the table. -/
import Derived.Test.YthgabkgmkolobaaGreatQ3
import Derived.Test.YthgabkgmkolobaaGreatQ4
import Derived.Test.YthgabkgmkolobaaGreatQ1
set_option maxRecDepth 100000
namespace Go.Proofs.YthgabkgmkolobaaGreat
open Go.RowKit Go.Shelf Go.Deep
attribute [local go_sem] Oper.semAt_some
set_option maxHeartbeats 400000 in
theorem J4 (S : Nat → Prop) (w : World) (v : Value) (xs : List Int) (x : Int) (h : aq S w v xs) (hn : xs.length ≤ 1000000) :
  Calls Tryz.prog 62 #[v, .int .i64 x] w fun e w' => e = .returned (.int .i64 (b8 (fun j => decide (x = gi xs j)) xs.length)) ∧ w = w' := by
 obtain ⟨p, cap, rfl, hcap, H⟩ := aB.open h
 clear h
 go_enter Tryz.func62, Tryz.ntmps62
 go_wp2_with fail
 go_loop [5, 8] (fun _ i => ∃ k : Nat, k ≤ xs.length ∧ i = .int .i64 k ∧ Hid (∀ j, j < k → decide (x = gi xs j) = false)) (fun _ i => xs.length - (intOf i).toNat)
 case atStart => exact ⟨0, Nat.zero_le _, rfl, fun j hj => absurd hj (Nat.not_lt_zero _)⟩
 case round =>
  obtain ⟨k, hk, rfl, hd⟩ := hrel
  by_cases hlt : k < xs.length
  ·obtain ⟨b, off, rfl, hc⟩ := H k hlt
   clear H
   generalize hy : gi xs k = y at *
   have HY := aa hy
   clear hy
   by_cases hxy : x = y
   ·have hx1 : (x == y) = true := by simp [hxy]
    have rG := aa hxy
    clear hxy
    go_wp2_with fail
    go_ret
    exact ⟨aI (lB (p := fun j => decide (x = gi xs j)) hlt hd.out (by rw [HY.out]; simpa using rG.out)).symm, rfl⟩
   ·have hx1 : (x == y) = false := by simpa using hxy
    have rG := aa hxy
    clear hxy
    go_wp2_with fail
    go_round
    case rel => exact ⟨k + 1, by omega, by go_num, fun j hj => if e : j = k then by subst e; rw [HY.out]; simpa using rG.out else hd.out j (by omega)⟩
    case measure => simp [intOf]; omega
  ·clear H
   go_wp2_with fail
   go_ret
   exact ⟨aI (jc fun j hj => hd.out j (by omega)).symm, rfl⟩
structure ze (w : World) (t : ay) (st : List Int) (cs : List (List Int)) (pC pL pS pT pO ob : Nat) (V : Nat → Value) (k : Nat) : Prop where
 cC : ∃ C, w.cell? ⟨pC, 0, none⟩ = some C ∧ aU (· ≠ ob) w C cs
 cL : ∃ L, w.cell? ⟨pL, 0, none⟩ = some L ∧ aq (· ≠ ob) w L (aj t.ns)
 cS : ∃ L, w.cell? ⟨pS, 0, none⟩ = some L ∧ aq (· ≠ ob) w L st
 cT : ∃ P N, w.cell? ⟨pT, 0, none⟩ = some P ∧ w.cell? ⟨pT, 1, none⟩ = some N ∧ aq (· ≠ ob) w P t.ps
 cO : w.cell? ⟨pO, 0, none⟩ = some (.slice (some ⟨ob, 0, none⟩) t.ps.length t.ps.length)
 row : w.rowIs ob 26 t.ps.length V
 rows : ∀ j, k ≤ j → j < t.ps.length → aq (· ≠ ob) w (V j) (aP t st cs j)
 ne : pC ≠ ob ∧ pL ≠ ob ∧ pS ≠ ob ∧ pT ≠ ob ∧ pO ≠ ob
def Re (w : World) (t : ay) (st : List Int) (cs : List (List Int)) (ob : Nat) (V : Nat → Value) (i : Nat) (e : Ending) (w' : World) : Prop :=
 e = .returned (.tuple #[]) ∧ w.grownBy w' (some ob) ∧ ∃ v, w'.rowIs ob 26 t.ps.length (fun j => if j = i then v else V j) ∧ aq (· ≠ ob) w' v (aP t st cs i)
structure eO (w1 wr : World) (R0 m : Nat) (f : Nat → Int) (ds : List Deferred) : Prop where
 grown : w1.grownBy wr (some R0)
 row : wr.rowIs R0 3 m (fun j => .int .i64 (f j))
 marks : Marks w1.heap.size wr ds
theorem Marks.drewN {n₀ : Nat} {w : World} {ds : List Deferred} (h : Marks n₀ w ds) (k : Nat) : Marks n₀ (w.drewN k) ds := Marks.keep (w := w) (w' := w.drewN k) (fun _ _ _ => rfl) h
theorem eO.drewN {w1 wr : World} {R0 m : Nat} {f : Nat → Int} {ds : List Deferred} (h : eO w1 wr R0 m f ds) (k : Nat) : eO w1 (wr.drewN k) R0 m f ds :=
 ⟨⟨h.grown.os, h.grown.tape, h.grown.output, h.grown.size, h.grown.block⟩, h.row, h.marks.drewN k⟩
theorem eO.congr {w1 wr : World} {R0 m : Nat} {f g : Nat → Int} {ds : List Deferred} (h : eO w1 wr R0 m f ds) (e : ∀ j, j < m → f j = g j) : eO w1 wr R0 m g ds :=
 ⟨h.grown, h.row.congr fun j hj => by rw [e j hj], h.marks⟩
theorem eO.set {w1 wr : World} {R0 m : Nat} {f : Nat → Int} {ds : List Deferred} (h : eO w1 wr R0 m f ds) (hR : R0 < w1.heap.size) (s : Nat) (x : Int) :
  eO w1 (wr.setCell ⟨R0, s, none⟩ (.int .i64 x)) R0 m (fun j => if j = s then x else f j) ds :=
 ⟨⟨h.grown.os, h.grown.tape, h.grown.output, by rw [World.size_setCell]; exact h.grown.size, fun k hk hne => (Below.heap_setCell _ _ _ k (fun e => hne (by rw [e]))).trans (h.grown.block k hk hne)⟩,
  (h.row.set s _).congr (fun j _ => by by_cases e : j = s <;> simp [e]), h.marks.keep fun r _ hr2 => Below.heap_setCell _ _ _ r (by simp only; omega)⟩
theorem eO.alloc {w1 wr : World} {R0 m : Nat} {f : Nat → Int} {ds : List Deferred} (h : eO w1 wr R0 m f ds) (o : Obj) : eO w1 (wr.alloc o) R0 m f ds :=
 ⟨⟨h.grown.os, h.grown.tape, h.grown.output, by simp; have := h.grown.size; omega, fun k hk hne => (Below.heap_alloc _ _ k (Nat.lt_of_lt_of_le hk h.grown.size)).trans (h.grown.block k hk hne)⟩,
  h.row.alloc o, h.marks.keep fun r hr _ => Below.heap_alloc _ _ r (by
   rcases Nat.lt_or_ge r wr.heap.size with h | h
   ·exact h
   ·rw [Array.getElem?_eq_none h] at hr; cases hr)⟩
theorem Mf {P : Program} {f : FuncId} {args : Array Value} {w : World} {n : Nat} {v : Value} (h : Calls P f args (w.drewN n) fun e w' => e = .returned v ∧ w.drewN n = w') :
  Calls P f args (w.drewN n) fun e w'' => e = .returned v ∧ ∃ m, w'' = w.drewN m := h.mono fun _ _ ⟨he, hm⟩ => ⟨he, n, hm.symm⟩
theorem Bu (S : Nat → Prop) (w : World) (n : Nat) : Kept S w (w.drewN n) := fun _ _ _ => rfl
theorem F8 {a b c : World} {R : Nat} (h : a.grownBy b (some R)) (k : b.grownBy c (some R)) : a.grownBy c (some R) :=
 ⟨k.os.trans h.os, k.tape.trans h.tape, k.output.trans h.output, Nat.le_trans h.size k.size, fun i hi hne => (k.block i (Nat.lt_of_lt_of_le hi h.size) hne).trans (h.block i hi hne)⟩
theorem eO.later {w1 w7 W : World} {R0 m : Nat} {f g : Nat → Int} {ds : List Deferred} (h : eO w1 w7 R0 m f ds) (hg : w7.grownBy W (some R0)) (hr : W.rowIs R0 3 m (fun j => .int .i64 (g j))) (hR : R0 < w1.heap.size) : eO w1 W R0 m g ds :=
 ⟨F8 h.grown hg, hr, h.marks.keep fun r hr hr2 => hg.block r (by
   rcases Nat.lt_or_ge r w7.heap.size with h | h
   ·exact h
   ·rw [Array.getElem?_eq_none h] at hr; cases hr) (by simp; omega)⟩
theorem VN {w7 : World} {R0 m : Nat} {β : Type} {f : β → Nat → Int} (hR : R0 < w7.heap.size) :
  OwnFrom w7.heap.size (fun (pre : β) W => W.rowIs R0 3 m (fun j => .int .i64 (f pre j)) ∧ w7.grownBy W (some R0)) := by
 rintro pre W W' row ⟨h1, h2⟩ hg hr
 refine ⟨h1.of_block (hg.block _ h1.lt (fun e => by have := (hr _ e.symm).1; omega)), hg.os.trans h2.os, hg.tape.trans h2.tape, hg.output.trans h2.output, Nat.le_trans h2.size hg.size, fun k hk hne => ?_⟩
 exact (hg.block k (Nat.lt_of_lt_of_le hk h2.size) (fun e => by have := (hr _ e.symm).1; omega)).trans (h2.block k hk hne)
theorem Rf {ps : List Int} {i : Nat} {f : Nat → Int} {A : Int} {B : Nat} (hA : 0 ≤ A) (hB : 0 ≤ (B : Int)) : ∀ (l : List (DO ps i)), (∀ c : DO ps i, -1 ≤ f c.1 ∧ f c.1 ≤ A) → l.length ≤ B → -(B : Int) ≤ ((vals l).map f).sum ∧ ((vals l).map f).sum ≤ A * B := by
 intro l h
 induction l generalizing B with
 | nil => intro _; simp [vals]; exact Int.mul_nonneg hA hB
 | cons c l ih =>
  intro hl
  simp only [List.length_cons] at hl
  obtain ⟨B', rfl⟩ : ∃ B', B = B' + 1 := ⟨B - 1, by omega⟩
  have := ih (B := B') (by omega) (by omega)
  have hc := h c
  have e : A * ((B' + 1 : Nat) : Int) = A * B' + A := by rw [Int.natCast_add, Int.mul_add]; simp
  rw [e]
  simp only [vals, List.map_cons, List.sum_cons] at this ⊢
  constructor <;> omega
set_option maxHeartbeats 2000000 in
theorem Xo (w : World) (t : ay) (st : List Int) (cs : List (List Int)) (pC pL pS pT pO ob : Nat) (V : Nat → Value) (i : Nat) (hi : i < t.ps.length) (hW : ze w t st cs pC pL pS pT pO ob V (i + 1))
  (hn : t.ps.length ≤ 64) (hm : cs.length ≤ 16) (hm0 : 0 < cs.length) (iz : (aj t.ns).length ≤ st.length) (hrl : ∀ a, a < cs.length → (gl cs a).length = cs.length) (hcb : ∀ a k, 0 ≤ gi (gl cs a) k ∧ gi (gl cs a) k ≤ 1000)
  (htb : ∀ j s, j < t.ps.length → -1 ≤ gi (aP t st cs j) s ∧ gi (aP t st cs j) s ≤ 100000) (gO : (aj t.ns).length ≤ 64) :
  Calls Tryz.prog 230 #[.int .i64 i, .pointer (some ⟨pC, 0, none⟩), .pointer (some ⟨pL, 0, none⟩), .pointer (some ⟨pS, 0, none⟩), .pointer (some ⟨pT, 0, none⟩), .pointer (some ⟨pO, 0, none⟩)] w (Re w t st cs ob V i) := by
 obtain ⟨C, Xp, hC⟩ := hW.cC
 obtain ⟨L, F9, hL⟩ := hW.cL
 obtain ⟨St, Xq, hS⟩ := hW.cS
 obtain ⟨P, N, nA, qB, hP⟩ := hW.cT
 have Um := hW.cO
 obtain ⟨fC, Aw, Bv⟩ := hC
 obtain ⟨qC, jB, rfl, hcapC, Oa⟩ := aB.open Aw
 obtain ⟨qL, capL, rfl, hcapL, dQ⟩ := aB.open hL
 obtain ⟨qS, jZ, rfl, hcapS, ur⟩ := aB.open hS
 have hb1 : Below w.heap.size w ((w.alloc (.cells (madeCells #[.int .i64 0] cs.length) 3)).alloc (.cells #[.slice (some ⟨w.heap.size, 0, none⟩) cs.length cs.length] 26)) := ((Below.refl _ w).alloc (Nat.le_refl _) _).alloc (by simp) _
 have Un := aB.keep hL (Kept.below hb1)
 have hix := J4 (· ≠ ob) _ _ _ (i : Int) Un (by omega)
 have DT := aa hix
 have lC := World.block_lt_of_cell? _ _ Xp
 have lL := World.block_lt_of_cell? _ _ F9
 have lS := World.block_lt_of_cell? _ _ Xq
 have lP := World.block_lt_of_cell? _ _ nA
 have lO := World.block_lt_of_cell? _ _ Um
 simp only at lC lL lS lP lO
 have Rg := cell_later hb1 Xp
 have hcL1 := cell_later hb1 F9
 have Rh := cell_later hb1 Xq
 have Ri := cell_later hb1 nA
 have rH := cell_later hb1 qB
 have Rj := cell_later hb1 Um
 have Uo := (World.rowIs_made w (.int .i64 0) cs.length 3).alloc (.cells #[.slice (some ⟨w.heap.size, 0, none⟩) cs.length cs.length] 26)
 have Xr : ((w.alloc (.cells (madeCells #[.int .i64 0] cs.length) 3)).alloc (.cells #[.slice (some ⟨w.heap.size, 0, none⟩) cs.length cs.length] 26)).cell? ⟨w.heap.size + 1, 0, none⟩ = some (.slice (some ⟨w.heap.size, 0, none⟩) cs.length cs.length) := by simp
 have Rk : ((w.alloc (.cells (madeCells #[.int .i64 0] cs.length) 3)).alloc (.cells #[.slice (some ⟨w.heap.size, 0, none⟩) cs.length cs.length] 26)).heap.size = w.heap.size + 2 := by simp
 have HW := aa hW
 have sY := aa htb
 have DR := aa hcb
 have od := aa hrl
 have HSTS := aa ur
 have gm := aa hb1
 have HROW1 := aa Uo
 have Ga := aa Rk
 have hmk := fun W => run_make_row' (P := Tryz.prog) 26 3 (.int .i64 0) 8 Tryz.underlying26 Tryz.ki rfl .i64 .i64 cs.length (by omega) (by omega) W
 have Xt := aa hP
 have HCI : Hid (aU (· ≠ ob) w (.slice qC cs.length jB) cs) := ⟨fC, Aw, Bv⟩
 clear hW htb hcb hrl Oa dQ ur Aw Bv hL hS hP hb1 Un hix Uo Rk F9 Xq nA qB Um
 refine (callsIn_wide (n := 9)).1 ?_
 refine callsIn_of_wp_marks Tryz.func230 rfl trivial ?_
 simp only [Tryz.ntmps230, List.size_toArray, List.length_cons, List.length_nil, Nat.reduceAdd, Nat.reduceSub, Array.replicate_succ, Array.replicate_zero, List.push_toArray, List.append_toArray, List.nil_append, List.cons_append]
 gi_wp2_with fail
 refine ⟨trivial, (callsIn_wide.2 DT.out).mono ?_⟩
 rintro e w' ⟨rfl, rfl⟩
 generalize hw1 : ((w.alloc (.cells (madeCells #[.int .i64 0] cs.length) 3)).alloc (.cells #[.slice (some ⟨w.heap.size, 0, none⟩) cs.length cs.length] 26)) = w1 at *
 clear hw1 DT hmk
 have hle : eM t.ns i = b8 (fun j => decide ((i : Int) = gi (aj t.ns) j)) (aj t.ns).length := rfl
 rw [← hle]
 have hlo := Bk (fun j => decide ((i : Int) = gi (aj t.ns) j)) (aj t.ns).length
 rw [← hle] at hlo
 have how : jd t.ns st i = if 0 ≤ eM t.ns i then gi st (eM t.ns i).toNat else -1 := rfl
 have HOW := aa how
 generalize hk : eM t.ns i = kl at *
 obtain ⟨hk1, hk2, _⟩ := hlo
 clear hle hk how
 gi_wp2_with fail
 refine wpIn_loop (fun a wr => ∃ (s : Nat) (ds : List Deferred) (u6 u9 u10 u11 u12 u13 u14 u15 u16 u17 u18 u19 u22 u23 u24 u25 u26 u27 u28 u29 u30 u31 u32 u33 u34 u35 u36 u37 u38 u39 u40 u41 u42 u43 u44 u45 u46 u47 u48 u49 u50 u51 u52 u53 u54 u55 u56 u57 u58 u59 u60 u61 u62 u63 u64 u65 u66 u67 u68 u69 : Value), s ≤ cs.length ∧ a = { tmps := #[.int .i64 i, .pointer (some ⟨pC, 0, none⟩), .pointer (some ⟨pL, 0, none⟩), .pointer (some ⟨pS, 0, none⟩), .pointer (some ⟨pT, 0, none⟩), .pointer (some ⟨pO, 0, none⟩), u6, .pointer (some ⟨w.heap.size + 1, 0, none⟩), .int .i64 kl, u9, u10, u11, u12, u13, u14, u15, u16, u17, u18, u19, .int .i64 cs.length, .int .i64 s, u22, u23, u24, u25, u26, u27, u28, u29, u30, u31, u32, u33, u34, u35, u36, u37, u38, u39, u40, u41, u42, u43, u44, u45, u46, u47, u48, u49, u50, u51, u52, u53, u54, u55, u56, u57, u58, u59, u60, u61, u62, u63, u64, u65, u66, u67, u68, u69], defers := ds } ∧ eO w1 wr w.heap.size cs.length (fun j => if j < s then gi (aP t st cs i) j else 0) ds) (fun a _ => cs.length - (intOf (a.tmps.getD 21 undef)).toNat) ?start ?round
 case start =>
  exact ⟨0, [], _, _, _, _, _, _, _, _, _, _, _, _, _, _, _, _, _, _, _, _, _, _, _, _, _, _, _, _, _, _, _, _, _, _, _, _, _, _, _, _, _, _, _, _, _, _, _, _, _, _, _, _, _, _, _, _, _, _, _, _, Nat.zero_le _, rfl, ⟨⟨rfl, rfl, rfl, Nat.le_refl _, fun _ _ _ => rfl⟩, HROW1.out.congr (fun j _ => by simp), trivial⟩⟩
 case round =>
  rintro a wr ⟨s, ds, u6, u9, u10, u11, u12, u13, u14, u15, u16, u17, u18, u19, u22, u23, u24, u25, u26, u27, u28, u29, u30, u31, u32, u33, u34, u35, u36, u37, u38, u39, u40, u41, u42, u43, u44, u45, u46, u47, u48, u49, u50, u51, u52, u53, u54, u55, u56, u57, u58, u59, u60, u61, u62, u63, u64, u65, u66, u67, u68, u69, hs, rfl, Xu⟩
  have hg := Xu.grown
  have Xv := hg.cell Rg (by simp; omega)
  have Xw := hg.cell Rh (by simp; omega)
  have Xx := hg.cell Ri (by simp; omega)
  have Xy := hg.cell rH (by simp; omega)
  have Xz := hg.cell Rj (by simp; omega)
  have DU := hg.cell Xr (by simp)
  have sZ := aa Xu
  have HCS1 := aa Rh
  have HCC1 := aa Rg
  have HCO1 := aa Rj
  have HCP1 := aa Ri
  have HCN1 := aa rH
  have Bw := aa Xr
  have HG := aa hg
  clear Rg Rh Ri rH Rj Xr Xu hg hcL1
  by_cases hlt : s < cs.length
  ·have nB : Below wr.heap.size wr (wr.alloc (.cells #[.int .i64 s] 3)) := (Below.refl _ _).alloc (Nat.le_refl _) _
   have Uq := cell_later nB Xv
   have Ur := cell_later nB Xw
   have Us := cell_later nB Xx
   have Ut := cell_later nB Xy
   have Uu := cell_later nB Xz
   have Uv := cell_later nB DU
   have DV : (wr.alloc (.cells #[.int .i64 s] 3)).cell? ⟨wr.heap.size, 0, none⟩ = some (.int .i64 s) := by simp
   have Mg := sZ.out.alloc (.cells #[.int .i64 s] 3)
   have hsB : w.heap.size + 2 ≤ wr.heap.size ∧ (wr.alloc (.cells #[.int .i64 s] 3)).heap.size = wr.heap.size + 1 := ⟨by have := HG.out.size; have := Ga.out; omega, by simp⟩
   have vE := aa Mg
   have bY := aa hsB
   have Ob := Mg.row.frozen s
   have Oc := Mg.row.cell hlt
   simp only [Nat.lt_irrefl, if_false] at Oc
   clear nB Mg hsB sZ HG
   gi_wp2_with fail
   clear Xv Xw Xx Xy Xz DU
   generalize hw5 : (wr.alloc (.cells #[.int .i64 s] 3)) = w5 at *
   clear hw5
   generalize oa : wr.heap.size = sB at *
   clear oa
   by_cases fT : 0 ≤ kl
   obtain ⟨kn, rfl⟩ := Int.eq_ofNat_of_zero_le fT
   obtain ⟨b, off, rfl, gM⟩ := HSTS.out kn (by omega)
   have hcx2 : w5.cell? ⟨b, off + kn, none⟩ = some (.int .i64 (gi st kn)) := vE.out.grown.cell (gm.out.cell (p := ⟨b, off + kn, none⟩) (World.block_lt_of_cell? _ _ gM) |>.trans gM) (by have := World.block_lt_of_cell? _ _ gM; simp at this ⊢; omega)
   rw [if_pos fT, Int.toNat_natCast] at HOW
   have i1 : (0 : Int) ≤ (kn : Int) := by omega
   have i2 : (kn : Int) < (st.length : Int) := by omega
   clear gM
   generalize hx : gi st kn = x at *
   clear hx
   by_cases hx0 : 0 ≤ x
   by_cases hxs : x = s
   focus
    have hx1 : (x != (s : Int)) = false := by simp [hxs]
    have HX := aa hxs
    clear hxs
    gi_wp2_with fail
    gi_quiet (fail)
    gi_wp2_with fail
    have H6 : Hid (eO w1 (w5.drewN nq) w.heap.size cs.length (fun j => if j < s then gi (aP t st cs i) j else if j = s then eC t st i s else 0) ds) := (vE.out.drewN nq).congr fun j _ => by
     rw [show eC t st i s = 0 from by unfold eC; rw [HOW.out, if_neg (fun h => h.2 HX.out)]]
     by_cases e1 : j < s <;> by_cases e2 : j = s <;> simp [e1, e2]
    have Uw : (w5.drewN nq).cell? ⟨sB, 0, none⟩ = some (.int .i64 s) := DV
    have Ux : Hid ((w5.drewN nq).heap.size = sB + 1) := bY.out.2
    clear Uq Ur Us Ut Uu Uv DV Ob Oc vE
    generalize w5.drewN nq = w6 at *

   rotate_left
   focus
    have hx1 : (x != (s : Int)) = true := by simpa using hxs
    have HX := aa hxs
    clear hxs
    gi_wp2_with fail
    gi_quiet (fail)
    gi_wp2_with fail
    have h6f : (w5.drewN nq).frozen? ⟨w.heap.size, s, none⟩ = false := Ob
    have H6 : Hid (eO w1 ((w5.drewN nq).setCell ⟨w.heap.size, s, none⟩ (.int .i64 (-1))) w.heap.size cs.length (fun j => if j < s then gi (aP t st cs i) j else if j = s then eC t st i s else 0) ds) := ((vE.out.drewN nq).set (by have := Ga.out; omega) s (-1)).congr fun j _ => by
     rw [show eC t st i s = -1 from by unfold eC; rw [HOW.out, if_pos ⟨hx0, HX.out⟩]]
     by_cases e1 : j = s
     ·subst e1; simp
     ·simp [e1]
    have Uw : ((w5.drewN nq).setCell ⟨w.heap.size, s, none⟩ (.int .i64 (-1))).cell? ⟨sB, 0, none⟩ = some (.int .i64 s) := by
     rw [World.cell?_setCell_other _ _ _ _ (by intro e; injection e with e; have := bY.out; omega)]; exact DV
    have Ux : Hid (((w5.drewN nq).setCell ⟨w.heap.size, s, none⟩ (.int .i64 (-1))).heap.size = sB + 1) := by unfold Hid; rw [World.size_setCell]; exact bY.out.2
    clear Uq Ur Us Ut Uu Uv DV Ob Oc vE h6f
    generalize (w5.drewN nq).setCell ⟨w.heap.size, s, none⟩ (.int .i64 (-1)) = w6 at *

   rotate_left
   focus
    have hx1 : decide (0 ≤ x) = false := by simpa using hx0
    gi_wp2_with fail
    gi_quiet (fail)
    gi_wp2_with fail
    have H6 : Hid (eO w1 (w5.drewN nq) w.heap.size cs.length (fun j => if j < s then gi (aP t st cs i) j else if j = s then eC t st i s else 0) ds) := (vE.out.drewN nq).congr fun j _ => by
     rw [show eC t st i s = 0 from by unfold eC; rw [HOW.out, if_neg (fun h => by omega)]]
     by_cases e1 : j < s <;> by_cases e2 : j = s <;> simp [e1, e2]
    have Uw : (w5.drewN nq).cell? ⟨sB, 0, none⟩ = some (.int .i64 s) := DV
    have Ux : Hid ((w5.drewN nq).heap.size = sB + 1) := bY.out.2
    clear Uq Ur Us Ut Uu Uv DV Ob Oc vE
    generalize w5.drewN nq = w6 at *

   rotate_left
   focus
    rw [if_neg fT] at HOW
    have hx1 : decide (0 ≤ kl) = false := by simpa using fT
    gi_wp2_with fail
    gi_quiet (fail)
    gi_wp2_with fail
    have H6 : Hid (eO w1 (w5.drewN nq) w.heap.size cs.length (fun j => if j < s then gi (aP t st cs i) j else if j = s then eC t st i s else 0) ds) := (vE.out.drewN nq).congr fun j _ => by
     rw [show eC t st i s = 0 from by unfold eC; rw [HOW.out, if_neg (fun h => by omega)]]
     by_cases e1 : j < s <;> by_cases e2 : j = s <;> simp [e1, e2]
    have Uw : (w5.drewN nq).cell? ⟨sB, 0, none⟩ = some (.int .i64 s) := DV
    have Ux : Hid ((w5.drewN nq).heap.size = sB + 1) := bY.out.2
    clear Uq Ur Us Ut Uu Uv DV Ob Oc vE
    generalize w5.drewN nq = w6 at *

   rotate_left
   all_goals
    refine ⟨trivial, (callsIn_wide.2 (Xk w6 _ P N rfl i)).mono ?_⟩
    rintro e w7 ⟨rfl, rfl⟩
    gi_wp2_with fail
    have Od : Below w6.heap.size w6 ((w6.alloc (.cells #[P, N] 39)).alloc (.cells #[.int .i64 i] 3)) := ((Below.refl _ _).alloc (Nat.le_refl _) _).alloc (by simp) _
    have h7s := cell_later Od Uw
    have h7n : ((w6.alloc (.cells #[P, N] 39)).alloc (.cells #[.int .i64 i] 3)).cell? ⟨w6.heap.size + 1, 0, none⟩ = some (.int .i64 i) := by simp
    have h7p : ((w6.alloc (.cells #[P, N] 39)).alloc (.cells #[.int .i64 i] 3)).cell? ⟨w6.heap.size, 0, none⟩ = some P := by simp
    have h7z : ((w6.alloc (.cells #[P, N] 39)).alloc (.cells #[.int .i64 i] 3)).heap.size = w6.heap.size + 2 := by simp
    have Rl := (H6.out.alloc (.cells #[P, N] 39)).alloc (.cells #[.int .i64 i] 3)
    have h6e : w6.heap.size = sB + 1 := Ux.out
    generalize ((w6.alloc (.cells #[P, N] 39)).alloc (.cells #[.int .i64 i] 3)) = w7 at *
    generalize w6.heap.size = z6 at *
    have hz1 := Ga.out
    have hsb1 := bY.out.1
    have hold : ∀ W, w7.grownBy W (some w.heap.size) → ∀ b, b < w.heap.size → W.heap[b]? = w.heap[b]? := fun W hg b hb =>
     ((hg.block b (by omega) (by simp; omega)).trans (Rl.grown.block b (by omega) (by simp; omega))).trans (gm.out.block b hb)
    have Oe : w7.grownBy w7 (some w.heap.size) := ⟨rfl, rfl, rfl, Nat.le_refl _, fun _ _ _ => rfl⟩
    have Bz : aq (fun b => b ≠ w.heap.size ∧ b < w7.heap.size) w7 P t.ps := ((Xt.out.sub (T := fun b => b < w.heap.size) fun b _ hb => hb).keep fun b hb _ => hold w7 Oe b hb).sub fun b hb _ => ⟨by omega, by omega⟩
    have xL : ∀ c, c < t.ps.length → -1 ≤ iJ t st cs s c ∧ iJ t st cs s c ≤ 101000 := fun c hc => FT (A := 100000) (by omega) (fun k => DR.out s k) (fun k => (sY.out c k hc).2) _
    have XA := aa xL
    have HOLD := aa hold
    have Gc := aa Rl
    have H7S := aa h7s
    have HZ7 := aa h7z
    have HZ1 := aa hz1
    have h7zz : w.heap.size < w7.heap.size := by omega
    apply wpIn_rangeFunc_ownF (F := Fence.wide) (n := 9) (P := Tryz.prog) (ps := #[47]) (w := w7) rfl (by omega) (gf := 268) (lb := #[.pointer (some ⟨z6 + 1, 0, none⟩), .pointer (some ⟨z6, 0, none⟩)]) rfl trivial (enters_of Tryz.func268 (by kernel_rfl) rfl)
     (Mb 8 (by omega) (z6 + 1) z6 (fun b => b ≠ w.heap.size ∧ b < w7.heap.size) t.ps i P w7 (fun b hb => hb.2) h7n h7p Bz ⟨by omega, by omega⟩ ⟨by omega, by omega⟩ hi (by omega))
     (fun h k => KS.trans h k) (fun W l o o' hl _ _ _ => fun b (hb : b ≠ w.heap.size ∧ b < w7.heap.size) => World.putObj_heap_other (by have := hb.2; omega)) (Below.refl _ _) (fun _ => (rfl : (1 : Nat) = 1))
     (fun pre W => W.rowIs w.heap.size 3 cs.length (fun j => .int .i64 (if j < s then gi (aP t st cs i) j else if j = s then eC t st i s + ((vals pre).map (iJ t st cs s)).sum else 0)) ∧ w7.grownBy W (some w.heap.size))
     (fun _ _ _ => False) (VN h7zz) (fun _ _ _ _ _ h _ _ => h)
     ⟨Rl.row.congr fun j _ => by simp [vals], Oe⟩
    ·intro l x W K hK
     gi_wp2
     exact hK
    ·rintro l pre x W ⟨hrow, DW⟩ hlen
     have hkeep := HOLD.out W DW
     have bC : W.cell? ⟨pC, 0, none⟩ = some (.slice qC cs.length jB) := (World.cell?_of_block (hkeep pC lC)).trans Xp
     have bO : W.cell? ⟨pO, 0, none⟩ = some (.slice (some ⟨ob, 0, none⟩) t.ps.length t.ps.length) := (World.cell?_of_block (hkeep pO lO)).trans HW.out.cO
     have bs : W.cell? ⟨sB, 0, none⟩ = some (.int .i64 s) := DW.cell H7S.out (by simp; omega)
     have bR : W.cell? ⟨w.heap.size + 1, 0, none⟩ = some (.slice (some ⟨w.heap.size, 0, none⟩) cs.length cs.length) := DW.cell (Gc.out.grown.cell Bw.out (by simp)) (by simp)
     obtain ⟨hx1, hx2, _⟩ := cr.1 x.2
     have bV : W.cell? ⟨ob, x.1, none⟩ = some (V x.1) := (World.cell?_of_block (hkeep ob HW.out.row.lt)).trans (HW.out.row.cell hx1)
     have XB := HW.out.rows x.1 hx2 hx1
     have hVW : aq (fun b => b < w.heap.size) W (V x.1) (aP t st cs x.1) := (XB.sub (T := fun b => b < w.heap.size) fun b _ hb => hb).keep fun b hb _ => hkeep b hb
     have hCW : aU (fun b => b < w.heap.size) W (.slice qC cs.length jB) cs := (HCI.out.sub (T := fun b => b < w.heap.size) fun b _ hb => hb).keep fun b hb _ => hkeep b hb
     have BA := fun k => Xl _ _ (W.drewN k) _ _ cs (aP t st cs x.1) s (hCW.keep (Bu _ _ _)) (hVW.keep (Bu _ _ _)) hlt (by rw [fH, od.out s hlt]; exact Nat.le_refl _) (by rw [fH]; omega) (DR.out s) (fun k => by have := (sY.out x.1 k hx1).2; omega)
     obtain ⟨qv, cv, ev, _, _⟩ := aB.open XB
     rw [ev] at bV BA
     unfold xO at BA
     have ha := XA.out x.1 hx1
     have hak : (bh (gi (gl cs s)) (gi (aP t st cs x.1)) (aP t st cs x.1).length).1 = iJ t st cs s x.1 := rfl
     rw [hak] at BA
     have hrs := hrow.cell hlt
     have hrf := hrow.frozen s
     simp only [Nat.lt_irrefl, if_false, if_true] at hrs
     have rI : eC t st i s = 0 ∨ eC t st i s = -1 := by unfold eC; split <;> simp
     have hsm : -64 ≤ ((vals pre).map (iJ t st cs s)).sum ∧ ((vals pre).map (iJ t st cs s)).sum ≤ 101000 * 64 := by
      have h0 := Rf (A := 101000) (B := 64) (f := iJ t st cs s) (by omega) (by omega) pre (fun c => XA.out c.1 (cr.1 c.2).1) (by omega)
      constructor <;> omega
     have HBEST := aa BA
     have Mh := aa hrow
     have HG7 := aa DW
     have hbs2 : -1 ≤ eC t st i s ∧ eC t st i s ≤ 0 := by omega
     have i1 : (0 : Int) ≤ (x.1 : Int) := by omega
     have i2 : (x.1 : Int) < (t.ps.length : Int) := by omega
     obtain ⟨ha1, ha2⟩ := ha
     obtain ⟨hsm1, hsm2⟩ := hsm
     obtain ⟨hb1, hb2⟩ := hbs2
     have HPX : Hid (((vals (pre ++ [x])).map (iJ t st cs s)).sum = ((vals pre).map (iJ t st cs s)).sum + iJ t st cs s x.1) := by unfold Hid; rw [xM]; simp
     clear BA hrow DW hkeep hVW hCW XB hak rI HW sY DR od HOLD Gc H7S Bz
     generalize ((vals pre).map (iJ t st cs s)).sum = sm at *
     generalize iJ t st cs s x.1 = ad at *
     generalize eC t st i s = bt at *
     generalize (bh (gi (gl cs s)) (gi (aP t st cs x.1)) (aP t st cs x.1).length).2 = ow at *
     gi_wp2
     have hf52 : Fence.wide.fn 232 := trivial
     have hf52r : (Fence.wide.inRound l).fn 232 := trivial
     refine CQ (l₀ := l) rfl (by kernel_rfl) (by kernel_rfl) (by kernel_rfl) ?_
     repeat (gi_big_quiet_step (fail))
     gi_big_quiet_want
     gi_big_quiet_op
     refine ⟨_, fun k => CallsIn.inRound l (callsIn_wide.2 (Mf (HBEST.out k))), ?_⟩
     go_big_quiet_on
     repeat (gi_big_quiet_step (fail))
     refine wpQuietIn_nil ?_
     intro _ hw'
     obtain ⟨nq, hw''⟩ := hw'
     subst hw''
     gi_wp2
     refine ⟨?_, ?_, ?_, ?_⟩
     ·exact ⟨(KeepsOthers.setCell (W.drewN nq) _ _).size, (KeepsOthers.setCell (W.drewN nq) _ _).same⟩
     ·exact fun b hb => Below.heap_setCell (W.drewN nq) _ _ b hb.1
     ·exact ((show (W.drewN nq).rowIs w.heap.size 3 cs.length _ from Mh.out).set s _).congr fun j _ => by
       by_cases e : j = s
       ·subst e; simp [HPX.out]; omega
       ·simp [e]
     ·exact F8 HG7.out ⟨rfl, rfl, rfl, by rw [World.size_setCell]; exact Nat.le_refl _, fun k _ hne => Below.heap_setCell (W.drewN nq) _ _ k (fun e => hne (by rw [e]))⟩
    ·rintro D xs W hD hS ⟨hrow, DW⟩ hK
     have hT : eC t st i s + ((vals xs).map (iJ t st cs s)).sum = gi (aP t st cs i) s := by rw [hS, dh _ _ _ _ hlt, KO _ _ _ hi]
     have XC := (Gc.out.later DW hrow (by omega)).congr (g := fun j => if j < s + 1 then gi (aP t st cs i) j else 0) (fun j _ => by
      by_cases e1 : j < s
      ·simp [e1, Nat.lt_succ_of_lt e1]
      ·by_cases e2 : j = s
       ·subst e2; simp [hT]
       ·have e3 : ¬ j < s + 1 := by omega
        simp [e1, e2, e3])
     have hMK : Marks w1.heap.size W ({ target := .collected D, args := #[] } :: ds) := ⟨⟨D, rfl, by have := Gc.out.grown.size; omega, hK, fun d' hd' e => by
      obtain ⟨r, hr, hr2⟩ := Gc.out.marks.lt d' hd'
      rw [hr] at e; injection e with e; omega⟩, XC.marks⟩
     have Uy := aa XC
     have XD := aa hMK
     clear hT XC hMK hrow DW hK Bz
     gi_wp2_with fail
     refine ⟨⟨s + 1, _, _, _, _, _, _, _, _, _, _, _, _, _, _, _, _, _, _, _, _, _, _, _, _, _, _, _, _, _, _, _, _, _, _, _, _, _, _, _, _, _, _, _, _, _, _, _, _, _, _, _, _, _, _, _, _, _, _, _, _, _, by omega, rfl, ⟨Uy.out.grown, Uy.out.row, XD.out⟩⟩, ?_⟩
     simp [intOf]; omega
    ·rintro D c pre W _ _ h _
     exact h.elim
  ·obtain rfl : s = cs.length := by omega
   clear hlt
   have Uz := HW.out.row.lt
   have hkeep : ∀ b, b < w.heap.size → wr.heap[b]? = w.heap[b]? := fun b hb => (HG.out.block b (by have := Ga.out; omega) (by simp; omega)).trans (gm.out.block b hb)
   have hro := HW.out.row.of_block (hkeep ob Uz)
   have hx1 := hro.cell hi
   have hx2 := hro.frozen i
   have hle1 : w.heap.size + 2 ≤ w1.heap.size := by have := Ga.out; omega
   have HKP := aa hkeep
   have HRO := aa hro
   clear hkeep hro
   have XE := sZ
   gi_wp2_with fail
   refine xN (v := .tuple #[]) (n₀ := w1.heap.size) (fun _ => results_none rfl _ _ _) (XE.out.marks.keep fun r _ hr2 => Below.heap_setCell _ _ _ r (by simp only; omega)) fun w' hb hs' hc => ⟨rfl, ?_, .slice (some ⟨w.heap.size, 0, none⟩) cs.length cs.length, ?_, ?_⟩
   ·refine ⟨hb.os.trans (HG.out.os.trans gm.out.os), hb.tape.trans (HG.out.tape.trans gm.out.tape), hb.output.trans (HG.out.output.trans gm.out.output), ?_, fun k hk hne => ?_⟩
    ·have h1 := hb.size; rw [World.size_setCell] at h1; have h2 := HG.out.size; omega
    ·exact ((hb.block k (by omega)).trans (Below.heap_setCell _ _ _ k (fun e => hne (by rw [e])))).trans (HKP.out k hk)
   ·exact ((HRO.out.set i _).of_block (hb.block ob (by omega)))
   ·have hrow2 := (XE.out.row.setOther (a := ⟨ob, i, none⟩) (by simp only; omega) (.slice (some ⟨w.heap.size, 0, none⟩) cs.length cs.length)).of_block (hb.block w.heap.size (by omega))
    refine ⟨some ⟨w.heap.size, 0, none⟩, cs.length, by rw [fH], by rw [fH]; exact Nat.le_refl _, .inr ⟨w.heap.size, 0, rfl, by omega, fun k hk => ?_⟩⟩
    rw [fH] at hk
    have h1 := hrow2.cell hk
    simp only [hk, if_true] at h1
    rw [Nat.zero_add]; exact h1
end Go.Proofs.YthgabkgmkolobaaGreat
