/- The contract of the closure that fills a row of the table. -/
import Derived.Test.YteegefnjnikngaaGreatQ4
import Derived.Test.YteegefnjnikngaaGreatQ1
set_option maxRecDepth 100000
namespace Go.Proofs.YteegefnjnikngaaGreat
open Go.RowKit Go.Shelf Go.Deep
attribute [local go_sem] Oper.semAt_some
set_option maxHeartbeats 400000 in
theorem FD (S : Nat → Prop) (w : World) (v : Value) (xs : List Int) (x : Int) (h : ax S w v xs) (hn : xs.length ≤ 1000000) :
  Calls Tryz.prog 67 #[v, .int .i64 x] w fun e w' => e = .returned (.int .i64 (bJ (fun j => decide (x = gi xs j)) xs.length)) ∧ w = w' := by
 obtain ⟨p, cap, rfl, hcap, H⟩ := aA.open h
 clear h
 go_enter Tryz.func67, Tryz.ntmps67
 go_wp2_with fail
 go_loop [5, 8] (fun _ i => ∃ k : Nat, k ≤ xs.length ∧ i = .int .i64 k ∧ Hid (∀ j, j < k → decide (x = gi xs j) = false)) (fun _ i => xs.length - (intOf i).toNat)
 case atStart => exact ⟨0, Nat.zero_le _, rfl, fun j hj => absurd hj (Nat.not_lt_zero _)⟩
 case round =>
  obtain ⟨k, hk, rfl, hd⟩ := hrel
  by_cases hlt : k < xs.length
  ·obtain ⟨b, off, rfl, hc⟩ := H k hlt
   clear H
   generalize hy : gi xs k = y at *
   have HY := aa hy
   clear hy
   by_cases hxy : x = y
   ·have hx1 : (x == y) = true := by simp [hxy]
    have Sb := aa hxy
    clear hxy
    go_wp2_with fail
    go_ret
    exact ⟨aH (kT (p := fun j => decide (x = gi xs j)) hlt hd.out (by rw [HY.out]; simpa using Sb.out)).symm, rfl⟩
   ·have hx1 : (x == y) = false := by simpa using hxy
    have Sb := aa hxy
    clear hxy
    go_wp2_with fail
    go_round
    case rel => exact ⟨k + 1, by omega, by go_num, fun j hj => if e : j = k then by subst e; rw [HY.out]; simpa using Sb.out else hd.out j (by omega)⟩
    case measure => simp [intOf]; omega
  ·clear H
   go_wp2_with fail
   go_ret
   exact ⟨aH (gO fun j hj => hd.out j (by omega)).symm, rfl⟩
structure vA (w : World) (t : av) (st : List Int) (cs : List (List Int)) (pC pL pS pT pO ob : Nat) (V : Nat → Value) (k : Nat) : Prop where
 cC : ∃ C, w.cell? ⟨pC, 0, none⟩ = some C ∧ aX (· ≠ ob) w C cs
 cL : ∃ L, w.cell? ⟨pL, 0, none⟩ = some L ∧ ax (· ≠ ob) w L (aC t.ns)
 cS : ∃ L, w.cell? ⟨pS, 0, none⟩ = some L ∧ ax (· ≠ ob) w L st
 cT : ∃ P N, w.cell? ⟨pT, 0, none⟩ = some P ∧ w.cell? ⟨pT, 1, none⟩ = some N ∧ ax (· ≠ ob) w P t.ps
 cO : w.cell? ⟨pO, 0, none⟩ = some (.slice (some ⟨ob, 0, none⟩) t.ps.length t.ps.length)
 row : w.rowIs ob 26 t.ps.length V
 rows : ∀ j, k ≤ j → j < t.ps.length → ax (· ≠ ob) w (V j) (aN t st cs j)
 ne : pC ≠ ob ∧ pL ≠ ob ∧ pS ≠ ob ∧ pT ≠ ob ∧ pO ≠ ob
def MC (w : World) (t : av) (st : List Int) (cs : List (List Int)) (ob : Nat) (V : Nat → Value) (i : Nat) (e : Ending) (w' : World) : Prop :=
 e = .returned (.tuple #[]) ∧ w.grownBy w' (some ob) ∧ ∃ v, w'.rowIs ob 26 t.ps.length (fun j => if j = i then v else V j) ∧ ax (· ≠ ob) w' v (aN t st cs i)
structure dI (w1 wr : World) (R0 m : Nat) (f : Nat → Int) (ds : List Deferred) : Prop where
 grown : w1.grownBy wr (some R0)
 row : wr.rowIs R0 3 m (fun j => .int .i64 (f j))
 marks : Marks w1.heap.size wr ds
theorem Marks.drewN {n₀ : Nat} {w : World} {ds : List Deferred} (h : Marks n₀ w ds) (k : Nat) : Marks n₀ (w.drewN k) ds := Marks.keep (w := w) (w' := w.drewN k) (fun _ _ _ => rfl) h
theorem dI.drewN {w1 wr : World} {R0 m : Nat} {f : Nat → Int} {ds : List Deferred} (h : dI w1 wr R0 m f ds) (k : Nat) : dI w1 (wr.drewN k) R0 m f ds :=
 ⟨⟨h.grown.os, h.grown.tape, h.grown.output, h.grown.size, h.grown.block⟩, h.row, h.marks.drewN k⟩
theorem dI.congr {w1 wr : World} {R0 m : Nat} {f g : Nat → Int} {ds : List Deferred} (h : dI w1 wr R0 m f ds) (e : ∀ j, j < m → f j = g j) : dI w1 wr R0 m g ds :=
 ⟨h.grown, h.row.congr fun j hj => by rw [e j hj], h.marks⟩
theorem dI.set {w1 wr : World} {R0 m : Nat} {f : Nat → Int} {ds : List Deferred} (h : dI w1 wr R0 m f ds) (hR : R0 < w1.heap.size) (s : Nat) (x : Int) :
  dI w1 (wr.setCell ⟨R0, s, none⟩ (.int .i64 x)) R0 m (fun j => if j = s then x else f j) ds :=
 ⟨⟨h.grown.os, h.grown.tape, h.grown.output, by rw [World.size_setCell]; exact h.grown.size, fun k hk hne => (Below.heap_setCell _ _ _ k (fun e => hne (by rw [e]))).trans (h.grown.block k hk hne)⟩,
  (h.row.set s _).congr (fun j _ => by by_cases e : j = s <;> simp [e]), h.marks.keep fun r _ hr2 => Below.heap_setCell _ _ _ r (by simp only; omega)⟩
theorem dI.alloc {w1 wr : World} {R0 m : Nat} {f : Nat → Int} {ds : List Deferred} (h : dI w1 wr R0 m f ds) (o : Obj) : dI w1 (wr.alloc o) R0 m f ds :=
 ⟨⟨h.grown.os, h.grown.tape, h.grown.output, by simp; have := h.grown.size; omega, fun k hk hne => (Below.heap_alloc _ _ k (Nat.lt_of_lt_of_le hk h.grown.size)).trans (h.grown.block k hk hne)⟩,
  h.row.alloc o, h.marks.keep fun r hr _ => Below.heap_alloc _ _ r (by
   rcases Nat.lt_or_ge r wr.heap.size with h | h
   ·exact h
   ·rw [Array.getElem?_eq_none h] at hr; cases hr)⟩
theorem Hy {P : Program} {f : FuncId} {args : Array Value} {w : World} {n : Nat} {v : Value} (h : Calls P f args (w.drewN n) fun e w' => e = .returned v ∧ w.drewN n = w') :
  Calls P f args (w.drewN n) fun e w'' => e = .returned v ∧ ∃ m, w'' = w.drewN m := h.mono fun _ _ ⟨he, hm⟩ => ⟨he, n, hm.symm⟩
theorem yg (S : Nat → Prop) (w : World) (n : Nat) : Kept S w (w.drewN n) := fun _ _ _ => rfl
theorem CP {a b c : World} {R : Nat} (h : a.grownBy b (some R)) (k : b.grownBy c (some R)) : a.grownBy c (some R) :=
 ⟨k.os.trans h.os, k.tape.trans h.tape, k.output.trans h.output, Nat.le_trans h.size k.size, fun i hi hne => (k.block i (Nat.lt_of_lt_of_le hi h.size) hne).trans (h.block i hi hne)⟩
theorem dI.later {w1 w7 W : World} {R0 m : Nat} {f g : Nat → Int} {ds : List Deferred} (h : dI w1 w7 R0 m f ds) (hg : w7.grownBy W (some R0)) (hr : W.rowIs R0 3 m (fun j => .int .i64 (g j))) (hR : R0 < w1.heap.size) : dI w1 W R0 m g ds :=
 ⟨CP h.grown hg, hr, h.marks.keep fun r hr hr2 => hg.block r (by
   rcases Nat.lt_or_ge r w7.heap.size with h | h
   ·exact h
   ·rw [Array.getElem?_eq_none h] at hr; cases hr) (by simp; omega)⟩
theorem QG {w7 : World} {R0 m : Nat} {β : Type} {f : β → Nat → Int} (hR : R0 < w7.heap.size) :
  OwnFrom w7.heap.size (fun (pre : β) W => W.rowIs R0 3 m (fun j => .int .i64 (f pre j)) ∧ w7.grownBy W (some R0)) := by
 rintro pre W W' row ⟨h1, h2⟩ hg hr
 refine ⟨h1.of_block (hg.block _ h1.lt (fun e => by have := (hr _ e.symm).1; omega)), hg.os.trans h2.os, hg.tape.trans h2.tape, hg.output.trans h2.output, Nat.le_trans h2.size hg.size, fun k hk hne => ?_⟩
 exact (hg.block k (Nat.lt_of_lt_of_le hk h2.size) (fun e => by have := (hr _ e.symm).1; omega)).trans (h2.block k hk hne)
theorem MD {ps : List Int} {i : Nat} {f : Nat → Int} {A : Int} {B : Nat} (hA : 0 ≤ A) (hB : 0 ≤ (B : Int)) : ∀ (l : List (Au ps i)), (∀ c : Au ps i, -1 ≤ f c.1 ∧ f c.1 ≤ A) → l.length ≤ B → -(B : Int) ≤ ((vals l).map f).sum ∧ ((vals l).map f).sum ≤ A * B := by
 intro l h
 induction l generalizing B with
 | nil => intro _; simp [vals]; exact Int.mul_nonneg hA hB
 | cons c l ih =>
  intro hl
  simp only [List.length_cons] at hl
  obtain ⟨B', rfl⟩ : ∃ B', B = B' + 1 := ⟨B - 1, by omega⟩
  have := ih (B := B') (by omega) (by omega)
  have hc := h c
  have e : A * ((B' + 1 : Nat) : Int) = A * B' + A := by rw [Int.natCast_add, Int.mul_add]; simp
  rw [e]
  simp only [vals, List.map_cons, List.sum_cons] at this ⊢
  constructor <;> omega
set_option maxHeartbeats 2000000 in
theorem Sc (w : World) (t : av) (st : List Int) (cs : List (List Int)) (pC pL pS pT pO ob : Nat) (V : Nat → Value) (i : Nat) (hi : i < t.ps.length) (hW : vA w t st cs pC pL pS pT pO ob V (i + 1))
  (hn : t.ps.length ≤ 64) (hm : cs.length ≤ 16) (hm0 : 0 < cs.length) (mN : (aC t.ns).length ≤ st.length) (hrl : ∀ a, a < cs.length → (gl cs a).length = cs.length) (hcb : ∀ a k, 0 ≤ gi (gl cs a) k ∧ gi (gl cs a) k ≤ 1000)
  (htb : ∀ j s, j < t.ps.length → -1 ≤ gi (aN t st cs j) s ∧ gi (aN t st cs j) s ≤ 100000) (jK : (aC t.ns).length ≤ 64) :
  Calls Tryz.prog 245 #[.int .i64 i, .pointer (some ⟨pC, 0, none⟩), .pointer (some ⟨pL, 0, none⟩), .pointer (some ⟨pS, 0, none⟩), .pointer (some ⟨pT, 0, none⟩), .pointer (some ⟨pO, 0, none⟩)] w (MC w t st cs ob V i) := by
 obtain ⟨C, Sd, hC⟩ := hW.cC
 obtain ⟨L, CQ, hL⟩ := hW.cL
 obtain ⟨St, Sg, hS⟩ := hW.cS
 obtain ⟨P, N, kZ, nE, hP⟩ := hW.cT
 have O4 := hW.cO
 obtain ⟨fC, xu, yh⟩ := hC
 obtain ⟨qC, iA, rfl, hcapC, JV⟩ := aA.open xu
 obtain ⟨qL, capL, rfl, hcapL, dN⟩ := aA.open hL
 obtain ⟨qS, iR, rfl, hcapS, rj⟩ := aA.open hS
 have hb1 : Below w.heap.size w ((w.alloc (.cells (madeCells #[.int .i64 0] cs.length) 3)).alloc (.cells #[.slice (some ⟨w.heap.size, 0, none⟩) cs.length cs.length] 26)) := ((Below.refl _ w).alloc (Nat.le_refl _) _).alloc (by simp) _
 have O5 := aA.keep hL (Kept.below hb1)
 have XQ := FD (· ≠ ob) _ _ _ (i : Int) O5 (by omega)
 have Aw := aa XQ
 have lC := World.block_lt_of_cell? _ _ Sd
 have lL := World.block_lt_of_cell? _ _ CQ
 have lS := World.block_lt_of_cell? _ _ Sg
 have lP := World.block_lt_of_cell? _ _ kZ
 have lO := World.block_lt_of_cell? _ _ O4
 simp only at lC lL lS lP lO
 have ME := cell_later hb1 Sd
 have hcL1 := cell_later hb1 CQ
 have MF := cell_later hb1 Sg
 have MG := cell_later hb1 kZ
 have oB := cell_later hb1 nE
 have MH := cell_later hb1 O4
 have O6 := (World.rowIs_made w (.int .i64 0) cs.length 3).alloc (.cells #[.slice (some ⟨w.heap.size, 0, none⟩) cs.length cs.length] 26)
 have Sh : ((w.alloc (.cells (madeCells #[.int .i64 0] cs.length) 3)).alloc (.cells #[.slice (some ⟨w.heap.size, 0, none⟩) cs.length cs.length] 26)).cell? ⟨w.heap.size + 1, 0, none⟩ = some (.slice (some ⟨w.heap.size, 0, none⟩) cs.length cs.length) := by simp
 have MI : ((w.alloc (.cells (madeCells #[.int .i64 0] cs.length) 3)).alloc (.cells #[.slice (some ⟨w.heap.size, 0, none⟩) cs.length cs.length] 26)).heap.size = w.heap.size + 2 := by simp
 have HW := aa hW
 have yj := aa htb
 have Av := aa hcb
 have lV := aa hrl
 have HSTS := aa rj
 have eO := aa hb1
 have Wy := aa O6
 have CR := aa MI
 have hmk := fun W => run_make_row' (P := Tryz.prog) 26 3 (.int .i64 0) 8 Tryz.underlying26 Tryz.jx rfl .i64 .i64 cs.length (by omega) (by omega) W
 have Si := aa hP
 have HCI : Hid (aX (· ≠ ob) w (.slice qC cs.length iA) cs) := ⟨fC, xu, yh⟩
 clear hW htb hcb hrl JV dN rj xu yh hL hS hP hb1 O5 XQ O6 MI CQ Sg kZ nE O4
 refine (callsIn_wide (n := 9)).1 ?_
 refine callsIn_of_wp_marks Tryz.func245 rfl trivial ?_
 simp only [Tryz.ntmps245, List.size_toArray, List.length_cons, List.length_nil, Nat.reduceAdd, Nat.reduceSub, Array.replicate_succ, Array.replicate_zero, List.push_toArray, List.append_toArray, List.nil_append, List.cons_append]
 gi_wp2_with fail
 refine ⟨trivial, (callsIn_wide.2 Aw.out).mono ?_⟩
 rintro e w' ⟨rfl, rfl⟩
 generalize hw1 : ((w.alloc (.cells (madeCells #[.int .i64 0] cs.length) 3)).alloc (.cells #[.slice (some ⟨w.heap.size, 0, none⟩) cs.length cs.length] 26)) = w1 at *
 clear hw1 Aw hmk
 have hle : fq t.ns i = bJ (fun j => decide ((i : Int) = gi (aC t.ns) j)) (aC t.ns).length := rfl
 rw [← hle]
 have hlo := x7 (fun j => decide ((i : Int) = gi (aC t.ns) j)) (aC t.ns).length
 rw [← hle] at hlo
 have how : xh t.ns st i = if 0 ≤ fq t.ns i then gi st (fq t.ns i).toNat else -1 := rfl
 have HOW := aa how
 generalize hk : fq t.ns i = kl at *
 obtain ⟨hk1, hk2, _⟩ := hlo
 clear hle hk how
 gi_wp2_with fail
 refine wpIn_loop (fun a wr => ∃ (s : Nat) (ds : List Deferred) (u6 u9 XR O7 XS XT XU XV u16 XW XX XY XZ u23 u24 X0 u26 X3 u28 X4 X5 X6 u32 u33 X7 X8 X9 Ya Yb Yc Yd Ye Yf Yg u44 Yh Yi Yj Yk Yl Ym Yn Yo Yp Yq Yr Yt Yu Yv Yw Yx Yy Yz YA u64 YB YC YD YE YF : Value), s ≤ cs.length ∧ a = { tmps := #[.int .i64 i, .pointer (some ⟨pC, 0, none⟩), .pointer (some ⟨pL, 0, none⟩), .pointer (some ⟨pS, 0, none⟩), .pointer (some ⟨pT, 0, none⟩), .pointer (some ⟨pO, 0, none⟩), u6, .pointer (some ⟨w.heap.size + 1, 0, none⟩), .int .i64 kl, u9, XR, O7, XS, XT, XU, XV, u16, XW, XX, XY, .int .i64 cs.length, .int .i64 s, XZ, u23, u24, X0, u26, X3, u28, X4, X5, X6, u32, u33, X7, X8, X9, Ya, Yb, Yc, Yd, Ye, Yf, Yg, u44, Yh, Yi, Yj, Yk, Yl, Ym, Yn, Yo, Yp, Yq, Yr, Yt, Yu, Yv, Yw, Yx, Yy, Yz, YA, u64, YB, YC, YD, YE, YF], defers := ds } ∧ dI w1 wr w.heap.size cs.length (fun j => if j < s then gi (aN t st cs i) j else 0) ds) (fun a _ => cs.length - (intOf (a.tmps.getD 21 undef)).toNat) ?start ?round
 case start =>
  exact ⟨0, [], _, _, _, _, _, _, _, _, _, _, _, _, _, _, _, _, _, _, _, _, _, _, _, _, _, _, _, _, _, _, _, _, _, _, _, _, _, _, _, _, _, _, _, _, _, _, _, _, _, _, _, _, _, _, _, _, _, _, _, _, Nat.zero_le _, rfl, ⟨⟨rfl, rfl, rfl, Nat.le_refl _, fun _ _ _ => rfl⟩, Wy.out.congr (fun j _ => by simp), trivial⟩⟩
 case round =>
  rintro a wr ⟨s, ds, u6, u9, XR, O7, XS, XT, XU, XV, u16, XW, XX, XY, XZ, u23, u24, X0, u26, X3, u28, X4, X5, X6, u32, u33, X7, X8, X9, Ya, Yb, Yc, Yd, Ye, Yf, Yg, u44, Yh, Yi, Yj, Yk, Yl, Ym, Yn, Yo, Yp, Yq, Yr, Yt, Yu, Yv, Yw, Yx, Yy, Yz, YA, u64, YB, YC, YD, YE, YF, hs, rfl, Sj⟩
  have hg := Sj.grown
  have Sk := hg.cell ME (by simp; omega)
  have Sl := hg.cell MF (by simp; omega)
  have Sm := hg.cell MG (by simp; omega)
  have Sn := hg.cell oB (by simp; omega)
  have Sq := hg.cell MH (by simp; omega)
  have Ay := hg.cell Sh (by simp)
  have JW := aa Sj
  have HCS1 := aa MF
  have HCC1 := aa ME
  have HCO1 := aa MH
  have HCP1 := aa MG
  have HCN1 := aa oB
  have yl := aa Sh
  have HG := aa hg
  clear ME MF MG oB MH Sh Sj hg hcL1
  by_cases hlt : s < cs.length
  ·have k6 : Below wr.heap.size wr (wr.alloc (.cells #[.int .i64 s] 3)) := (Below.refl _ _).alloc (Nat.le_refl _) _
   have O8 := cell_later k6 Sk
   have O9 := cell_later k6 Sl
   have Pa := cell_later k6 Sm
   have Pb := cell_later k6 Sn
   have Pc := cell_later k6 Sq
   have Pd := cell_later k6 Ay
   have Az : (wr.alloc (.cells #[.int .i64 s] 3)).cell? ⟨wr.heap.size, 0, none⟩ = some (.int .i64 s) := by simp
   have Hz := JW.out.alloc (.cells #[.int .i64 s] 3)
   have YG : w.heap.size + 2 ≤ wr.heap.size ∧ (wr.alloc (.cells #[.int .i64 s] 3)).heap.size = wr.heap.size + 1 := ⟨by have := HG.out.size; have := CR.out; omega, by simp⟩
   have sg := aa Hz
   have bH := aa YG
   have JX := Hz.row.frozen s
   have JY := Hz.row.cell hlt
   simp only [Nat.lt_irrefl, if_false] at JY
   clear k6 Hz YG JW HG
   gi_wp2_with fail
   clear Sk Sl Sm Sn Sq Ay
   generalize hw5 : (wr.alloc (.cells #[.int .i64 s] 3)) = w5 at *
   clear hw5
   generalize lU : wr.heap.size = sB at *
   clear lU
   by_cases eF : 0 ≤ kl
   obtain ⟨kn, rfl⟩ := Int.eq_ofNat_of_zero_le eF
   obtain ⟨b, off, rfl, lT⟩ := HSTS.out kn (by omega)
   have hcx2 : w5.cell? ⟨b, off + kn, none⟩ = some (.int .i64 (gi st kn)) := sg.out.grown.cell (eO.out.cell (p := ⟨b, off + kn, none⟩) (World.block_lt_of_cell? _ _ lT) |>.trans lT) (by have := World.block_lt_of_cell? _ _ lT; simp at this ⊢; omega)
   rw [if_pos eF, Int.toNat_natCast] at HOW
   have i1 : (0 : Int) ≤ (kn : Int) := by omega
   have i2 : (kn : Int) < (st.length : Int) := by omega
   clear lT
   generalize hx : gi st kn = x at *
   clear hx
   by_cases hx0 : 0 ≤ x
   by_cases hxs : x = s
   focus
    have hx1 : (x != (s : Int)) = false := by simp [hxs]
    have HX := aa hxs
    clear hxs
    gi_wp2_with fail
    gi_quiet (fail)
    gi_wp2_with fail
    have H6 : Hid (dI w1 (w5.drewN nq) w.heap.size cs.length (fun j => if j < s then gi (aN t st cs i) j else if j = s then dM t st i s else 0) ds) := (sg.out.drewN nq).congr fun j _ => by
     rw [show dM t st i s = 0 from by unfold dM; rw [HOW.out, if_neg (fun h => h.2 HX.out)]]
     by_cases e1 : j < s <;> by_cases e2 : j = s <;> simp [e1, e2]
    have Pe : (w5.drewN nq).cell? ⟨sB, 0, none⟩ = some (.int .i64 s) := Az
    have Pf : Hid ((w5.drewN nq).heap.size = sB + 1) := bH.out.2
    clear O8 O9 Pa Pb Pc Pd Az JX JY sg
    generalize w5.drewN nq = w6 at *

   rotate_left
   focus
    have hx1 : (x != (s : Int)) = true := by simpa using hxs
    have HX := aa hxs
    clear hxs
    gi_wp2_with fail
    gi_quiet (fail)
    gi_wp2_with fail
    have h6f : (w5.drewN nq).frozen? ⟨w.heap.size, s, none⟩ = false := JX
    have H6 : Hid (dI w1 ((w5.drewN nq).setCell ⟨w.heap.size, s, none⟩ (.int .i64 (-1))) w.heap.size cs.length (fun j => if j < s then gi (aN t st cs i) j else if j = s then dM t st i s else 0) ds) := ((sg.out.drewN nq).set (by have := CR.out; omega) s (-1)).congr fun j _ => by
     rw [show dM t st i s = -1 from by unfold dM; rw [HOW.out, if_pos ⟨hx0, HX.out⟩]]
     by_cases e1 : j = s
     ·subst e1; simp
     ·simp [e1]
    have Pe : ((w5.drewN nq).setCell ⟨w.heap.size, s, none⟩ (.int .i64 (-1))).cell? ⟨sB, 0, none⟩ = some (.int .i64 s) := by
     rw [World.cell?_setCell_other _ _ _ _ (by intro e; injection e with e; have := bH.out; omega)]; exact Az
    have Pf : Hid (((w5.drewN nq).setCell ⟨w.heap.size, s, none⟩ (.int .i64 (-1))).heap.size = sB + 1) := by unfold Hid; rw [World.size_setCell]; exact bH.out.2
    clear O8 O9 Pa Pb Pc Pd Az JX JY sg h6f
    generalize (w5.drewN nq).setCell ⟨w.heap.size, s, none⟩ (.int .i64 (-1)) = w6 at *

   rotate_left
   focus
    have hx1 : decide (0 ≤ x) = false := by simpa using hx0
    gi_wp2_with fail
    gi_quiet (fail)
    gi_wp2_with fail
    have H6 : Hid (dI w1 (w5.drewN nq) w.heap.size cs.length (fun j => if j < s then gi (aN t st cs i) j else if j = s then dM t st i s else 0) ds) := (sg.out.drewN nq).congr fun j _ => by
     rw [show dM t st i s = 0 from by unfold dM; rw [HOW.out, if_neg (fun h => by omega)]]
     by_cases e1 : j < s <;> by_cases e2 : j = s <;> simp [e1, e2]
    have Pe : (w5.drewN nq).cell? ⟨sB, 0, none⟩ = some (.int .i64 s) := Az
    have Pf : Hid ((w5.drewN nq).heap.size = sB + 1) := bH.out.2
    clear O8 O9 Pa Pb Pc Pd Az JX JY sg
    generalize w5.drewN nq = w6 at *

   rotate_left
   focus
    rw [if_neg eF] at HOW
    have hx1 : decide (0 ≤ kl) = false := by simpa using eF
    gi_wp2_with fail
    gi_quiet (fail)
    gi_wp2_with fail
    have H6 : Hid (dI w1 (w5.drewN nq) w.heap.size cs.length (fun j => if j < s then gi (aN t st cs i) j else if j = s then dM t st i s else 0) ds) := (sg.out.drewN nq).congr fun j _ => by
     rw [show dM t st i s = 0 from by unfold dM; rw [HOW.out, if_neg (fun h => by omega)]]
     by_cases e1 : j < s <;> by_cases e2 : j = s <;> simp [e1, e2]
    have Pe : (w5.drewN nq).cell? ⟨sB, 0, none⟩ = some (.int .i64 s) := Az
    have Pf : Hid ((w5.drewN nq).heap.size = sB + 1) := bH.out.2
    clear O8 O9 Pa Pb Pc Pd Az JX JY sg
    generalize w5.drewN nq = w6 at *

   rotate_left
   all_goals
    refine ⟨trivial, (callsIn_wide.2 (R7 w6 _ P N rfl i)).mono ?_⟩
    rintro e w7 ⟨rfl, rfl⟩
    gi_wp2_with fail
    have JZ : Below w6.heap.size w6 ((w6.alloc (.cells #[P, N] 39)).alloc (.cells #[.int .i64 i] 3)) := ((Below.refl _ _).alloc (Nat.le_refl _) _).alloc (by simp) _
    have h7s := cell_later JZ Pe
    have h7n : ((w6.alloc (.cells #[P, N] 39)).alloc (.cells #[.int .i64 i] 3)).cell? ⟨w6.heap.size + 1, 0, none⟩ = some (.int .i64 i) := by simp
    have h7p : ((w6.alloc (.cells #[P, N] 39)).alloc (.cells #[.int .i64 i] 3)).cell? ⟨w6.heap.size, 0, none⟩ = some P := by simp
    have h7z : ((w6.alloc (.cells #[P, N] 39)).alloc (.cells #[.int .i64 i] 3)).heap.size = w6.heap.size + 2 := by simp
    have MJ := (H6.out.alloc (.cells #[P, N] 39)).alloc (.cells #[.int .i64 i] 3)
    have h6e : w6.heap.size = sB + 1 := Pf.out
    generalize ((w6.alloc (.cells #[P, N] 39)).alloc (.cells #[.int .i64 i] 3)) = w7 at *
    generalize w6.heap.size = z6 at *
    have hz1 := CR.out
    have hsb1 := bH.out.1
    have hold : ∀ W, w7.grownBy W (some w.heap.size) → ∀ b, b < w.heap.size → W.heap[b]? = w.heap[b]? := fun W hg b hb =>
     ((hg.block b (by omega) (by simp; omega)).trans (MJ.grown.block b (by omega) (by simp; omega))).trans (eO.out.block b hb)
    have J1 : w7.grownBy w7 (some w.heap.size) := ⟨rfl, rfl, rfl, Nat.le_refl _, fun _ _ _ => rfl⟩
    have ym : ax (fun b => b ≠ w.heap.size ∧ b < w7.heap.size) w7 P t.ps := ((Si.out.sub (T := fun b => b < w.heap.size) fun b _ hb => hb).keep fun b hb _ => hold w7 J1 b hb).sub fun b hb _ => ⟨by omega, by omega⟩
    have My : ∀ c, c < t.ps.length → -1 ≤ jg t st cs s c ∧ jg t st cs s c ≤ 101000 := fun c hc => Cz (A := 100000) (by omega) (fun k => Av.out s k) (fun k => (yj.out c k hc).2) _
    have Sr := aa My
    have HOLD := aa hold
    have CS := aa MJ
    have YH := aa h7s
    have HZ7 := aa h7z
    have HZ1 := aa hz1
    have h7zz : w.heap.size < w7.heap.size := by omega
    apply wpIn_rangeFunc_ownF (F := Fence.wide) (n := 9) (P := Tryz.prog) (ps := #[47]) (w := w7) rfl (by omega) (gf := 282) (lb := #[.pointer (some ⟨z6 + 1, 0, none⟩), .pointer (some ⟨z6, 0, none⟩)]) rfl trivial (enters_of Tryz.func282 (by kernel_rfl) rfl)
     (Hu 8 (by omega) (z6 + 1) z6 (fun b => b ≠ w.heap.size ∧ b < w7.heap.size) t.ps i P w7 (fun b hb => hb.2) h7n h7p ym ⟨by omega, by omega⟩ ⟨by omega, by omega⟩ hi (by omega))
     (fun h k => KS.trans h k) (fun W l o o' hl _ _ _ => fun b (hb : b ≠ w.heap.size ∧ b < w7.heap.size) => World.putObj_heap_other (by have := hb.2; omega)) (Below.refl _ _) (fun _ => (rfl : (1 : Nat) = 1))
     (fun pre W => W.rowIs w.heap.size 3 cs.length (fun j => .int .i64 (if j < s then gi (aN t st cs i) j else if j = s then dM t st i s + ((vals pre).map (jg t st cs s)).sum else 0)) ∧ w7.grownBy W (some w.heap.size))
     (fun _ _ _ => False) (QG h7zz) (fun _ _ _ _ _ h _ _ => h)
     ⟨MJ.row.congr fun j _ => by simp [vals], J1⟩
    ·intro l x W K hK
     gi_wp2
     exact hK
    ·rintro l pre x W ⟨hrow, AA⟩ hlen
     have hkeep := HOLD.out W AA
     have bC : W.cell? ⟨pC, 0, none⟩ = some (.slice qC cs.length iA) := (World.cell?_of_block (hkeep pC lC)).trans Sd
     have bO : W.cell? ⟨pO, 0, none⟩ = some (.slice (some ⟨ob, 0, none⟩) t.ps.length t.ps.length) := (World.cell?_of_block (hkeep pO lO)).trans HW.out.cO
     have bs : W.cell? ⟨sB, 0, none⟩ = some (.int .i64 s) := AA.cell YH.out (by simp; omega)
     have bR : W.cell? ⟨w.heap.size + 1, 0, none⟩ = some (.slice (some ⟨w.heap.size, 0, none⟩) cs.length cs.length) := AA.cell (CS.out.grown.cell yl.out (by simp)) (by simp)
     obtain ⟨hx1, hx2, _⟩ := eY.1 x.2
     have bV : W.cell? ⟨ob, x.1, none⟩ = some (V x.1) := (World.cell?_of_block (hkeep ob HW.out.row.lt)).trans (HW.out.row.cell hx1)
     have Ss := HW.out.rows x.1 hx2 hx1
     have YI : ax (fun b => b < w.heap.size) W (V x.1) (aN t st cs x.1) := (Ss.sub (T := fun b => b < w.heap.size) fun b _ hb => hb).keep fun b hb _ => hkeep b hb
     have hCW : aX (fun b => b < w.heap.size) W (.slice qC cs.length iA) cs := (HCI.out.sub (T := fun b => b < w.heap.size) fun b _ hb => hb).keep fun b hb _ => hkeep b hb
     have yq := fun k => R8 _ _ (W.drewN k) _ _ cs (aN t st cs x.1) s (hCW.keep (yg _ _ _)) (YI.keep (yg _ _ _)) hlt (by rw [eR, lV.out s hlt]; exact Nat.le_refl _) (by rw [eR]; omega) (Av.out s) (fun k => by have := (yj.out x.1 k hx1).2; omega)
     obtain ⟨qv, cv, ev, _, _⟩ := aA.open Ss
     rw [ev] at bV yq
     unfold ug at yq
     have ha := Sr.out x.1 hx1
     have YJ : (bq (gi (gl cs s)) (gi (aN t st cs x.1)) (aN t st cs x.1).length).1 = jg t st cs s x.1 := rfl
     rw [YJ] at yq
     have hrs := hrow.cell hlt
     have hrf := hrow.frozen s
     simp only [Nat.lt_irrefl, if_false, if_true] at hrs
     have oC : dM t st i s = 0 ∨ dM t st i s = -1 := by unfold dM; split <;> simp
     have hsm : -64 ≤ ((vals pre).map (jg t st cs s)).sum ∧ ((vals pre).map (jg t st cs s)).sum ≤ 101000 * 64 := by
      have h0 := MD (A := 101000) (B := 64) (f := jg t st cs s) (by omega) (by omega) pre (fun c => Sr.out c.1 (eY.1 c.2).1) (by omega)
      constructor <;> omega
     have Wz := aa yq
     have H7 := aa hrow
     have HG7 := aa AA
     have hbs2 : -1 ≤ dM t st i s ∧ dM t st i s ≤ 0 := by omega
     have i1 : (0 : Int) ≤ (x.1 : Int) := by omega
     have i2 : (x.1 : Int) < (t.ps.length : Int) := by omega
     obtain ⟨ha1, ha2⟩ := ha
     obtain ⟨hsm1, hsm2⟩ := hsm
     obtain ⟨hb1, hb2⟩ := hbs2
     have HPX : Hid (((vals (pre ++ [x])).map (jg t st cs s)).sum = ((vals pre).map (jg t st cs s)).sum + jg t st cs s x.1) := by unfold Hid; rw [ue]; simp
     clear yq hrow AA hkeep YI hCW Ss YJ oC HW yj Av lV HOLD CS YH ym
     generalize ((vals pre).map (jg t st cs s)).sum = sm at *
     generalize jg t st cs s x.1 = ad at *
     generalize dM t st i s = bt at *
     generalize (bq (gi (gl cs s)) (gi (aN t st cs x.1)) (aN t st cs x.1).length).2 = ow at *
     gi_wp2
     have hf52 : Fence.wide.fn 247 := trivial
     have hf52r : (Fence.wide.inRound l).fn 247 := trivial
     refine zD (l₀ := l) rfl (by kernel_rfl) (by kernel_rfl) (by kernel_rfl) ?_
     repeat (gi_big_quiet_step (fail))
     gi_big_quiet_want
     gi_big_quiet_op
     refine ⟨_, fun k => CallsIn.inRound l (callsIn_wide.2 (Hy (Wz.out k))), ?_⟩
     go_big_quiet_on
     repeat (gi_big_quiet_step (fail))
     refine wpQuietIn_nil ?_
     intro _ hw'
     obtain ⟨nq, hw''⟩ := hw'
     subst hw''
     gi_wp2
     refine ⟨?_, ?_, ?_, ?_⟩
     ·exact ⟨(KeepsOthers.setCell (W.drewN nq) _ _).size, (KeepsOthers.setCell (W.drewN nq) _ _).same⟩
     ·exact fun b hb => Below.heap_setCell (W.drewN nq) _ _ b hb.1
     ·exact ((show (W.drewN nq).rowIs w.heap.size 3 cs.length _ from H7.out).set s _).congr fun j _ => by
       by_cases e : j = s
       ·subst e; simp [HPX.out]; omega
       ·simp [e]
     ·exact CP HG7.out ⟨rfl, rfl, rfl, by rw [World.size_setCell]; exact Nat.le_refl _, fun k _ hne => Below.heap_setCell (W.drewN nq) _ _ k (fun e => hne (by rw [e]))⟩
    ·rintro D xs W hD hS ⟨hrow, AA⟩ hK
     have hT : dM t st i s + ((vals xs).map (jg t st cs s)).sum = gi (aN t st cs i) s := by rw [hS, ij _ _ _ _ hlt, Qz _ _ _ hi]
     have Su := (CS.out.later AA hrow (by omega)).congr (g := fun j => if j < s + 1 then gi (aN t st cs i) j else 0) (fun j _ => by
      by_cases e1 : j < s
      ·simp [e1, Nat.lt_succ_of_lt e1]
      ·by_cases e2 : j = s
       ·subst e2; simp [hT]
       ·have e3 : ¬ j < s + 1 := by omega
        simp [e1, e2, e3])
     have YK : Marks w1.heap.size W ({ target := .collected D, args := #[] } :: ds) := ⟨⟨D, rfl, by have := CS.out.grown.size; omega, hK, fun d' hd' e => by
      obtain ⟨r, hr, hr2⟩ := CS.out.marks.lt d' hd'
      rw [hr] at e; injection e with e; omega⟩, Su.marks⟩
     have YL := aa Su
     have Sv := aa YK
     clear hT Su YK hrow AA hK ym
     gi_wp2_with fail
     refine ⟨⟨s + 1, _, _, _, _, _, _, _, _, _, _, _, _, _, _, _, _, _, _, _, _, _, _, _, _, _, _, _, _, _, _, _, _, _, _, _, _, _, _, _, _, _, _, _, _, _, _, _, _, _, _, _, _, _, _, _, _, _, _, _, _, _, by omega, rfl, ⟨YL.out.grown, YL.out.row, Sv.out⟩⟩, ?_⟩
     simp [intOf]; omega
    ·rintro D c pre W _ _ h _
     exact h.elim
  ·obtain rfl : s = cs.length := by omega
   clear hlt
   have Pg := HW.out.row.lt
   have hkeep : ∀ b, b < w.heap.size → wr.heap[b]? = w.heap[b]? := fun b hb => (HG.out.block b (by have := CR.out; omega) (by simp; omega)).trans (eO.out.block b hb)
   have hro := HW.out.row.of_block (hkeep ob Pg)
   have hx1 := hro.cell hi
   have hx2 := hro.frozen i
   have hle1 : w.heap.size + 2 ≤ w1.heap.size := by have := CR.out; omega
   have HKP := aa hkeep
   have HRO := aa hro
   clear hkeep hro
   have Sw := JW
   gi_wp2_with fail
   refine uf (v := .tuple #[]) (n₀ := w1.heap.size) (fun _ => results_none rfl _ _ _) (Sw.out.marks.keep fun r _ hr2 => Below.heap_setCell _ _ _ r (by simp only; omega)) fun w' hb hs' hc => ⟨rfl, ?_, .slice (some ⟨w.heap.size, 0, none⟩) cs.length cs.length, ?_, ?_⟩
   ·refine ⟨hb.os.trans (HG.out.os.trans eO.out.os), hb.tape.trans (HG.out.tape.trans eO.out.tape), hb.output.trans (HG.out.output.trans eO.out.output), ?_, fun k hk hne => ?_⟩
    ·have h1 := hb.size; rw [World.size_setCell] at h1; have h2 := HG.out.size; omega
    ·exact ((hb.block k (by omega)).trans (Below.heap_setCell _ _ _ k (fun e => hne (by rw [e])))).trans (HKP.out k hk)
   ·exact ((HRO.out.set i _).of_block (hb.block ob (by omega)))
   ·have hrow2 := (Sw.out.row.setOther (a := ⟨ob, i, none⟩) (by simp only; omega) (.slice (some ⟨w.heap.size, 0, none⟩) cs.length cs.length)).of_block (hb.block w.heap.size (by omega))
    refine ⟨some ⟨w.heap.size, 0, none⟩, cs.length, by rw [eR], by rw [eR]; exact Nat.le_refl _, .inr ⟨w.heap.size, 0, rfl, by omega, fun k hk => ?_⟩⟩
    rw [eR] at hk
    have h1 := hrow2.cell hk
    simp only [hk, if_true] at h1
    rw [Nat.zero_add]; exact h1
end Go.Proofs.YteegefnjnikngaaGreat
