/- A region that draws its order and only reads, within a round of a loop over a function. .. -/
import Derived.Test.YteegefnjnikngaaGreatQ5
import Derived.Test.YteegefnjnikngaaGreatQ1
import Derived.StillTail
set_option maxRecDepth 100000
namespace Go.Proofs.YteegefnjnikngaaGreat
section
open Go.RowKit Go.Shelf Go.Deep
section
variable {F : Fence} {n : Nat} {P : Program} {ops : Array Oper} {C : World → Prop}
theorem MC {o : Oper} {a : Act} {K : Act → Prop} {K' : Act → World → Prop} {Q' : Exit → Act → World → Prop} {w : World} (hs : ∀ ρ, Oper.semAt F.round ρ o = execOp ρ o) (hw : C w)
  (h : ∀ a w', C w' → K a → K' a w') (ha : o.askedIn F P a C) (hh : o.quietIn F n P a C K) : o.wpIn F n P a w K' Q' := by
 obtain ⟨v, hv, hk⟩ := hh
 have hv := hv w hw
 refine ⟨ha w hw, ?_⟩
 rw [hs]
 unfold Oper.quietAtIn at hv
 cases hr : (execOp a.eval o).run P w with
 | halt x w' => rw [hr] at hv; exact hv.elim
 | ok x w' =>
  rw [hr] at hv
  cases x with
  | value u => obtain ⟨rfl, rfl⟩ := hv; exact h _ _ hw hk
  | skip => obtain ⟨rfl, rfl⟩ := hv; exact h _ _ hw hk
  | enter f args => obtain ⟨rfl, hd, hc⟩ := hv; exact ⟨hd, hc.mono fun e w'' ⟨he, hw2⟩ => by subst he; exact h _ _ hw2 hk⟩
  | _ => exact hv.elim
theorem MD {i : Nat} {a : Act} {K : Act → Prop} {K' : Act → World → Prop} {Q' : Exit → Act → World → Prop} {w : World} (hs : ∀ o : Oper, ops[i]? = some o → ∀ ρ, Oper.semAt F.round ρ o = execOp ρ o) (hC : C w)
  (h : ∀ a w', C w' → K a → K' a w') (hh : qOpIn F n P ops C i K a) : wpOpIn F n P ops Q' i K' a w := by
 cases ho : ops[i]? with
 | none => simp only [qOpIn, wpOpIn, ho] at hh ⊢; exact h _ _ hC hh
 | some o =>
  simp only [qOpIn, wpOpIn, ho] at hh ⊢
  by_cases hg : Region.wanted o (yielded ops a.tmps) = true
  ·rw [if_pos hg] at hh ⊢; exact MC (hs o ho) hC h hh.1 hh.2
  ·rw [if_neg hg] at hh ⊢; exact ⟨hh.1 w hC, h _ _ hC hh.2⟩
theorem Ks {Q : Act → Prop} {Q' : Exit → Act → World → Prop} {md : Region.Mode} (hs : ∀ (i : Nat) (o : Oper), ops[i]? = some o → ∀ ρ, Oper.semAt F.round ρ o = execOp ρ o) (hQ : ∀ a w, C w → Q a → Q' .normal a w) (fuel : Nat) :
  ∀ (listed : Array Bool) (a : Act) (w : World), C w → wpAnyQIn F n P md ops C Q fuel listed a → wpAnyIn F n P md ops Q' fuel listed a w := by
 induction fuel with
 | zero => intro _ a w hw h; exact ⟨h.1, hQ a w hw h.2⟩
 | succ k ih => intro _ a w hw h; exact ⟨fun h0 => hQ a w hw (h.1 h0), fun i hi => MD (hs i) hw (fun a' w' hw' => ih _ a' w' hw') (h.2 i hi)⟩
theorem Dl {id l₀ : Nat} {Q : Exit → Act → World → Prop} {a : Act} {w : World} {l : List Oper} (hro : F.round = some l₀) (hm : P.follows .mixedOrders = true) (hB : Region.lexB .any l.toArray = true)
  (hd : l.all (fun o => match o.op with | .defer _ => false | _ => true) = true)
  (h : wpQuietIn F n P l.toArray (fun w' => ∃ n, w' = w.drewN n) (fun a' => ∀ w', (∃ n, w' = w.drewN n) → Q .normal a' w') l a) : (Code.region id l.toArray true).wpIn F n P Q a w := by
 have hs : ∀ (i : Nat) o, l.toArray[i]? = some o → ∀ ρ, Oper.semAt F.round ρ o = execOp ρ o := fun i o ho ρ => by
  rw [hro]
  refine Oper.semAt_some l₀ ρ o fun c e => ?_
  have h1 := List.all_eq_true.1 hd o (List.mem_of_getElem? (by simpa using ho))
  rw [e] at h1; cases h1
 simp only [Region.lexB, Bool.and_eq_true] at hB
 refine wpIn_region_any hm (Ks (C := fun w' => ∃ n, w' = w.drewN n) (Q := fun a' => ∀ w', (∃ n, w' = w.drewN n) → Q .normal a' w') hs (fun _ w' hw' h => h w' hw') _ _ _ _ ⟨1, rfl⟩ ?_)
 have h2 := wpAnyQIn_lex (F := F) (n := n) (C := fun w' => ∃ n, w' = w.drewN n) (md := .any) hB.1 l.toArray.toList 0 (Array.replicate l.toArray.size false) a (by simp) (by simpa using hB.2) (by simpa using h)
 simpa using h2
end
end
section
open Go.RowKit Go.Shelf Go.Deep
attribute [local go_sem] Oper.semAt_some
set_option maxHeartbeats 400000 in
theorem Kt (S : Nat → Prop) (w : World) (v : Value) (xs : List Int) (x : Int) (h : aB S w v xs) (hn : xs.length ≤ 1000000) :
  Calls Tryz.prog 67 #[v, .int .i64 x] w fun e w' => e = .returned (.int .i64 (bW (fun j => decide (x = gi xs j)) xs.length)) ∧ w = w' := by
 obtain ⟨p, cap, rfl, hcap, H⟩ := aD.open h
 clear h
 go_enter Tryz.func67, Tryz.ntmps67
 go_wp2_with fail
 go_loop [5, 8] (fun _ i => ∃ k : Nat, k ≤ xs.length ∧ i = .int .i64 k ∧ Hid (∀ j, j < k → decide (x = gi xs j) = false)) (fun _ i => xs.length - (intOf i).toNat)
 case atStart => exact ⟨0, Nat.zero_le _, rfl, fun j hj => absurd hj (Nat.not_lt_zero _)⟩
 case round =>
  obtain ⟨k, hk, rfl, hd⟩ := hrel
  by_cases hlt : k < xs.length
  ·obtain ⟨b, off, rfl, hc⟩ := H k hlt
   clear H
   generalize hy : gi xs k = y at *
   have HY := aa hy
   clear hy
   by_cases hxy : x = y
   ·have hx1 : (x == y) = true := by simp [hxy]
    have XO := aa hxy
    clear hxy
    go_wp2_with fail
    go_ret
    exact ⟨aO (iO (p := fun j => decide (x = gi xs j)) hlt hd.out (by rw [HY.out]; simpa using XO.out)).symm, rfl⟩
   ·have hx1 : (x == y) = false := by simpa using hxy
    have XO := aa hxy
    clear hxy
    go_wp2_with fail
    go_round
    case rel => exact ⟨k + 1, by omega, by go_num, fun j hj => if e : j = k then by subst e; rw [HY.out]; simpa using XO.out else hd.out j (by omega)⟩
    case measure => simp [intOf]; omega
  ·clear H
   go_wp2_with fail
   go_ret
   exact ⟨aO (gu fun j hj => hd.out j (by omega)).symm, rfl⟩
structure zi (w : World) (t : ax) (st : List Int) (cs : List (List Int)) (pC pL pS pT pO ob : Nat) (V : Nat → Value) (k : Nat) : Prop where
 cC : ∃ C, w.cell? ⟨pC, 0, none⟩ = some C ∧ bh (· ≠ ob) w C cs
 cL : ∃ L, w.cell? ⟨pL, 0, none⟩ = some L ∧ aB (· ≠ ob) w L (ay t.ns)
 cS : ∃ L, w.cell? ⟨pS, 0, none⟩ = some L ∧ aB (· ≠ ob) w L st
 cT : ∃ P N, w.cell? ⟨pT, 0, none⟩ = some P ∧ w.cell? ⟨pT, 1, none⟩ = some N ∧ aB (· ≠ ob) w P t.ps
 cO : w.cell? ⟨pO, 0, none⟩ = some (.slice (some ⟨ob, 0, none⟩) t.ps.length t.ps.length)
 row : w.rowIs ob 26 t.ps.length V
 rows : ∀ j, k ≤ j → j < t.ps.length → aB (· ≠ ob) w (V j) (aV t st cs j)
 ne : pC ≠ ob ∧ pL ≠ ob ∧ pS ≠ ob ∧ pT ≠ ob ∧ pO ≠ ob
def RD (w : World) (t : ax) (st : List Int) (cs : List (List Int)) (ob : Nat) (V : Nat → Value) (i : Nat) (e : Ending) (w' : World) : Prop :=
 e = .returned (.tuple #[]) ∧ w.grownBy w' (some ob) ∧ ∃ v, w'.rowIs ob 26 t.ps.length (fun j => if j = i then v else V j) ∧ aB (· ≠ ob) w' v (aV t st cs i)
structure fe (w1 wr : World) (R0 m : Nat) (f : Nat → Int) (ds : List Deferred) : Prop where
 grown : w1.grownBy wr (some R0)
 row : wr.rowIs R0 3 m (fun j => .int .i64 (f j))
 marks : Marks w1.heap.size wr ds
theorem Marks.drewN {n₀ : Nat} {w : World} {ds : List Deferred} (h : Marks n₀ w ds) (k : Nat) : Marks n₀ (w.drewN k) ds := Marks.keep (w := w) (w' := w.drewN k) (fun _ _ _ => rfl) h
theorem fe.drewN {w1 wr : World} {R0 m : Nat} {f : Nat → Int} {ds : List Deferred} (h : fe w1 wr R0 m f ds) (k : Nat) : fe w1 (wr.drewN k) R0 m f ds :=
 ⟨⟨h.grown.os, h.grown.tape, h.grown.output, h.grown.size, h.grown.block⟩, h.row, h.marks.drewN k⟩
theorem fe.congr {w1 wr : World} {R0 m : Nat} {f g : Nat → Int} {ds : List Deferred} (h : fe w1 wr R0 m f ds) (e : ∀ j, j < m → f j = g j) : fe w1 wr R0 m g ds :=
 ⟨h.grown, h.row.congr fun j hj => by rw [e j hj], h.marks⟩
theorem fe.set {w1 wr : World} {R0 m : Nat} {f : Nat → Int} {ds : List Deferred} (h : fe w1 wr R0 m f ds) (hR : R0 < w1.heap.size) (s : Nat) (x : Int) :
  fe w1 (wr.setCell ⟨R0, s, none⟩ (.int .i64 x)) R0 m (fun j => if j = s then x else f j) ds :=
 ⟨⟨h.grown.os, h.grown.tape, h.grown.output, by rw [World.size_setCell]; exact h.grown.size, fun k hk hne => (Below.heap_setCell _ _ _ k (fun e => hne (by rw [e]))).trans (h.grown.block k hk hne)⟩,
  (h.row.set s _).congr (fun j _ => by by_cases e : j = s <;> simp [e]), h.marks.keep fun r _ hr2 => Below.heap_setCell _ _ _ r (by simp only; omega)⟩
theorem fe.alloc {w1 wr : World} {R0 m : Nat} {f : Nat → Int} {ds : List Deferred} (h : fe w1 wr R0 m f ds) (o : Obj) : fe w1 (wr.alloc o) R0 m f ds :=
 ⟨⟨h.grown.os, h.grown.tape, h.grown.output, by simp; have := h.grown.size; omega, fun k hk hne => (Below.heap_alloc _ _ k (Nat.lt_of_lt_of_le hk h.grown.size)).trans (h.grown.block k hk hne)⟩,
  h.row.alloc o, h.marks.keep fun r hr _ => Below.heap_alloc _ _ r (by
   rcases Nat.lt_or_ge r wr.heap.size with h | h
   ·exact h
   ·rw [Array.getElem?_eq_none h] at hr; cases hr)⟩
theorem ME {P : Program} {f : FuncId} {args : Array Value} {w : World} {n : Nat} {v : Value} (h : Calls P f args (w.drewN n) fun e w' => e = .returned v ∧ w.drewN n = w') :
  Calls P f args (w.drewN n) fun e w'' => e = .returned v ∧ ∃ m, w'' = w.drewN m := h.mono fun _ _ ⟨he, hm⟩ => ⟨he, n, hm.symm⟩
theorem BP (S : Nat → Prop) (w : World) (n : Nat) : Kept S w (w.drewN n) := fun _ _ _ => rfl
theorem GF {a b c : World} {R : Nat} (h : a.grownBy b (some R)) (k : b.grownBy c (some R)) : a.grownBy c (some R) :=
 ⟨k.os.trans h.os, k.tape.trans h.tape, k.output.trans h.output, Nat.le_trans h.size k.size, fun i hi hne => (k.block i (Nat.lt_of_lt_of_le hi h.size) hne).trans (h.block i hi hne)⟩
theorem fe.later {w1 w7 W : World} {R0 m : Nat} {f g : Nat → Int} {ds : List Deferred} (h : fe w1 w7 R0 m f ds) (hg : w7.grownBy W (some R0)) (hr : W.rowIs R0 3 m (fun j => .int .i64 (g j))) (hR : R0 < w1.heap.size) : fe w1 W R0 m g ds :=
 ⟨GF h.grown hg, hr, h.marks.keep fun r hr hr2 => hg.block r (by
   rcases Nat.lt_or_ge r w7.heap.size with h | h
   ·exact h
   ·rw [Array.getElem?_eq_none h] at hr; cases hr) (by simp; omega)⟩
theorem VZ {w7 : World} {R0 m : Nat} {β : Type} {f : β → Nat → Int} (hR : R0 < w7.heap.size) :
  OwnFrom w7.heap.size (fun (pre : β) W => W.rowIs R0 3 m (fun j => .int .i64 (f pre j)) ∧ w7.grownBy W (some R0)) := by
 rintro pre W W' row ⟨h1, h2⟩ hg hr
 refine ⟨h1.of_block (hg.block _ h1.lt (fun e => by have := (hr _ e.symm).1; omega)), hg.os.trans h2.os, hg.tape.trans h2.tape, hg.output.trans h2.output, Nat.le_trans h2.size hg.size, fun k hk hne => ?_⟩
 exact (hg.block k (Nat.lt_of_lt_of_le hk h2.size) (fun e => by have := (hr _ e.symm).1; omega)).trans (h2.block k hk hne)
theorem RF {ps : List Int} {i : Nat} {f : Nat → Int} {A : Int} {B : Nat} (hA : 0 ≤ A) (hB : 0 ≤ (B : Int)) : ∀ (l : List (Eg ps i)), (∀ c : Eg ps i, -1 ≤ f c.1 ∧ f c.1 ≤ A) → l.length ≤ B → -(B : Int) ≤ ((vals l).map f).sum ∧ ((vals l).map f).sum ≤ A * B := by
 intro l h
 induction l generalizing B with
 | nil => intro _; simp [vals]; exact Int.mul_nonneg hA hB
 | cons c l ih =>
  intro hl
  simp only [List.length_cons] at hl
  obtain ⟨B', rfl⟩ : ∃ B', B = B' + 1 := ⟨B - 1, by omega⟩
  have := ih (B := B') (by omega) (by omega)
  have hc := h c
  have e : A * ((B' + 1 : Nat) : Int) = A * B' + A := by rw [Int.natCast_add, Int.mul_add]; simp
  rw [e]
  simp only [vals, List.map_cons, List.sum_cons] at this ⊢
  constructor <;> omega
set_option maxHeartbeats 2000000 in
theorem XP (w : World) (t : ax) (st : List Int) (cs : List (List Int)) (pC pL pS pT pO ob : Nat) (V : Nat → Value) (i : Nat) (hi : i < t.ps.length) (hW : zi w t st cs pC pL pS pT pO ob V (i + 1))
  (hn : t.ps.length ≤ 64) (hm : cs.length ≤ 16) (hm0 : 0 < cs.length) (qx : (ay t.ns).length ≤ st.length) (hrl : ∀ a, a < cs.length → (gl cs a).length = cs.length) (hcb : ∀ a k, 0 ≤ gi (gl cs a) k ∧ gi (gl cs a) k ≤ 1000)
  (htb : ∀ j s, j < t.ps.length → -1 ≤ gi (aV t st cs j) s ∧ gi (aV t st cs j) s ≤ 100000) (kP : (ay t.ns).length ≤ 64) :
  Calls Tryz.prog 245 #[.int .i64 i, .pointer (some ⟨pC, 0, none⟩), .pointer (some ⟨pL, 0, none⟩), .pointer (some ⟨pS, 0, none⟩), .pointer (some ⟨pT, 0, none⟩), .pointer (some ⟨pO, 0, none⟩)] w (RD w t st cs ob V i) := by
 obtain ⟨C, XQ, hC⟩ := hW.cC
 obtain ⟨L, uT, hL⟩ := hW.cL
 obtain ⟨St, XR, hS⟩ := hW.cS
 obtain ⟨P, N, kQ, qY, hP⟩ := hW.cT
 have Ud := hW.cO
 obtain ⟨fC, AO, BQ⟩ := hC
 obtain ⟨qC, jV, rfl, hcapC, Ei⟩ := aD.open AO
 obtain ⟨qL, capL, rfl, hcapL, dF⟩ := aD.open hL
 obtain ⟨qS, kI, rfl, hcapS, uU⟩ := aD.open hS
 have hb1 : Below w.heap.size w ((w.alloc (.cells (madeCells #[.int .i64 0] cs.length) 3)).alloc (.cells #[.slice (some ⟨w.heap.size, 0, none⟩) cs.length cs.length] 26)) := ((Below.refl _ w).alloc (Nat.le_refl _) _).alloc (by simp) _
 have Ue := aD.keep hL (Kept.below hb1)
 have Ej := Kt (· ≠ ob) _ _ _ (i : Int) Ue (by omega)
 have uV := aa Ej
 have lC := World.block_lt_of_cell? _ _ XQ
 have lL := World.block_lt_of_cell? _ _ uT
 have lS := World.block_lt_of_cell? _ _ XR
 have lP := World.block_lt_of_cell? _ _ kQ
 have lO := World.block_lt_of_cell? _ _ Ud
 simp only at lC lL lS lP lO
 have RG := cell_later hb1 XQ
 have hcL1 := cell_later hb1 uT
 have RH := cell_later hb1 XR
 have RI := cell_later hb1 kQ
 have sw := cell_later hb1 qY
 have RJ := cell_later hb1 Ud
 have Uf := (World.rowIs_made w (.int .i64 0) cs.length 3).alloc (.cells #[.slice (some ⟨w.heap.size, 0, none⟩) cs.length cs.length] 26)
 have XS : ((w.alloc (.cells (madeCells #[.int .i64 0] cs.length) 3)).alloc (.cells #[.slice (some ⟨w.heap.size, 0, none⟩) cs.length cs.length] 26)).cell? ⟨w.heap.size + 1, 0, none⟩ = some (.slice (some ⟨w.heap.size, 0, none⟩) cs.length cs.length) := by simp
 have Dm : ((w.alloc (.cells (madeCells #[.int .i64 0] cs.length) 3)).alloc (.cells #[.slice (some ⟨w.heap.size, 0, none⟩) cs.length cs.length] 26)).heap.size = w.heap.size + 2 := by simp
 have HW := aa hW
 have ye := aa htb
 have Ef := aa hcb
 have oJ := aa hrl
 have HSTS := aa uU
 have iq := aa hb1
 have HROW1 := aa Uf
 have GG := aa Dm
 have hmk := fun W => run_make_row' (P := Tryz.prog) 26 3 (.int .i64 0) 8 Tryz.underlying26 Tryz.lK rfl .i64 .i64 cs.length (by omega) (by omega) W
 have XT := aa hP
 have HCI : Hid (bh (· ≠ ob) w (.slice qC cs.length jV) cs) := ⟨fC, AO, BQ⟩
 clear hW htb hcb hrl Ei dF uU AO BQ hL hS hP hb1 Ue Ej Uf Dm uT XR kQ qY Ud
 refine (callsIn_wide (n := 9)).1 ?_
 refine callsIn_of_wp_marks Tryz.func245 rfl trivial ?_
 simp only [Tryz.ntmps245, List.size_toArray, List.length_cons, List.length_nil, Nat.reduceAdd, Nat.reduceSub, Array.replicate_succ, Array.replicate_zero, List.push_toArray, List.append_toArray, List.nil_append, List.cons_append]
 gi_wp2_with fail
 refine ⟨trivial, (callsIn_wide.2 uV.out).mono ?_⟩
 rintro e w' ⟨rfl, rfl⟩
 generalize hw1 : ((w.alloc (.cells (madeCells #[.int .i64 0] cs.length) 3)).alloc (.cells #[.slice (some ⟨w.heap.size, 0, none⟩) cs.length cs.length] 26)) = w1 at *
 clear hw1 uV hmk
 have hle : gw t.ns i = bW (fun j => decide ((i : Int) = gi (ay t.ns) j)) (ay t.ns).length := rfl
 rw [← hle]
 have hlo := BF (fun j => decide ((i : Int) = gi (ay t.ns) j)) (ay t.ns).length
 rw [← hle] at hlo
 have how : nT t.ns st i = if 0 ≤ gw t.ns i then gi st (gw t.ns i).toNat else -1 := rfl
 have HOW := aa how
 generalize hk : gw t.ns i = kl at *
 obtain ⟨hk1, hk2, _⟩ := hlo
 clear hle hk how
 gi_wp2_with fail
 refine wpIn_loop (fun a wr => ∃ (s : Nat) (ds : List Deferred) (u6 u9 u10 u11 u12 u13 u14 u15 u16 u17 u18 u19 u22 u23 u24 u25 u26 u27 u28 u29 u30 u31 u32 u33 u34 u35 u36 u37 u38 u39 u40 u41 u42 u43 u44 u45 u46 u47 u48 u49 u50 u51 u52 u53 u54 u55 u56 u57 u58 u59 u60 u61 u62 u63 u64 u65 u66 u67 u68 u69 : Value), s ≤ cs.length ∧ a = { tmps := #[.int .i64 i, .pointer (some ⟨pC, 0, none⟩), .pointer (some ⟨pL, 0, none⟩), .pointer (some ⟨pS, 0, none⟩), .pointer (some ⟨pT, 0, none⟩), .pointer (some ⟨pO, 0, none⟩), u6, .pointer (some ⟨w.heap.size + 1, 0, none⟩), .int .i64 kl, u9, u10, u11, u12, u13, u14, u15, u16, u17, u18, u19, .int .i64 cs.length, .int .i64 s, u22, u23, u24, u25, u26, u27, u28, u29, u30, u31, u32, u33, u34, u35, u36, u37, u38, u39, u40, u41, u42, u43, u44, u45, u46, u47, u48, u49, u50, u51, u52, u53, u54, u55, u56, u57, u58, u59, u60, u61, u62, u63, u64, u65, u66, u67, u68, u69], defers := ds } ∧ fe w1 wr w.heap.size cs.length (fun j => if j < s then gi (aV t st cs i) j else 0) ds) (fun a _ => cs.length - (intOf (a.tmps.getD 21 undef)).toNat) ?start ?round
 case start =>
  exact ⟨0, [], _, _, _, _, _, _, _, _, _, _, _, _, _, _, _, _, _, _, _, _, _, _, _, _, _, _, _, _, _, _, _, _, _, _, _, _, _, _, _, _, _, _, _, _, _, _, _, _, _, _, _, _, _, _, _, _, _, _, _, _, Nat.zero_le _, rfl, ⟨⟨rfl, rfl, rfl, Nat.le_refl _, fun _ _ _ => rfl⟩, HROW1.out.congr (fun j _ => by simp), trivial⟩⟩
 case round =>
  rintro a wr ⟨s, ds, u6, u9, u10, u11, u12, u13, u14, u15, u16, u17, u18, u19, u22, u23, u24, u25, u26, u27, u28, u29, u30, u31, u32, u33, u34, u35, u36, u37, u38, u39, u40, u41, u42, u43, u44, u45, u46, u47, u48, u49, u50, u51, u52, u53, u54, u55, u56, u57, u58, u59, u60, u61, u62, u63, u64, u65, u66, u67, u68, u69, hs, rfl, XU⟩
  have hg := XU.grown
  have XV := hg.cell RG (by simp; omega)
  have XW := hg.cell RH (by simp; omega)
  have XX := hg.cell RI (by simp; omega)
  have XY := hg.cell sw (by simp; omega)
  have XZ := hg.cell RJ (by simp; omega)
  have Ek := hg.cell XS (by simp)
  have OA := aa XU
  have HCS1 := aa RH
  have HCC1 := aa RG
  have HCO1 := aa RJ
  have HCP1 := aa RI
  have HCN1 := aa sw
  have BR := aa XS
  have HG := aa hg
  clear RG RH RI sw RJ XS XU hg hcL1
  by_cases hlt : s < cs.length
  ·have l5 : Below wr.heap.size wr (wr.alloc (.cells #[.int .i64 s] 3)) := (Below.refl _ _).alloc (Nat.le_refl _) _
   have Ug := cell_later l5 XV
   have Uh := cell_later l5 XW
   have Ui := cell_later l5 XX
   have Uj := cell_later l5 XY
   have Uk := cell_later l5 XZ
   have Ul := cell_later l5 Ek
   have Em : (wr.alloc (.cells #[.int .i64 s] 3)).cell? ⟨wr.heap.size, 0, none⟩ = some (.int .i64 s) := by simp
   have MF := OA.out.alloc (.cells #[.int .i64 s] 3)
   have hsB : w.heap.size + 2 ≤ wr.heap.size ∧ (wr.alloc (.cells #[.int .i64 s] 3)).heap.size = wr.heap.size + 1 := ⟨by have := HG.out.size; have := GG.out; omega, by simp⟩
   have vZ := aa MF
   have ct := aa hsB
   have OB := MF.row.frozen s
   have OC := MF.row.cell hlt
   simp only [Nat.lt_irrefl, if_false] at OC
   clear l5 MF hsB OA HG
   gi_wp2_with fail
   clear XV XW XX XY XZ Ek
   generalize hw5 : (wr.alloc (.cells #[.int .i64 s] 3)) = w5 at *
   clear hw5
   generalize oI : wr.heap.size = sB at *
   clear oI
   by_cases dY : 0 ≤ kl
   obtain ⟨kn, rfl⟩ := Int.eq_ofNat_of_zero_le dY
   obtain ⟨b, off, rfl, qw⟩ := HSTS.out kn (by omega)
   have hcx2 : w5.cell? ⟨b, off + kn, none⟩ = some (.int .i64 (gi st kn)) := vZ.out.grown.cell (iq.out.cell (p := ⟨b, off + kn, none⟩) (World.block_lt_of_cell? _ _ qw) |>.trans qw) (by have := World.block_lt_of_cell? _ _ qw; simp at this ⊢; omega)
   rw [if_pos dY, Int.toNat_natCast] at HOW
   have i1 : (0 : Int) ≤ (kn : Int) := by omega
   have i2 : (kn : Int) < (st.length : Int) := by omega
   clear qw
   generalize hx : gi st kn = x at *
   clear hx
   by_cases hx0 : 0 ≤ x
   by_cases hxs : x = s
   focus
    have hx1 : (x != (s : Int)) = false := by simp [hxs]
    have HX := aa hxs
    clear hxs
    gi_wp2_with fail
    gi_quiet (fail)
    gi_wp2_with fail
    have H6 : Hid (fe w1 (w5.drewN nq) w.heap.size cs.length (fun j => if j < s then gi (aV t st cs i) j else if j = s then eG t st i s else 0) ds) := (vZ.out.drewN nq).congr fun j _ => by
     rw [show eG t st i s = 0 from by unfold eG; rw [HOW.out, if_neg (fun h => h.2 HX.out)]]
     by_cases e1 : j < s <;> by_cases e2 : j = s <;> simp [e1, e2]
    have Um : (w5.drewN nq).cell? ⟨sB, 0, none⟩ = some (.int .i64 s) := Em
    have Un : Hid ((w5.drewN nq).heap.size = sB + 1) := ct.out.2
    clear Ug Uh Ui Uj Uk Ul Em OB OC vZ
    generalize w5.drewN nq = w6 at *

   rotate_left
   focus
    have hx1 : (x != (s : Int)) = true := by simpa using hxs
    have HX := aa hxs
    clear hxs
    gi_wp2_with fail
    gi_quiet (fail)
    gi_wp2_with fail
    have h6f : (w5.drewN nq).frozen? ⟨w.heap.size, s, none⟩ = false := OB
    have H6 : Hid (fe w1 ((w5.drewN nq).setCell ⟨w.heap.size, s, none⟩ (.int .i64 (-1))) w.heap.size cs.length (fun j => if j < s then gi (aV t st cs i) j else if j = s then eG t st i s else 0) ds) := ((vZ.out.drewN nq).set (by have := GG.out; omega) s (-1)).congr fun j _ => by
     rw [show eG t st i s = -1 from by unfold eG; rw [HOW.out, if_pos ⟨hx0, HX.out⟩]]
     by_cases e1 : j = s
     ·subst e1; simp
     ·simp [e1]
    have Um : ((w5.drewN nq).setCell ⟨w.heap.size, s, none⟩ (.int .i64 (-1))).cell? ⟨sB, 0, none⟩ = some (.int .i64 s) := by
     rw [World.cell?_setCell_other _ _ _ _ (by intro e; injection e with e; have := ct.out; omega)]; exact Em
    have Un : Hid (((w5.drewN nq).setCell ⟨w.heap.size, s, none⟩ (.int .i64 (-1))).heap.size = sB + 1) := by unfold Hid; rw [World.size_setCell]; exact ct.out.2
    clear Ug Uh Ui Uj Uk Ul Em OB OC vZ h6f
    generalize (w5.drewN nq).setCell ⟨w.heap.size, s, none⟩ (.int .i64 (-1)) = w6 at *

   rotate_left
   focus
    have hx1 : decide (0 ≤ x) = false := by simpa using hx0
    gi_wp2_with fail
    gi_quiet (fail)
    gi_wp2_with fail
    have H6 : Hid (fe w1 (w5.drewN nq) w.heap.size cs.length (fun j => if j < s then gi (aV t st cs i) j else if j = s then eG t st i s else 0) ds) := (vZ.out.drewN nq).congr fun j _ => by
     rw [show eG t st i s = 0 from by unfold eG; rw [HOW.out, if_neg (fun h => by omega)]]
     by_cases e1 : j < s <;> by_cases e2 : j = s <;> simp [e1, e2]
    have Um : (w5.drewN nq).cell? ⟨sB, 0, none⟩ = some (.int .i64 s) := Em
    have Un : Hid ((w5.drewN nq).heap.size = sB + 1) := ct.out.2
    clear Ug Uh Ui Uj Uk Ul Em OB OC vZ
    generalize w5.drewN nq = w6 at *

   rotate_left
   focus
    rw [if_neg dY] at HOW
    have hx1 : decide (0 ≤ kl) = false := by simpa using dY
    gi_wp2_with fail
    gi_quiet (fail)
    gi_wp2_with fail
    have H6 : Hid (fe w1 (w5.drewN nq) w.heap.size cs.length (fun j => if j < s then gi (aV t st cs i) j else if j = s then eG t st i s else 0) ds) := (vZ.out.drewN nq).congr fun j _ => by
     rw [show eG t st i s = 0 from by unfold eG; rw [HOW.out, if_neg (fun h => by omega)]]
     by_cases e1 : j < s <;> by_cases e2 : j = s <;> simp [e1, e2]
    have Um : (w5.drewN nq).cell? ⟨sB, 0, none⟩ = some (.int .i64 s) := Em
    have Un : Hid ((w5.drewN nq).heap.size = sB + 1) := ct.out.2
    clear Ug Uh Ui Uj Uk Ul Em OB OC vZ
    generalize w5.drewN nq = w6 at *

   rotate_left
   all_goals
    refine ⟨trivial, (callsIn_wide.2 (XJ w6 _ P N rfl i)).mono ?_⟩
    rintro e w7 ⟨rfl, rfl⟩
    gi_wp2_with fail
    have OD : Below w6.heap.size w6 ((w6.alloc (.cells #[P, N] 39)).alloc (.cells #[.int .i64 i] 3)) := ((Below.refl _ _).alloc (Nat.le_refl _) _).alloc (by simp) _
    have h7s := cell_later OD Um
    have h7n : ((w6.alloc (.cells #[P, N] 39)).alloc (.cells #[.int .i64 i] 3)).cell? ⟨w6.heap.size + 1, 0, none⟩ = some (.int .i64 i) := by simp
    have h7p : ((w6.alloc (.cells #[P, N] 39)).alloc (.cells #[.int .i64 i] 3)).cell? ⟨w6.heap.size, 0, none⟩ = some P := by simp
    have h7z : ((w6.alloc (.cells #[P, N] 39)).alloc (.cells #[.int .i64 i] 3)).heap.size = w6.heap.size + 2 := by simp
    have RL := (H6.out.alloc (.cells #[P, N] 39)).alloc (.cells #[.int .i64 i] 3)
    have h6e : w6.heap.size = sB + 1 := Un.out
    generalize ((w6.alloc (.cells #[P, N] 39)).alloc (.cells #[.int .i64 i] 3)) = w7 at *
    generalize w6.heap.size = z6 at *
    have hz1 := GG.out
    have hsb1 := ct.out.1
    have hold : ∀ W, w7.grownBy W (some w.heap.size) → ∀ b, b < w.heap.size → W.heap[b]? = w.heap[b]? := fun W hg b hb =>
     ((hg.block b (by omega) (by simp; omega)).trans (RL.grown.block b (by omega) (by simp; omega))).trans (iq.out.block b hb)
    have OE : w7.grownBy w7 (some w.heap.size) := ⟨rfl, rfl, rfl, Nat.le_refl _, fun _ _ _ => rfl⟩
    have BS : aB (fun b => b ≠ w.heap.size ∧ b < w7.heap.size) w7 P t.ps := ((XT.out.sub (T := fun b => b < w.heap.size) fun b _ hb => hb).keep fun b hb _ => hold w7 OE b hb).sub fun b hb _ => ⟨by omega, by omega⟩
    have Dg : ∀ c, c < t.ps.length → -1 ≤ iK t st cs s c ∧ iK t st cs s c ≤ 101000 := fun c hc => Ge (A := 100000) (by omega) (fun k => Ef.out s k) (fun k => (ye.out c k hc).2) _
    have X0 := aa Dg
    have HOLD := aa hold
    have GH := aa RL
    have H7S := aa h7s
    have HZ7 := aa h7z
    have HZ1 := aa hz1
    have h7zz : w.heap.size < w7.heap.size := by omega
    apply wpIn_rangeFunc_ownF (F := Fence.wide) (n := 9) (P := Tryz.prog) (ps := #[47]) (w := w7) rfl (by omega) (gf := 282) (lb := #[.pointer (some ⟨z6 + 1, 0, none⟩), .pointer (some ⟨z6, 0, none⟩)]) rfl trivial (enters_of Tryz.func282 (by kernel_rfl) rfl)
     (MA 8 (by omega) (z6 + 1) z6 (fun b => b ≠ w.heap.size ∧ b < w7.heap.size) t.ps i P w7 (fun b hb => hb.2) h7n h7p BS ⟨by omega, by omega⟩ ⟨by omega, by omega⟩ hi (by omega))
     (fun h k => KS.trans h k) (fun W l o o' hl _ _ _ => fun b (hb : b ≠ w.heap.size ∧ b < w7.heap.size) => World.putObj_heap_other (by have := hb.2; omega)) (Below.refl _ _) (fun _ => (rfl : (1 : Nat) = 1))
     (fun pre W => W.rowIs w.heap.size 3 cs.length (fun j => .int .i64 (if j < s then gi (aV t st cs i) j else if j = s then eG t st i s + ((vals pre).map (iK t st cs s)).sum else 0)) ∧ w7.grownBy W (some w.heap.size))
     (fun _ _ _ => False) (VZ h7zz) (fun _ _ _ _ _ h _ _ => h)
     ⟨RL.row.congr fun j _ => by simp [vals], OE⟩
    ·intro l x W K hK
     gi_wp2
     exact hK
    ·rintro l pre x W ⟨hrow, En⟩ hlen
     have hkeep := HOLD.out W En
     have bC : W.cell? ⟨pC, 0, none⟩ = some (.slice qC cs.length jV) := (World.cell?_of_block (hkeep pC lC)).trans XQ
     have bO : W.cell? ⟨pO, 0, none⟩ = some (.slice (some ⟨ob, 0, none⟩) t.ps.length t.ps.length) := (World.cell?_of_block (hkeep pO lO)).trans HW.out.cO
     have bs : W.cell? ⟨sB, 0, none⟩ = some (.int .i64 s) := En.cell H7S.out (by simp; omega)
     have bR : W.cell? ⟨w.heap.size + 1, 0, none⟩ = some (.slice (some ⟨w.heap.size, 0, none⟩) cs.length cs.length) := En.cell (GH.out.grown.cell BR.out (by simp)) (by simp)
     obtain ⟨hx1, hx2, _⟩ := bf.1 x.2
     have bV : W.cell? ⟨ob, x.1, none⟩ = some (V x.1) := (World.cell?_of_block (hkeep ob HW.out.row.lt)).trans (HW.out.row.cell hx1)
     have X3 := HW.out.rows x.1 hx2 hx1
     have hVW : aB (fun b => b < w.heap.size) W (V x.1) (aV t st cs x.1) := (X3.sub (T := fun b => b < w.heap.size) fun b _ hb => hb).keep fun b hb _ => hkeep b hb
     have hCW : bh (fun b => b < w.heap.size) W (.slice qC cs.length jV) cs := (HCI.out.sub (T := fun b => b < w.heap.size) fun b _ hb => hb).keep fun b hb _ => hkeep b hb
     have BU := fun k => XF _ _ (W.drewN k) _ _ cs (aV t st cs x.1) s (hCW.keep (BP _ _ _)) (hVW.keep (BP _ _ _)) hlt (by rw [gj, oJ.out s hlt]; exact Nat.le_refl _) (by rw [gj]; omega) (Ef.out s) (fun k => by have := (ye.out x.1 k hx1).2; omega)
     obtain ⟨qv, cv, ev, _, _⟩ := aD.open X3
     rw [ev] at bV BU
     unfold x9 at BU
     have ha := X0.out x.1 hx1
     have hak : (bG (gi (gl cs s)) (gi (aV t st cs x.1)) (aV t st cs x.1).length).1 = iK t st cs s x.1 := rfl
     rw [hak] at BU
     have hrs := hrow.cell hlt
     have hrf := hrow.frozen s
     simp only [Nat.lt_irrefl, if_false, if_true] at hrs
     have nV : eG t st i s = 0 ∨ eG t st i s = -1 := by unfold eG; split <;> simp
     have hsm : -64 ≤ ((vals pre).map (iK t st cs s)).sum ∧ ((vals pre).map (iK t st cs s)).sum ≤ 101000 * 64 := by
      have h0 := RF (A := 101000) (B := 64) (f := iK t st cs s) (by omega) (by omega) pre (fun c => X0.out c.1 (bf.1 c.2).1) (by omega)
      constructor <;> omega
     have HBEST := aa BU
     have Dn := aa hrow
     have HG7 := aa En
     have hbs2 : -1 ≤ eG t st i s ∧ eG t st i s ≤ 0 := by omega
     have i1 : (0 : Int) ≤ (x.1 : Int) := by omega
     have i2 : (x.1 : Int) < (t.ps.length : Int) := by omega
     obtain ⟨ha1, ha2⟩ := ha
     obtain ⟨hsm1, hsm2⟩ := hsm
     obtain ⟨hb1, hb2⟩ := hbs2
     have HPX : Hid (((vals (pre ++ [x])).map (iK t st cs s)).sum = ((vals pre).map (iK t st cs s)).sum + iK t st cs s x.1) := by unfold Hid; rw [ya]; simp
     clear BU hrow En hkeep hVW hCW X3 hak nV HW ye Ef oJ HOLD GH H7S BS
     generalize ((vals pre).map (iK t st cs s)).sum = sm at *
     generalize iK t st cs s x.1 = ad at *
     generalize eG t st i s = bt at *
     generalize (bG (gi (gl cs s)) (gi (aV t st cs x.1)) (aV t st cs x.1).length).2 = ow at *
     gi_wp2
     have hf52 : Fence.wide.fn 247 := trivial
     have hf52r : (Fence.wide.inRound l).fn 247 := trivial
     refine Dl (l₀ := l) rfl (by kernel_rfl) (by kernel_rfl) (by kernel_rfl) ?_
     repeat (gi_big_quiet_step (fail))
     gi_big_quiet_want
     gi_big_quiet_op
     refine ⟨_, fun k => CallsIn.inRound l (callsIn_wide.2 (ME (HBEST.out k))), ?_⟩
     go_big_quiet_on
     repeat (gi_big_quiet_step (fail))
     refine wpQuietIn_nil ?_
     intro _ hw'
     obtain ⟨nq, hw''⟩ := hw'
     subst hw''
     gi_wp2
     refine ⟨?_, ?_, ?_, ?_⟩
     ·exact ⟨(KeepsOthers.setCell (W.drewN nq) _ _).size, (KeepsOthers.setCell (W.drewN nq) _ _).same⟩
     ·exact fun b hb => Below.heap_setCell (W.drewN nq) _ _ b hb.1
     ·exact ((show (W.drewN nq).rowIs w.heap.size 3 cs.length _ from Dn.out).set s _).congr fun j _ => by
       by_cases e : j = s
       ·subst e; simp [HPX.out]; omega
       ·simp [e]
     ·exact GF HG7.out ⟨rfl, rfl, rfl, by rw [World.size_setCell]; exact Nat.le_refl _, fun k _ hne => Below.heap_setCell (W.drewN nq) _ _ k (fun e => hne (by rw [e]))⟩
    ·rintro D xs W hD hS ⟨hrow, En⟩ hK
     have hT : eG t st i s + ((vals xs).map (iK t st cs s)).sum = gi (aV t st cs i) s := by rw [hS, eF _ _ _ _ hlt, K0 _ _ _ hi]
     have X4 := (GH.out.later En hrow (by omega)).congr (g := fun j => if j < s + 1 then gi (aV t st cs i) j else 0) (fun j _ => by
      by_cases e1 : j < s
      ·simp [e1, Nat.lt_succ_of_lt e1]
      ·by_cases e2 : j = s
       ·subst e2; simp [hT]
       ·have e3 : ¬ j < s + 1 := by omega
        simp [e1, e2, e3])
     have hMK : Marks w1.heap.size W ({ target := .collected D, args := #[] } :: ds) := ⟨⟨D, rfl, by have := GH.out.grown.size; omega, hK, fun d' hd' e => by
      obtain ⟨r, hr, hr2⟩ := GH.out.marks.lt d' hd'
      rw [hr] at e; injection e with e; omega⟩, X4.marks⟩
     have GI := aa X4
     have X5 := aa hMK
     clear hT X4 hMK hrow En hK BS
     gi_wp2_with fail
     refine ⟨⟨s + 1, _, _, _, _, _, _, _, _, _, _, _, _, _, _, _, _, _, _, _, _, _, _, _, _, _, _, _, _, _, _, _, _, _, _, _, _, _, _, _, _, _, _, _, _, _, _, _, _, _, _, _, _, _, _, _, _, _, _, _, _, _, by omega, rfl, ⟨GI.out.grown, GI.out.row, X5.out⟩⟩, ?_⟩
     simp [intOf]; omega
    ·rintro D c pre W _ _ h _
     exact h.elim
  ·obtain rfl : s = cs.length := by omega
   clear hlt
   have GJ := HW.out.row.lt
   have hkeep : ∀ b, b < w.heap.size → wr.heap[b]? = w.heap[b]? := fun b hb => (HG.out.block b (by have := GG.out; omega) (by simp; omega)).trans (iq.out.block b hb)
   have hro := HW.out.row.of_block (hkeep ob GJ)
   have hx1 := hro.cell hi
   have hx2 := hro.frozen i
   have hle1 : w.heap.size + 2 ≤ w1.heap.size := by have := GG.out; omega
   have HKP := aa hkeep
   have Uo := aa hro
   clear hkeep hro
   have X6 := OA
   gi_wp2_with fail
   refine yc (v := .tuple #[]) (n₀ := w1.heap.size) (fun _ => results_none rfl _ _ _) (X6.out.marks.keep fun r _ hr2 => Below.heap_setCell _ _ _ r (by simp only; omega)) fun w' hb hs' hc => ⟨rfl, ?_, .slice (some ⟨w.heap.size, 0, none⟩) cs.length cs.length, ?_, ?_⟩
   ·refine ⟨hb.os.trans (HG.out.os.trans iq.out.os), hb.tape.trans (HG.out.tape.trans iq.out.tape), hb.output.trans (HG.out.output.trans iq.out.output), ?_, fun k hk hne => ?_⟩
    ·have h1 := hb.size; rw [World.size_setCell] at h1; have h2 := HG.out.size; omega
    ·exact ((hb.block k (by omega)).trans (Below.heap_setCell _ _ _ k (fun e => hne (by rw [e])))).trans (HKP.out k hk)
   ·exact ((Uo.out.set i _).of_block (hb.block ob (by omega)))
   ·have hrow2 := (X6.out.row.setOther (a := ⟨ob, i, none⟩) (by simp only; omega) (.slice (some ⟨w.heap.size, 0, none⟩) cs.length cs.length)).of_block (hb.block w.heap.size (by omega))
    refine ⟨some ⟨w.heap.size, 0, none⟩, cs.length, by rw [gj], by rw [gj]; exact Nat.le_refl _, .inr ⟨w.heap.size, 0, rfl, by omega, fun k hk => ?_⟩⟩
    rw [gj] at hk
    have h1 := hrow2.cell hk
    simp only [hk, if_true] at h1
    rw [Nat.zero_add]; exact h1
end
section
open Go.RowKit Go.Shelf Go.Deep
section
variable {F : Fence} {n : Nat} {P : Program} {C : World → Prop}
end
end
end Go.Proofs.YteegefnjnikngaaGreat
