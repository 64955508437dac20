/- The contract of layer 31's reference's Canonical. Sets of sources as numbers: of, within, conflict, sources. Contracts: equal lists of lists. The contract of the reference's SameGroups, at groups that are the same. The contract of sharederror.check. The contract of sharederror.Conflicts. Contracts: Index, Contains, IndexFunc, ContainsFunc over sets; sharederror.named; Max; far. Contracts: IndexFunc, ContainsFunc over groups; far. What grow computes, plain; its closures. The walk of grow (sharederror.Tree's closure). What sharederror.Tree computes, plain; slices.Clone of strings. The walk of sharederror.Tree. A list of groups of the call's own; a group appended. The contract of sharederror.Groups. The walk of sharederror.Groups. Great of layer 30; slices.Contains of numbers. Contracts: Great of layer 35, fine, Support, Original, Significant. The plain law of SharederrorPairs: sets as lists; the closures of the law. The tree that grow makes is a rose tree, numbered depth first. The rose tree of nested sets: leaves, sizes, no node with one child. -/
import Derived.Test.YtpjijbophjdgaaaGreatQ22
import Derived.Test.YtpjijbophjdgaaaGreatQ23
import Derived.Test.YtpjijbophjdgaaaGreatQ16
import Derived.Laws.Bits64b
import Derived.Laws.BitsAllLaws
import Derived.Test.YtpjijbophjdgaaaGreatQ4
import Derived.Test.YtpjijbophjdgaaaGreatQ19
import Derived.Test.YtpjijbophjdgaaaGreatQ3
import Derived.Deep.CutRange
import Derived.Test.YtpjijbophjdgaaaGreatQ14
import Derived.Test.YtpjijbophjdgaaaGreatQ17
namespace Go.Proofs.YtpjijbophjdgaaaGreat
open Go.RowKit Go.Deep
def canR (t : Tre) : Tre := flat (ordR (toR t))
def CrPost (w : World) (t : Tre) (e : Ending) (w' : World) : Prop :=
  Up w w' ∧ ((treeErr t ≠ 0 ∧ e = .returned (.tuple #[.agg #[.slice none 0 0, .slice none 0 0], .int .i64 1])) ∨ (treeErr t = 0 ∧ ∃ v, e = .returned (.tuple #[v, .int .i64 0]) ∧ TreeAt (fun b => w.heap.size ≤ b) w' v (canR t)))
set_option maxRecDepth 100000 in
set_option maxHeartbeats 2000000 in
theorem canonR_t (S : Nat → Prop) (w : World) (v : Value) (t : Tre) (hT : TreeAt S w v t) (hp : t.ps.length ≤ 1000000) (hn : t.ns.length ≤ 1000000) (hz : ∀ k, (gs t.ns k).size ≤ 70000) : Calls Tryz.prog 43 #[v] w (CrPost w t) := by
  obtain ⟨P, N, rfl, hP, hN⟩ := hT
  have hu := (Up.alloc w (.cells #[P, N] 45)).trans (Up.alloc _ (.cells #[.slice none 0 0, .slice none 0 0] 45))
  have hT1 : TreeAt S ((w.alloc (.cells #[P, N] 45)).alloc (.cells #[.slice none 0 0, .slice none 0 0] 45)) (.agg #[P, N]) t := TreeAt.keep ⟨P, N, rfl, hP, hN⟩ (hu.kept _)
  have HCK := Lib.hid (checkR_t S _ _ t hT1 hp hn hz)
  have HT := Lib.hid hT1
  have HU := Lib.hid hu
  have HC0 := Lib.hid ((Up.alloc _ (.cells #[.slice none 0 0, .slice none 0 0] 45)).cell (box2_0 w P N 45))
  have HC1 := Lib.hid ((Up.alloc _ (.cells #[.slice none 0 0, .slice none 0 0] 45)).cell (box2_1 w P N 45))
  have hc0 := HC0.out
  have hc1 := HC1.out
  have hrb := box_at (w := w.alloc (.cells #[P, N] 45)) (P := .slice none 0 0) (N := .slice none 0 0) (T := 45)
  have hsz : ((w.alloc (.cells #[P, N] 45)).alloc (.cells #[.slice none 0 0, .slice none 0 0] 45)).heap.size = w.heap.size + 2 := by simp
  rw [World.size_alloc] at hrb
  have HRB := Lib.hid hrb
  have HSZ := Lib.hid hsz
  clear hu hT1 hP hN hrb hsz
  go_enter Tryz.func43, Tryz.ntmps43
  go_wp2_with fail
  generalize (w.alloc (.cells #[P, N] 45)).alloc (.cells #[.slice none 0 0, .slice none 0 0] 45) = w1 at *
  refine HCK.out.mono ?_
  rintro e w2 ⟨rfl, hb2⟩
  have hu2 : Up w1 w2 := hb2
  have hc0 := hu2.cell HC0.out
  have hc1 := hu2.cell HC1.out
  have HT2 := Lib.hid (HT.out.keep (hu2.kept S))
  have hrb2 := (Below.block hu2 (w.heap.size + 1) (by rw [HSZ.out]; omega)).trans HRB.out
  have HU2 := Lib.hid (HU.out.trans hu2)
  have HS2 : Hid (w.heap.size + 2 ≤ w2.heap.size) := by unfold Hid; have := hu2.size; rw [HSZ.out] at this; exact this
  clear hb2 hu2 HCK HT HU HC0 HC1 HRB
  by_cases he : treeErr t = 0
  · have HE := Lib.hid he
    rw [he]
    have HRB2 := Lib.hid hrb2
    have HGR := Lib.hid (growR_t S t he (rkT t 0) 0 (Nat.le_refl _) (treeErr_zero he).1 w2 _ HT2.out)
    have hsize := sizeR_toR he
    have hord := sizeR_ord (toR t)
    have HSI := Lib.hid (And.intro hsize hord)
    clear hrb2 he hsize hord
    go_wp2_with fail
    refine HGR.out.mono ?_
    rintro e w3 ⟨hu3, v3, rfl, hr3⟩
    have HU3 := Lib.hid hu3
    have HOD := Lib.hid (ordered_t _ 64 (toR t) HSI.out.1 (by omega) w3 _ hr3)
    clear hu3 hr3 HGR
    go_wp2_with fail
    refine HOD.out.mono ?_
    rintro e w4 ⟨hu4, v4, rfl, hr4⟩
    have HU4 := Lib.hid (HU3.out.trans hu4)
    have HNB := Lib.hid (number_t _ w4 _ (ordR (toR t)) hr4 (by have := HSI.out; omega))
    have HS4 : Hid (w.heap.size + 2 ≤ w4.heap.size) := by unfold Hid; have := HU4.out.size; have := HS2.out; omega
    clear hu4 hr4 HOD HU3
    go_wp2_with fail
    refine HNB.out.mono ?_
    rintro e w5 ⟨hu5, _, rfl, P4, N4, rfl, hP4, hN4⟩
    have hP4 : IntsAt (fun b => w4.heap.size ≤ b) w5 P4 (canR t).ps := hP4
    have hN4 : StrsAt (fun b => w4.heap.size ≤ b) w5 N4 (canR t).ns := hN4
    obtain ⟨pp, pc, rfl, _, _⟩ := SlAt.open hP4
    obtain ⟨np, nc, rfl, _, _⟩ := SlAt.open hN4
    have hrb4 := (Below.block (HU4.out.trans hu5) (w.heap.size + 1) (by have := HS2.out; omega)).trans HRB2.out
    have hr0 : w5.cell? ⟨w.heap.size + 1, 0, none⟩ = some (.slice none 0 0) := by simp [World.cell?, hrb4]
    have hr1 : w5.cell? ⟨w.heap.size + 1, 1, none⟩ = some (.slice none 0 0) := by simp [World.cell?, hrb4]
    have hf0 : w5.frozen? ⟨w.heap.size + 1, 0, none⟩ = false := by simp [World.frozen?, hrb4]
    have hf1 : w5.frozen? ⟨w.heap.size + 1, 1, none⟩ = false := by simp [World.frozen?, hrb4]
    have HP4 := Lib.hid hP4
    have HN4 := Lib.hid hN4
    have HST := Lib.hid (store_two (w := w) (p := .slice pp (canR t).ps.length pc) (q := .slice np (canR t).ns.length nc) hrb4 (by omega) (HU2.out.trans (HU4.out.trans hu5)))
    clear hP4 hN4 hu5 hrb4 HNB HRB2 hc0 hc1
    go_wp2_with fail
    obtain ⟨s1, s2, s3, s4⟩ := HST.out
    have hs2 := HS2.out
    have hs4 := HS4.out
    refine ⟨rfl, .tuple #[.agg #[.slice pp (canR t).ps.length pc, .slice np (canR t).ns.length nc], .int .i64 0], by simp [results, Tryz.results43, go_sem, s2, s3], ?_⟩
    exact ⟨s1, .inr ⟨HE.out, _, rfl, _, _, rfl, (IntsAt.keep HP4.out fun b hb _ => s4 b (by omega)).sub fun b hb _ => by omega, (StrsAt.keep HN4.out fun b hb _ => s4 b (by omega)).sub fun b hb _ => by omega⟩⟩
  · have he1 : (treeErr t != 0) = true := by simpa using he
    have hr0 : w2.cell? ⟨w.heap.size + 1, 0, none⟩ = some (.slice none 0 0) := by simp [World.cell?, hrb2]
    have hr1 : w2.cell? ⟨w.heap.size + 1, 1, none⟩ = some (.slice none 0 0) := by simp [World.cell?, hrb2]
    have hf0 : w2.frozen? ⟨w.heap.size + 1, 0, none⟩ = false := by simp [World.frozen?, hrb2]
    have hf1 : w2.frozen? ⟨w.heap.size + 1, 1, none⟩ = false := by simp [World.frozen?, hrb2]
    have HST := Lib.hid (store_two (w := w) (p := .slice none 0 0) (q := .slice none 0 0) hrb2 (by omega) HU2.out)
    have HE := Lib.hid he
    clear he hrb2 hc0 hc1
    generalize treeErr t = te at he1 ⊢
    go_wp2_with fail
    obtain ⟨s1, s2, s3, s4⟩ := HST.out
    refine ⟨rfl, .tuple #[.agg #[.slice none 0 0, .slice none 0 0], .int .i64 1], by simp [results, Tryz.results43, go_sem, s2, s3], ?_⟩
    exact ⟨s1, .inl ⟨HE.out, rfl⟩⟩
end Go.Proofs.YtpjijbophjdgaaaGreat
namespace Go.Proofs.YtpjijbophjdgaaaGreat
open Go.RowKit Go.Deep
def Small (l : List Int) : Prop := ∀ k, k < l.length → 0 ≤ gi l k ∧ gi l k < 32
end Go.Proofs.YtpjijbophjdgaaaGreat
namespace Go.Proofs.YtpjijbophjdgaaaGreat
open Go.RowKit Go.Deep
def QD (w w' : World) : Prop := ∃ n, w' = w.drewN n
theorem QD.refl (w : World) : QD w w := ⟨0, rfl⟩
theorem QD.drewN {w w' : World} (h : QD w w') (n : Nat) : QD w (w'.drewN n) := by
  obtain ⟨m, rfl⟩ := h; exact ⟨m + n, by rw [World.drewN_drewN]⟩
theorem QD.kept {w w' : World} (h : QD w w') (S : Nat → Prop) : Kept S w w' := by
  obtain ⟨m, rfl⟩ := h; exact fun _ _ _ => rfl
theorem QD.up {w w' : World} (h : QD w w') : Up w w' := by
  obtain ⟨m, rfl⟩ := h; exact Up.drewN w m
end Go.Proofs.YtpjijbophjdgaaaGreat
namespace Go.Proofs.YtpjijbophjdgaaaGreat
open Go.RowKit Go.Deep
end Go.Proofs.YtpjijbophjdgaaaGreat
namespace Go.Proofs.YtpjijbophjdgaaaGreat
open Go.RowKit Go.Deep
end Go.Proofs.YtpjijbophjdgaaaGreat
namespace Go.Proofs.YtpjijbophjdgaaaGreat
open Go.RowKit Go.Deep
theorem same_quiet {P : Program} {f : FuncId} {args : Array Value} {w : World} {n : Nat} {v : Value} (h : Calls P f args (w.drewN n) fun e w' => e = .returned v ∧ w.drewN n = w') : Calls P f args (w.drewN n) fun e w'' => e = .returned v ∧ ∃ m, w'' = w.drewN m :=
  h.mono fun _ _ ⟨h1, h2⟩ => ⟨h1, n, h2.symm⟩
section
variable {P : Program} {ops : Array Oper} {rest : List Oper} {o : Oper} {a : Act} {Q : Exit → Act → World → Prop}
end
end Go.Proofs.YtpjijbophjdgaaaGreat
namespace Go.Proofs.YtpjijbophjdgaaaGreat
open Go.RowKit Go.Shelf Go.Deep
section
attribute [local go_sem] Oper.semAt_some
end
end Go.Proofs.YtpjijbophjdgaaaGreat
namespace Go.Proofs.YtpjijbophjdgaaaGreat
open Go.RowKit Go.Shelf Go.Deep
end Go.Proofs.YtpjijbophjdgaaaGreat
namespace Go.Proofs.YtpjijbophjdgaaaGreat
open Go.RowKit Go.Shelf Go.Deep
end Go.Proofs.YtpjijbophjdgaaaGreat
namespace Go.Proofs.YtpjijbophjdgaaaGreat
open Go.RowKit Go.Deep
end Go.Proofs.YtpjijbophjdgaaaGreat
namespace Go.Proofs.YtpjijbophjdgaaaGreat
open Go.RowKit Go.Deep
end Go.Proofs.YtpjijbophjdgaaaGreat
namespace Go.Proofs.YtpjijbophjdgaaaGreat
open Go.RowKit Go.Deep
theorem nil_tree (W : World) : TreeAt Any W (.agg #[.slice none 0 0, .slice none 0 0]) ⟨[], []⟩ :=
  ⟨_, _, rfl, ⟨none, 0, rfl, Nat.le_refl _, .inl rfl⟩, ⟨none, 0, rfl, Nat.le_refl _, .inl rfl⟩⟩
theorem boxed {W : World} {B : Nat} {P N : Value} (hb : W.heap[B]? = some (Obj.cells #[P, N] 45 (0, 0))) : W.cell? ⟨B, 0, none⟩ = some P ∧ W.cell? ⟨B, 1, none⟩ = some N ∧ W.frozen? ⟨B, 0, none⟩ = false ∧ W.frozen? ⟨B, 1, none⟩ = false := by
  refine ⟨?_, ?_, ?_, ?_⟩ <;> simp [World.cell?, World.frozen?, hb]
section
variable {P : Program} {ops : Array Oper} {rest : List Oper} {o : Oper} {a : Act} {Q : Exit → Act → World → Prop}
end
end Go.Proofs.YtpjijbophjdgaaaGreat
namespace Go.Proofs.YtpjijbophjdgaaaGreat
open Go.RowKit Go.Deep
section
variable {P : Program} {ops : Array Oper} {rest : List Oper} {o : Oper} {a : Act} {Q : Exit → Act → World → Prop}
end
end Go.Proofs.YtpjijbophjdgaaaGreat
namespace Go.Proofs.YtpjijbophjdgaaaGreat
open Go.RowKit Go.Deep
end Go.Proofs.YtpjijbophjdgaaaGreat
namespace Go.Proofs.YtpjijbophjdgaaaGreat
open Go.RowKit Go.Deep
end Go.Proofs.YtpjijbophjdgaaaGreat
namespace Go.Proofs.YtpjijbophjdgaaaGreat
open Go.RowKit Go.Deep
theorem contains_int_t (S : Nat → Prop) (w : World) (v : Value) (xs : List Int) (x : Int) (h : IntsAt S w v xs) (hn : xs.length ≤ 1000000) :
    Calls Tryz.prog 84 #[v, .int .i64 x] w fun e w' => e = .returned (.bool ((List.range xs.length).any fun j => decide (x = gi xs j))) ∧ w = w' := by
  have hx := firstIx_any (fun j => decide (x = gi xs j)) xs.length
  have HX := Lib.hid hx
  have HI := Lib.hid (index_int_t S w v xs x h hn)
  clear hx h
  go_enter Tryz.func84, Tryz.ntmps84
  go_wp2_with fail
  refine HI.out.mono ?_
  rintro e w' ⟨rfl, rfl⟩
  go_wp2_with fail
  go_ret
  exact ⟨ret_bool (by rw [← HX.out]), rfl⟩
theorem any_memI (x : Int) (xs : List Int) : ((List.range xs.length).any fun j => decide (x = gi xs j)) = decide (x ∈ xs) := by
  rw [Bool.eq_iff_iff, List.any_eq_true, decide_eq_true_eq]
  constructor
  · rintro ⟨j, hj, h⟩
    rw [of_decide_eq_true h]; exact gi_mem (List.mem_range.1 hj)
  · intro h
    obtain ⟨j, hj, e⟩ := List.getElem_of_mem h
    exact ⟨j, List.mem_range.2 hj, by simp [gi, hj, e]⟩
end Go.Proofs.YtpjijbophjdgaaaGreat
namespace Go.Proofs.YtpjijbophjdgaaaGreat
open Go.RowKit Go.Deep
end Go.Proofs.YtpjijbophjdgaaaGreat
namespace Go.Proofs.YtpjijbophjdgaaaGreat
open Go.RowKit Go.Deep
end Go.Proofs.YtpjijbophjdgaaaGreat
namespace Go.Proofs.YtpjijbophjdgaaaGreat
end Go.Proofs.YtpjijbophjdgaaaGreat
namespace Go.Proofs.YtpjijbophjdgaaaGreat
def fltN (l : List ByteArray) : List ByteArray := l.filter fun s => decide (s.size ≠ 0)
theorem fltN_app (a b : List ByteArray) : fltN (a ++ b) = fltN a ++ fltN b := List.filter_append _ _
theorem leafR_node {nm : ByteArray} {ks : List RT} (h : nm.size = 0) : leafR (.node nm ks) = ks.flatMap leafR := by
  have key : ∀ ks : List RT, fltN (nsRs ks) = ks.flatMap leafR := by
    intro ks
    induction ks with
    | nil => rfl
    | cons r rs ih => rw [nsRs, fltN_app, ih, List.flatMap_cons]; rfl
  show fltN (nsR _) = _
  rw [nsR, ← key]
  unfold fltN
  rw [List.filter_cons_of_neg (by simp [h])]
theorem leafR_leaf {nm : ByteArray} (h : nm.size ≠ 0) : leafR (.node nm []) = [nm] := by
  show List.filter _ (nsR _) = _
  rw [nsR, nsRs, List.filter_cons_of_pos (by simpa using h)]; rfl
end Go.Proofs.YtpjijbophjdgaaaGreat
