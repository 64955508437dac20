/- The contract of layer 31's reference's Canonical. Sets of sources as numbers: of, within, conflict, sources. The contract of the reference's SameGroups, at groups that are the same. The contract of sharederror.check. The contract of sharederror.Conflicts. Contracts: Index, Contains, IndexFunc, ContainsFunc over sets; sharederror.named; Max; far. Contracts: IndexFunc, ContainsFunc over groups; far. What grow computes, plain; its closures. The walk of grow (sharederror.Tree's closure). What sharederror.Tree computes, plain; slices.Clone of strings. The walk of sharederror.Tree. A list of groups of the call's own; a group appended. The contract of sharederror.Groups. The walk of sharederror.Groups. Great of layer 30; slices.Contains of numbers. Contracts: Great of layer 35, fine, Support, Original, Significant. The plain law of SharederrorPairs: sets as lists; the closures of the law. The tree that grow makes is a rose tree, numbered depth first. The rose tree of nested sets: leaves, sizes, no node with one child. The reference's canonical tree is the canonical tree: its order is the sort's order. -/
import Derived.Test.YtpjijbophjdgaaaGreatQ22
import Derived.Test.YtpjijbophjdgaaaGreatQ23
import Derived.Test.YtpjijbophjdgaaaGreatQ16
import Derived.Laws.Bits64b
import Derived.Laws.BitsAllLaws
import Derived.Test.YtpjijbophjdgaaaGreatQ4
import Derived.Test.YtpjijbophjdgaaaGreatQ19
import Derived.Test.YtpjijbophjdgaaaGreatQ3
import Derived.Deep.CutRange
import Derived.Test.YtpjijbophjdgaaaGreatQ14
import Derived.Test.YtpjijbophjdgaaaGreatQ17
namespace Go.Proofs.YtpjijbophjdgaaaGreat
open Go.RowKit Go.Deep
def canR (t : Tre) : Tre := flat (ordR (toR t))
def CrPost (w : World) (t : Tre) (e : Ending) (w' : World) : Prop :=
  Up w w' ∧ ((treeErr t ≠ 0 ∧ e = .returned (.tuple #[.agg #[.slice none 0 0, .slice none 0 0], .int .i64 1])) ∨ (treeErr t = 0 ∧ ∃ v, e = .returned (.tuple #[v, .int .i64 0]) ∧ TreeAt (fun b => w.heap.size ≤ b) w' v (canR t)))
set_option maxRecDepth 100000 in
set_option maxHeartbeats 2000000 in
theorem canonR_t (S : Nat → Prop) (w : World) (v : Value) (t : Tre) (hT : TreeAt S w v t) (hp : t.ps.length ≤ 1000000) (hn : t.ns.length ≤ 1000000) (hz : ∀ k, (gs t.ns k).size ≤ 70000) : Calls Tryz.prog 43 #[v] w (CrPost w t) := by
  obtain ⟨P, N, rfl, hP, hN⟩ := hT
  have hu := (Up.alloc w (.cells #[P, N] 45)).trans (Up.alloc _ (.cells #[.slice none 0 0, .slice none 0 0] 45))
  have hT1 : TreeAt S ((w.alloc (.cells #[P, N] 45)).alloc (.cells #[.slice none 0 0, .slice none 0 0] 45)) (.agg #[P, N]) t := TreeAt.keep ⟨P, N, rfl, hP, hN⟩ (hu.kept _)
  have HCK := Lib.hid (checkR_t S _ _ t hT1 hp hn hz)
  have HT := Lib.hid hT1
  have HU := Lib.hid hu
  have HC0 := Lib.hid ((Up.alloc _ (.cells #[.slice none 0 0, .slice none 0 0] 45)).cell (box2_0 w P N 45))
  have HC1 := Lib.hid ((Up.alloc _ (.cells #[.slice none 0 0, .slice none 0 0] 45)).cell (box2_1 w P N 45))
  have hc0 := HC0.out
  have hc1 := HC1.out
  have hrb := box_at (w := w.alloc (.cells #[P, N] 45)) (P := .slice none 0 0) (N := .slice none 0 0) (T := 45)
  have hsz : ((w.alloc (.cells #[P, N] 45)).alloc (.cells #[.slice none 0 0, .slice none 0 0] 45)).heap.size = w.heap.size + 2 := by simp
  rw [World.size_alloc] at hrb
  have HRB := Lib.hid hrb
  have HSZ := Lib.hid hsz
  clear hu hT1 hP hN hrb hsz
  go_enter Tryz.func43, Tryz.ntmps43
  go_wp2_with fail
  generalize (w.alloc (.cells #[P, N] 45)).alloc (.cells #[.slice none 0 0, .slice none 0 0] 45) = w1 at *
  refine HCK.out.mono ?_
  rintro e w2 ⟨rfl, hb2⟩
  have hu2 : Up w1 w2 := hb2
  have hc0 := hu2.cell HC0.out
  have hc1 := hu2.cell HC1.out
  have HT2 := Lib.hid (HT.out.keep (hu2.kept S))
  have hrb2 := (Below.block hu2 (w.heap.size + 1) (by rw [HSZ.out]; omega)).trans HRB.out
  have HU2 := Lib.hid (HU.out.trans hu2)
  have HS2 : Hid (w.heap.size + 2 ≤ w2.heap.size) := by unfold Hid; have := hu2.size; rw [HSZ.out] at this; exact this
  clear hb2 hu2 HCK HT HU HC0 HC1 HRB
  by_cases he : treeErr t = 0
  · have HE := Lib.hid he
    rw [he]
    have HRB2 := Lib.hid hrb2
    have HGR := Lib.hid (growR_t S t he (rkT t 0) 0 (Nat.le_refl _) (treeErr_zero he).1 w2 _ HT2.out)
    have hsize := sizeR_toR he
    have hord := sizeR_ord (toR t)
    have HSI := Lib.hid (And.intro hsize hord)
    clear hrb2 he hsize hord
    go_wp2_with fail
    refine HGR.out.mono ?_
    rintro e w3 ⟨hu3, v3, rfl, hr3⟩
    have HU3 := Lib.hid hu3
    have HOD := Lib.hid (ordered_t _ 64 (toR t) HSI.out.1 (by omega) w3 _ hr3)
    clear hu3 hr3 HGR
    go_wp2_with fail
    refine HOD.out.mono ?_
    rintro e w4 ⟨hu4, v4, rfl, hr4⟩
    have HU4 := Lib.hid (HU3.out.trans hu4)
    have HNB := Lib.hid (number_t _ w4 _ (ordR (toR t)) hr4 (by have := HSI.out; omega))
    have HS4 : Hid (w.heap.size + 2 ≤ w4.heap.size) := by unfold Hid; have := HU4.out.size; have := HS2.out; omega
    clear hu4 hr4 HOD HU3
    go_wp2_with fail
    refine HNB.out.mono ?_
    rintro e w5 ⟨hu5, _, rfl, P4, N4, rfl, hP4, hN4⟩
    have hP4 : IntsAt (fun b => w4.heap.size ≤ b) w5 P4 (canR t).ps := hP4
    have hN4 : StrsAt (fun b => w4.heap.size ≤ b) w5 N4 (canR t).ns := hN4
    obtain ⟨pp, pc, rfl, _, _⟩ := SlAt.open hP4
    obtain ⟨np, nc, rfl, _, _⟩ := SlAt.open hN4
    have hrb4 := (Below.block (HU4.out.trans hu5) (w.heap.size + 1) (by have := HS2.out; omega)).trans HRB2.out
    have hr0 : w5.cell? ⟨w.heap.size + 1, 0, none⟩ = some (.slice none 0 0) := by simp [World.cell?, hrb4]
    have hr1 : w5.cell? ⟨w.heap.size + 1, 1, none⟩ = some (.slice none 0 0) := by simp [World.cell?, hrb4]
    have hf0 : w5.frozen? ⟨w.heap.size + 1, 0, none⟩ = false := by simp [World.frozen?, hrb4]
    have hf1 : w5.frozen? ⟨w.heap.size + 1, 1, none⟩ = false := by simp [World.frozen?, hrb4]
    have HP4 := Lib.hid hP4
    have HN4 := Lib.hid hN4
    have HST := Lib.hid (store_two (w := w) (p := .slice pp (canR t).ps.length pc) (q := .slice np (canR t).ns.length nc) hrb4 (by omega) (HU2.out.trans (HU4.out.trans hu5)))
    clear hP4 hN4 hu5 hrb4 HNB HRB2 hc0 hc1
    go_wp2_with fail
    obtain ⟨s1, s2, s3, s4⟩ := HST.out
    have hs2 := HS2.out
    have hs4 := HS4.out
    refine ⟨rfl, .tuple #[.agg #[.slice pp (canR t).ps.length pc, .slice np (canR t).ns.length nc], .int .i64 0], by simp [results, Tryz.results43, go_sem, s2, s3], ?_⟩
    exact ⟨s1, .inr ⟨HE.out, _, rfl, _, _, rfl, (IntsAt.keep HP4.out fun b hb _ => s4 b (by omega)).sub fun b hb _ => by omega, (StrsAt.keep HN4.out fun b hb _ => s4 b (by omega)).sub fun b hb _ => by omega⟩⟩
  · have he1 : (treeErr t != 0) = true := by simpa using he
    have hr0 : w2.cell? ⟨w.heap.size + 1, 0, none⟩ = some (.slice none 0 0) := by simp [World.cell?, hrb2]
    have hr1 : w2.cell? ⟨w.heap.size + 1, 1, none⟩ = some (.slice none 0 0) := by simp [World.cell?, hrb2]
    have hf0 : w2.frozen? ⟨w.heap.size + 1, 0, none⟩ = false := by simp [World.frozen?, hrb2]
    have hf1 : w2.frozen? ⟨w.heap.size + 1, 1, none⟩ = false := by simp [World.frozen?, hrb2]
    have HST := Lib.hid (store_two (w := w) (p := .slice none 0 0) (q := .slice none 0 0) hrb2 (by omega) HU2.out)
    have HE := Lib.hid he
    clear he hrb2 hc0 hc1
    generalize treeErr t = te at he1 ⊢
    go_wp2_with fail
    obtain ⟨s1, s2, s3, s4⟩ := HST.out
    refine ⟨rfl, .tuple #[.agg #[.slice none 0 0, .slice none 0 0], .int .i64 1], by simp [results, Tryz.results43, go_sem, s2, s3], ?_⟩
    exact ⟨s1, .inl ⟨HE.out, rfl⟩⟩
end Go.Proofs.YtpjijbophjdgaaaGreat
namespace Go.Proofs.YtpjijbophjdgaaaGreat
open Go.RowKit Go.Deep
def Small (l : List Int) : Prop := ∀ k, k < l.length → 0 ≤ gi l k ∧ gi l k < 32
end Go.Proofs.YtpjijbophjdgaaaGreat
namespace Go.Proofs.YtpjijbophjdgaaaGreat
open Go.RowKit Go.Deep
end Go.Proofs.YtpjijbophjdgaaaGreat
namespace Go.Proofs.YtpjijbophjdgaaaGreat
open Go.RowKit Go.Deep
end Go.Proofs.YtpjijbophjdgaaaGreat
namespace Go.Proofs.YtpjijbophjdgaaaGreat
open Go.RowKit Go.Deep
theorem same_quiet {P : Program} {f : FuncId} {args : Array Value} {w : World} {n : Nat} {v : Value} (h : Calls P f args (w.drewN n) fun e w' => e = .returned v ∧ w.drewN n = w') : Calls P f args (w.drewN n) fun e w'' => e = .returned v ∧ ∃ m, w'' = w.drewN m :=
  h.mono fun _ _ ⟨h1, h2⟩ => ⟨h1, n, h2.symm⟩
section
variable {P : Program} {ops : Array Oper} {rest : List Oper} {o : Oper} {a : Act} {Q : Exit → Act → World → Prop}
end
end Go.Proofs.YtpjijbophjdgaaaGreat
namespace Go.Proofs.YtpjijbophjdgaaaGreat
open Go.RowKit Go.Shelf Go.Deep
section
attribute [local go_sem] Oper.semAt_some
end
end Go.Proofs.YtpjijbophjdgaaaGreat
namespace Go.Proofs.YtpjijbophjdgaaaGreat
open Go.RowKit Go.Shelf Go.Deep
end Go.Proofs.YtpjijbophjdgaaaGreat
namespace Go.Proofs.YtpjijbophjdgaaaGreat
open Go.RowKit Go.Shelf Go.Deep
end Go.Proofs.YtpjijbophjdgaaaGreat
namespace Go.Proofs.YtpjijbophjdgaaaGreat
open Go.RowKit Go.Deep
end Go.Proofs.YtpjijbophjdgaaaGreat
namespace Go.Proofs.YtpjijbophjdgaaaGreat
open Go.RowKit Go.Deep
end Go.Proofs.YtpjijbophjdgaaaGreat
namespace Go.Proofs.YtpjijbophjdgaaaGreat
open Go.RowKit Go.Deep
theorem nil_tree (W : World) : TreeAt Any W (.agg #[.slice none 0 0, .slice none 0 0]) ⟨[], []⟩ :=
  ⟨_, _, rfl, ⟨none, 0, rfl, Nat.le_refl _, .inl rfl⟩, ⟨none, 0, rfl, Nat.le_refl _, .inl rfl⟩⟩
theorem boxed {W : World} {B : Nat} {P N : Value} (hb : W.heap[B]? = some (Obj.cells #[P, N] 45 (0, 0))) : W.cell? ⟨B, 0, none⟩ = some P ∧ W.cell? ⟨B, 1, none⟩ = some N ∧ W.frozen? ⟨B, 0, none⟩ = false ∧ W.frozen? ⟨B, 1, none⟩ = false := by
  refine ⟨?_, ?_, ?_, ?_⟩ <;> simp [World.cell?, World.frozen?, hb]
section
variable {P : Program} {ops : Array Oper} {rest : List Oper} {o : Oper} {a : Act} {Q : Exit → Act → World → Prop}
end
end Go.Proofs.YtpjijbophjdgaaaGreat
namespace Go.Proofs.YtpjijbophjdgaaaGreat
open Go.RowKit Go.Deep
section
variable {P : Program} {ops : Array Oper} {rest : List Oper} {o : Oper} {a : Act} {Q : Exit → Act → World → Prop}
end
end Go.Proofs.YtpjijbophjdgaaaGreat
namespace Go.Proofs.YtpjijbophjdgaaaGreat
open Go.RowKit Go.Deep
end Go.Proofs.YtpjijbophjdgaaaGreat
namespace Go.Proofs.YtpjijbophjdgaaaGreat
open Go.RowKit Go.Deep
end Go.Proofs.YtpjijbophjdgaaaGreat
namespace Go.Proofs.YtpjijbophjdgaaaGreat
open Go.RowKit Go.Deep
theorem contains_int_t (S : Nat → Prop) (w : World) (v : Value) (xs : List Int) (x : Int) (h : IntsAt S w v xs) (hn : xs.length ≤ 1000000) :
    Calls Tryz.prog 84 #[v, .int .i64 x] w fun e w' => e = .returned (.bool ((List.range xs.length).any fun j => decide (x = gi xs j))) ∧ w = w' := by
  have hx := firstIx_any (fun j => decide (x = gi xs j)) xs.length
  have HX := Lib.hid hx
  have HI := Lib.hid (index_int_t S w v xs x h hn)
  clear hx h
  go_enter Tryz.func84, Tryz.ntmps84
  go_wp2_with fail
  refine HI.out.mono ?_
  rintro e w' ⟨rfl, rfl⟩
  go_wp2_with fail
  go_ret
  exact ⟨ret_bool (by rw [← HX.out]), rfl⟩
theorem any_memI (x : Int) (xs : List Int) : ((List.range xs.length).any fun j => decide (x = gi xs j)) = decide (x ∈ xs) := by
  rw [Bool.eq_iff_iff, List.any_eq_true, decide_eq_true_eq]
  constructor
  · rintro ⟨j, hj, h⟩
    rw [of_decide_eq_true h]; exact gi_mem (List.mem_range.1 hj)
  · intro h
    obtain ⟨j, hj, e⟩ := List.getElem_of_mem h
    exact ⟨j, List.mem_range.2 hj, by simp [gi, hj, e]⟩
end Go.Proofs.YtpjijbophjdgaaaGreat
namespace Go.Proofs.YtpjijbophjdgaaaGreat
open Go.RowKit Go.Deep
end Go.Proofs.YtpjijbophjdgaaaGreat
namespace Go.Proofs.YtpjijbophjdgaaaGreat
open Go.RowKit Go.Deep
end Go.Proofs.YtpjijbophjdgaaaGreat
namespace Go.Proofs.YtpjijbophjdgaaaGreat
end Go.Proofs.YtpjijbophjdgaaaGreat
namespace Go.Proofs.YtpjijbophjdgaaaGreat
def PartOk (s : RT) : Prop := (s.kids ≠ [] → s.nm.size = 0) ∧ (s.kids = [] → namedB s.nm.data.toList = true) ∧ s.kids.length ≠ 1
def fltN (l : List ByteArray) : List ByteArray := l.filter fun s => decide (s.size ≠ 0)
theorem fltN_app (a b : List ByteArray) : fltN (a ++ b) = fltN a ++ fltN b := List.filter_append _ _
theorem leafR_node {nm : ByteArray} {ks : List RT} (h : nm.size = 0) : leafR (.node nm ks) = ks.flatMap leafR := by
  have key : ∀ ks : List RT, fltN (nsRs ks) = ks.flatMap leafR := by
    intro ks
    induction ks with
    | nil => rfl
    | cons r rs ih => rw [nsRs, fltN_app, ih, List.flatMap_cons]; rfl
  show fltN (nsR _) = _
  rw [nsR, ← key]
  unfold fltN
  rw [List.filter_cons_of_neg (by simp [h])]
theorem leafR_leaf {nm : ByteArray} (h : nm.size ≠ 0) : leafR (.node nm []) = [nm] := by
  show List.filter _ (nsR _) = _
  rw [nsR, nsRs, List.filter_cons_of_pos (by simpa using h)]; rfl
end Go.Proofs.YtpjijbophjdgaaaGreat
namespace Go.Proofs.YtpjijbophjdgaaaGreat
open Go.RowKit Go.Deep
theorem less_cmp : ∀ a b : List UInt8, Op.bytesLess a b = decide (Lib.compareBytes a b < 0)
  | [], [] => rfl
  | [], _ :: _ => rfl
  | _ :: _, [] => rfl
  | a :: x, b :: y => by
    rw [Op.bytesLess, Lib.compareBytes, less_cmp x y]
    by_cases h : a < b
    · simp [h]
    · by_cases h2 : b < a
      · have : a ≠ b := by rintro rfl; exact h h2
        simp [h, h2, this]
      · have : a = b := by
          apply UInt8.toNat.inj
          rw [UInt8.lt_iff_toNat_lt] at h h2; omega
        subst this
        simp [h]
theorem lsB_cmp (a b : ByteArray) : lsB a b = decide (cmpS a b < 0) := by
  unfold lsB cmpS; rw [less_cmp, Lib.toList_data, Lib.toList_data]
theorem minS_cmp (a b : ByteArray) : minS a b = if cmpS a b ≤ 0 then a else b := by
  unfold minS
  rw [lsB_cmp]
  by_cases h : a.toList = b.toList
  · have e : a = b := ba_ext (by rw [← Lib.toList_data, ← Lib.toList_data, h])
    subst e
    simp [cmpS_self]
  · have e : cmpS a b ≠ 0 := fun q => h (by rw [cmpS_zero q])
    by_cases h1 : cmpS a b ≤ 0
    · rw [if_pos h1, if_pos]; simp; left; omega
    · rw [if_neg h1, if_neg]; simp [h]; omega
theorem cmpS_le_trans {a b c : ByteArray} (h : cmpS a b ≤ 0) (h' : cmpS b c ≤ 0) : cmpS a c ≤ 0 := by
  by_cases h1 : cmpS a b = 0
  · rw [cmpS_zero h1]; exact h'
  · by_cases h2 : cmpS b c = 0
    · rw [← cmpS_zero h2]; exact h
    · have := cmpS_trans (a := a) (b := b) (c := c) (by omega) (by omega); omega
theorem minS_assoc_l {s a b : ByteArray} (h : cmpS a b ≤ 0) : minS (minS s a) b = minS s a := by
  rw [minS_cmp s a]
  split
  · rename_i h1; rw [minS_cmp, if_pos (cmpS_le_trans h1 h)]
  · rw [minS_cmp, if_pos h]
theorem minS_assoc_r {s a b : ByteArray} (h : ¬ cmpS a b ≤ 0) : minS (minS s a) b = minS s b := by
  have hb := cmpS_anti a b
  rw [minS_cmp s a]
  split
  · rfl
  · rename_i h1
    rw [minS_cmp a b, if_neg h, minS_cmp s b, if_neg]
    intro q
    exact h1 (cmpS_le_trans q (by omega))
def hdMin (s : ByteArray) : List RT → ByteArray
  | [] => s
  | b :: _ => minS s (firstR b)
theorem hdMin_ins (s : ByteArray) (a : RT) : ∀ l, hdMin s (insR a l) = hdMin (minS s (firstR a)) l
  | [] => rfl
  | b :: l => by
    rw [insR]
    split
    · rename_i h; show minS s _ = minS (minS s _) _; rw [minS_assoc_l h]
    · rename_i h; show minS s _ = minS (minS s _) _; rw [minS_assoc_r h]
mutual
theorem lstR_first : ∀ r : RT, lstR r = firstR (sortR r)
  | .node nm [] => by rw [lstR, sortR, sortRs, firstR]
  | .node nm (k :: ks) => by
    rw [lstR, lstRs_first ks, lstR_first k, sortR, sortRs]
    cases h : sortRs ks with
    | nil => rfl
    | cons b l =>
      rw [insR]
      show minS _ _ = _
      rw [minS_cmp]
      split
      · rw [firstR]
      · rw [firstR]
theorem lstRs_first : ∀ (rs : List RT) (s : ByteArray), lstRs s rs = hdMin s (sortRs rs)
  | [], s => by rw [lstRs, sortRs]; rfl
  | r :: rs, s => by rw [lstRs, lstRs_first rs, lstR_first r, sortRs, hdMin_ins]
end
theorem insO_ins {s : ByteArray} {o : RT} (hs : s = firstR o) : ∀ {l : List RT}, (∀ b ∈ l, lstR b = firstR b) → insO s o l = insR o l
  | [], _ => rfl
  | b :: l, h => by
    have hb := h b (by simp)
    have ha := cmpS_anti (firstR b) (firstR o)
    have ih := insO_ins hs (l := l) fun q hq => h q (by simp [hq])
    unfold insO at ih ⊢
    rw [posK, insR, hb, lsB_cmp, hs]
    by_cases e : cmpS (firstR o) (firstR b) ≤ 0
    · rw [if_pos e, if_neg (by simp; omega)]; rfl
    · rw [if_neg e, if_pos (by simp; omega), List.take_succ_cons, List.drop_succ_cons, List.cons_append, ← hs, ih]
theorem insR_comm {a b : RT} (h : firstR a ≠ firstR b) : ∀ l, insR a (insR b l) = insR b (insR a l)
  | [] => by
    have h1 := cmpS_anti (firstR a) (firstR b)
    have h2 : cmpS (firstR a) (firstR b) ≠ 0 := fun q => h (cmpS_zero q)
    simp only [insR]
    by_cases e : cmpS (firstR a) (firstR b) ≤ 0
    · rw [if_pos e, if_neg (by omega)]
    · rw [if_neg e, if_pos (by omega)]
  | c :: l => by
    have h1 := cmpS_anti (firstR a) (firstR b)
    have h2 : cmpS (firstR a) (firstR b) ≠ 0 := fun q => h (cmpS_zero q)
    by_cases ea : cmpS (firstR a) (firstR c) ≤ 0
    · by_cases eb : cmpS (firstR b) (firstR c) ≤ 0
      · by_cases e : cmpS (firstR a) (firstR b) ≤ 0
        · have e' : ¬ cmpS (firstR b) (firstR a) ≤ 0 := by omega
          simp only [insR, ea, eb, e, e', if_true, if_false]
        · have e' : cmpS (firstR b) (firstR a) ≤ 0 := by omega
          simp only [insR, ea, eb, e, e', if_true, if_false]
      · have e' : ¬ cmpS (firstR b) (firstR a) ≤ 0 := fun q => eb (cmpS_le_trans q ea)
        simp only [insR, ea, eb, e', if_true, if_false]
    · by_cases eb : cmpS (firstR b) (firstR c) ≤ 0
      · have e' : ¬ cmpS (firstR a) (firstR b) ≤ 0 := fun q => ea (cmpS_le_trans q eb)
        simp only [insR, ea, eb, e', if_true, if_false]
      · simp only [insR, ea, eb, if_false]
        rw [insR_comm h l]
theorem mem_insR {a x : RT} : ∀ {l : List RT}, x ∈ insR a l ↔ x = a ∨ x ∈ l
  | [] => by simp [insR]
  | b :: l => by
    rw [insR]
    split
    · simp
    · rw [List.mem_cons, mem_insR (l := l), List.mem_cons]
      constructor
      · rintro (h | h | h) <;> simp [h]
      · rintro (h | h | h) <;> simp [h]
def Dst (r : RT) : Prop := ∀ s ∈ subR r, (s.kids.map fun k => firstR (sortR k)).Nodup
def foldI (acc : List RT) : List RT → List RT
  | [] => acc
  | c :: cs => insR (sortR c) (foldI acc cs)
theorem foldI_ins {a : RT} : ∀ (cs acc : List RT), (∀ c ∈ cs, firstR a ≠ firstR (sortR c)) → foldI (insR a acc) cs = insR a (foldI acc cs)
  | [], _, _ => rfl
  | c :: cs, acc, h => by
    rw [foldI, foldI, foldI_ins cs acc (fun q hq => h q (by simp [hq])), insR_comm (h c (by simp))]
theorem foldI_nil : ∀ cs : List RT, foldI [] cs = sortRs cs
  | [] => by rw [foldI, sortRs]
  | c :: cs => by rw [foldI, sortRs, foldI_nil cs]
mutual
theorem ord_sort : ∀ r : RT, Dst r → ordR r = sortR r
  | .node nm ks, h => by
    have h0 := h (.node nm ks) (by rw [subR]; simp)
    rw [ordR, sortR, ords_sort ks [] (fun s hs => h s (by rw [subR]; simp [hs])) h0 (by simp), foldI_nil]
theorem ords_sort : ∀ (cs acc : List RT), (∀ s ∈ subRs cs, (s.kids.map fun k => firstR (sortR k)).Nodup) → (cs.map fun k => firstR (sortR k)).Nodup → (∀ b ∈ acc, lstR b = firstR b) → ordRs acc cs = foldI acc cs
  | [], acc, _, _, _ => by rw [ordRs, foldI]
  | c :: cs, acc, h, hn, ha => by
    have hc := ord_sort c (fun s hs => h s (by rw [subRs]; simp [hs]))
    have hl : lstR (sortR c) = firstR (sortR c) := by rw [lstR_first, sortR_idem]
    rw [List.map_cons, List.nodup_cons] at hn
    rw [ordRs, hc, insO_ins (lstR_first c) ha, ords_sort cs _ (fun s hs => h s (by rw [subRs]; simp [hs])) hn.2 (fun b hb => by
      rcases mem_insR.1 hb with rfl | hb
      · exact hl
      · exact ha b hb), foldI, foldI_ins cs acc]
    intro q hq e
    exact hn.1 (List.mem_map.2 ⟨q, hq, e.symm⟩)
end
mutual
theorem nsR_subl : ∀ (r s : RT), s ∈ subR r → (nsR s).Sublist (nsR r)
  | .node nm ks, s, h => by
    rw [subR, List.mem_cons] at h
    rcases h with rfl | h
    · exact List.Sublist.refl _
    · rw [nsR]; exact (nsRs_subl ks s h).trans (List.sublist_cons_self _ _)
theorem nsRs_subl : ∀ (rs : List RT) (s : RT), s ∈ subRs rs → (nsR s).Sublist (nsRs rs)
  | [], s, h => by simp [subRs] at h
  | r :: rs, s, h => by
    rw [subRs, List.mem_append] at h
    rw [nsRs]
    rcases h with h | h
    · exact (nsR_subl r s h).trans (List.sublist_append_left _ _)
    · exact (nsRs_subl rs s h).trans (List.sublist_append_right _ _)
end
theorem leafR_sub {r s : RT} (h : s ∈ subR r) : (leafR s).Sublist (leafR r) := (nsR_subl r s h).filter _
theorem subR_self (r : RT) : r ∈ subR r := by cases r; rw [subR]; simp
theorem first_leaf : ∀ r : RT, (∀ s ∈ subR r, s.kids = [] → namedB s.nm.data.toList = true) → firstR r ∈ leafR r
  | .node nm [], h => by
    have h1 : namedB nm.data.toList = true := h (.node nm []) (subR_self _) rfl
    rw [leafR_leaf (named_size h1), firstR]; simp
  | .node nm (k :: ks), h => by
    have hk : ∀ s ∈ subR k, s ∈ subR (.node nm (k :: ks)) := fun s hs => by rw [subR, subRs]; simp [hs]
    rw [firstR]
    exact (leafR_sub (hk k (subR_self k))).subset (first_leaf k fun s hs => h s (hk s hs))
theorem mem_subRs {k : RT} : ∀ {ks : List RT}, k ∈ ks → ∀ s ∈ subR k, s ∈ subRs ks
  | b :: ks, h, s, hs => by
    rw [subRs, List.mem_append]
    rcases List.mem_cons.1 h with rfl | h
    · exact .inl hs
    · exact .inr (mem_subRs h s hs)
mutual
theorem subR_trans : ∀ (r : RT) {s u : RT}, s ∈ subR r → u ∈ subR s → u ∈ subR r
  | .node nm ks, s, u, h, hu => by
    rw [subR, List.mem_cons] at h
    rcases h with rfl | h
    · exact hu
    · rw [subR]; exact List.mem_cons_of_mem _ (subRs_trans ks h hu)
theorem subRs_trans : ∀ (rs : List RT) {s u : RT}, s ∈ subRs rs → u ∈ subR s → u ∈ subRs rs
  | [], s, u, h, _ => by simp [subRs] at h
  | r :: rs, s, u, h, hu => by
    rw [subRs, List.mem_append] at h ⊢
    rcases h with h | h
    · exact .inl (subR_trans r h hu)
    · exact .inr (subRs_trans rs h hu)
end
theorem good_dst {r : RT} (h : GoodR r) : Dst r := by
  intro s hs
  have hnd : (leafR s).Nodup := (leafR_sub hs).nodup h.nd
  obtain ⟨nm, ks⟩ := s
  show (ks.map _).Nodup
  by_cases hk : ks = []
  · subst hk; simp
  · rw [leafR_node (nm := nm) (ks := ks) (h.inn (.node nm ks) hs hk)] at hnd
    have hmem : ∀ k ∈ ks, firstR (sortR k) ∈ leafR k := fun k hk => (leafR_sort k).mem_iff.1 (first_leaf _ fun q hq hqk => by
      obtain ⟨x, hx, rfl⟩ := List.mem_map.1 ((subR_sort k).mem_iff.1 hq)
      rw [sortR_kids] at hqk
      rw [sortR_nm]
      exact h.lf x (subR_trans r hs (by rw [subR]; exact List.mem_cons_of_mem _ (mem_subRs hk x hx))) (sortRs_nil.1 hqk))
    clear hs hk
    induction ks with
    | nil => simp
    | cons k ks ih =>
      rw [List.flatMap_cons, List.nodup_append] at hnd
      rw [List.map_cons, List.nodup_cons]
      refine ⟨fun hm => ?_, ih hnd.2.1 fun q hq => hmem q (by simp [hq])⟩
      obtain ⟨q, hq, e⟩ := List.mem_map.1 hm
      exact hnd.2.2 _ (hmem k (by simp)) _ (List.mem_flatMap.2 ⟨q, hq, hmem q (by simp [hq])⟩) e.symm
theorem canR_canT {t : Tre} (h : treeErr t = 0) : canR t = canT t := by
  unfold canR
  rw [ord_sort _ (good_dst (good_toR h)), canT_flat h]
end Go.Proofs.YtpjijbophjdgaaaGreat
