/- The contracts of phylotree.canonical, Canonical. -/
import Derived.Test.YtpjijbophjdgaaaGreatQ26
import Derived.Test.YtpjijbophjdgaaaGreatQ27
namespace Go.Proofs.YtpjijbophjdgaaaGreat
open Go.RowKit Go.Deep
def canF (t : Tre) : Frs := (frT t).srt (rkT t) fun j => false || subF (frT t) (rkT t) 0 j
def canT (t : Tre) : Tre := treeF (canF t) (rkT t) 0
theorem frT_kids_len (t : Tre) (i : Nat) : ((frT t).kids i).length ≤ t.ps.length := by rw [frT_kids]; exact kidsK_len _ _ _
theorem canF_arb {t : Tre} (h : treeErr t = 0) : Arb (canF t) t.ps.length (rkT t) := (frT_arb h).srt _
theorem canF_kids_len (t : Tre) (i : Nat) : ((canF t).kids i).length ≤ t.ps.length := by
  have h := ((frT t).srt_perm (rkT t) (fun j => false || subF (frT t) (rkT t) 0 j) i).length_eq
  have h2 := frT_kids_len t i
  unfold canF; omega
theorem box_at {w : World} {P N : Value} {T : TypeId} : (w.alloc (.cells #[P, N] T)).heap[w.heap.size]? = some (.cells #[P, N] T (0, 0)) := World.alloc_heap_new _ _
set_option maxRecDepth 100000 in
set_option maxHeartbeats 2000000 in
theorem canonical_t (S : Nat → Prop) (w : World) (v : Value) (t : Tre) (hT : TreeAt S w v t) (he : treeErr t = 0) (hz : ∀ k, (gs t.ns k).size ≤ 70000) : Calls Tryz.prog 92 #[v] w (TrPost w (canT t)) := by
  obtain ⟨hp0, hp64, hnl, hok, _⟩ := treeErr_zero he
  obtain ⟨P, N, rfl, hP, hN⟩ := hT
  have hu := (Up.alloc w (.cells #[P, N] 45)).trans (Up.alloc _ (.cells #[.slice none 0 0, .slice none 0 0] 45))
  have hT1 : TreeAt S ((w.alloc (.cells #[P, N] 45)).alloc (.cells #[.slice none 0 0, .slice none 0 0] 45)) (.agg #[P, N]) t := TreeAt.keep ⟨P, N, rfl, hP, hN⟩ (hu.kept _)
  have HN := Lib.hid (nodes_t S _ _ t hT1 (by omega) hnl hok hz)
  have HU := Lib.hid hu
  have hc0 := (Up.alloc _ (.cells #[.slice none 0 0, .slice none 0 0] 45)).cell (box2_0 w P N 45)
  have hc1 := (Up.alloc _ (.cells #[.slice none 0 0, .slice none 0 0] 45)).cell (box2_1 w P N 45)
  have hrb := box_at (w := w.alloc (.cells #[P, N] 45)) (P := .slice none 0 0) (N := .slice none 0 0) (T := 45)
  have hsz : ((w.alloc (.cells #[P, N] 45)).alloc (.cells #[.slice none 0 0, .slice none 0 0] 45)).heap.size = w.heap.size + 2 := by simp
  rw [World.size_alloc] at hrb
  have HRB := Lib.hid hrb
  have HSZ := Lib.hid hsz
  have HAR := Lib.hid (frT_arb he)
  have HCA := Lib.hid (canF_arb he)
  clear hu hT1 hP hN hrb hsz hnl hok
  go_enter Tryz.func92, Tryz.ntmps92
  go_wp2_with fail
  generalize (w.alloc (.cells #[P, N] 45)).alloc (.cells #[.slice none 0 0, .slice none 0 0] 45) = w1 at *
  refine HN.out.mono ?_
  rintro e w2 ⟨hu2, g, A, kv, rfl, hF, hrow⟩
  have hi0 := hrow.cell (i := 0) hp0
  have HF2 := Lib.hid hF
  have HU2 := Lib.hid hu2
  have HRB2 := Lib.hid ((Below.block hu2 (w.heap.size + 1) (by rw [HSZ.out]; omega)).trans HRB.out)
  have hs2 := hu2.size
  simp only [nptr] at hi0
  have hpos : (0 : Int) < (t.ps.length : Int) := by omega
  clear hu2 hF hrow hc0 hc1 HN
  go_wp2_with fail
  have hF0 : FAt w1.heap.size t.ps.length A kv ((frT t).srt (rkT t) fun _ => false) w2 := HF2.out.congr fun j _ => ⟨rfl, rfl, rfl⟩
  have HSO := Lib.hid (sorted_t (HAR.out.sortable (fun i _ => by have := frT_kids_len t i; omega) (fun i _ => rkT_le t i)) (rkT t 0) 0 (fun _ => false) w2 hp0 (Nat.le_refl _) hF0)
  clear hi0
  refine HSO.out.mono ?_
  rintro e w3 ⟨rfl, hF3, hfu⟩
  have hb3 : Below w1.heap.size w2 w3 := hfu.below hF0 hs2
  have HRB3 := Lib.hid ((hb3.block (w.heap.size + 1) (by rw [HSZ.out]; omega)).trans HRB2.out)
  have HU3 : Hid (Up w1 w3) := Below.trans HU2.out hb3
  have HTR := Lib.hid (tree_t (F := canF t) (rk := rkT t) HCA.out.wf (fun i _ => by have := canF_kids_len t i; omega) w3 0 hp0 hF3 (by have := seq_len HCA.out (fun i _ => rkT_le t i) hp0 none; omega))
  clear hF3 hfu hb3 HSO HF2 hF0 HRB2 HU2
  go_wp2_with fail
  refine HTR.out.mono ?_
  rintro e w4 ⟨hu4, _, rfl, P4, N4, rfl, hP4, hN4⟩
  obtain ⟨pp, pc, rfl, _, _⟩ := SlAt.open hP4
  obtain ⟨np, nc, rfl, _, _⟩ := SlAt.open hN4
  have hrb4 := (Below.block hu4 (w.heap.size + 1) (by have := HU3.out.size; rw [HSZ.out] at this; omega)).trans HRB3.out
  have hr0 : w4.cell? ⟨w.heap.size + 1, 0, none⟩ = some (.slice none 0 0) := by simp [World.cell?, hrb4]
  have hr1 : w4.cell? ⟨w.heap.size + 1, 1, none⟩ = some (.slice none 0 0) := by simp [World.cell?, hrb4]
  have hf0 : w4.frozen? ⟨w.heap.size + 1, 0, none⟩ = false := by simp [World.frozen?, hrb4]
  have hf1 : w4.frozen? ⟨w.heap.size + 1, 1, none⟩ = false := by simp [World.frozen?, hrb4]
  have HP4 := Lib.hid hP4
  have HN4 := Lib.hid hN4
  have HU4 := Lib.hid hu4
  have HRB4 := Lib.hid hrb4
  clear hP4 hN4 hu4 hrb4 HTR HRB3
  go_wp2_with fail
  have hset : ∀ b, b ≠ w.heap.size + 1 → ((w4.setCell ⟨w.heap.size + 1, 0, none⟩ (.slice pp (treeF (canF t) (rkT t) 0).ps.length pc)).setCell ⟨w.heap.size + 1, 1, none⟩ (.slice np (treeF (canF t) (rkT t) 0).ns.length nc)).heap[b]? = w4.heap[b]? := fun b hb => by rw [blk_setCell_other _ _ _ _ hb, blk_setCell_other _ _ _ _ hb]
  have hheap : ((w4.setCell ⟨w.heap.size + 1, 0, none⟩ (.slice pp (treeF (canF t) (rkT t) 0).ps.length pc)).setCell ⟨w.heap.size + 1, 1, none⟩ (.slice np (treeF (canF t) (rkT t) 0).ns.length nc)).heap[w.heap.size + 1]? = some (Obj.cells #[.slice pp (treeF (canF t) (rkT t) 0).ps.length pc, .slice np (treeF (canF t) (rkT t) 0).ns.length nc] 45 (0, 0)) := by
    simp [World.setCell, Array.getElem?_modify, HRB4.out]
  have hu4 := HU.out.trans (HU3.out.trans HU4.out)
  have hu5 : Up w ((w4.setCell ⟨w.heap.size + 1, 0, none⟩ (.slice pp (treeF (canF t) (rkT t) 0).ps.length pc)).setCell ⟨w.heap.size + 1, 1, none⟩ (.slice np (treeF (canF t) (rkT t) 0).ns.length nc)) :=
    ⟨hu4.os, hu4.tape, hu4.output, by simp [World.size_setCell]; exact hu4.size, fun b hb => (hset b (by omega)).trans (hu4.block b hb)⟩
  have hs3 : w.heap.size + 2 ≤ w3.heap.size := by have := HU3.out.size; rw [HSZ.out] at this; exact this
  generalize (w4.setCell ⟨w.heap.size + 1, 0, none⟩ (.slice pp (treeF (canF t) (rkT t) 0).ps.length pc)).setCell ⟨w.heap.size + 1, 1, none⟩ (.slice np (treeF (canF t) (rkT t) 0).ns.length nc) = w5 at *
  have hr0 : w5.cell? ⟨w.heap.size + 1, 0, none⟩ = some (.slice pp (treeF (canF t) (rkT t) 0).ps.length pc) := by simp [World.cell?, hheap]
  have hr1 : w5.cell? ⟨w.heap.size + 1, 1, none⟩ = some (.slice np (treeF (canF t) (rkT t) 0).ns.length nc) := by simp [World.cell?, hheap]
  refine ⟨rfl, .agg #[.slice pp (treeF (canF t) (rkT t) 0).ps.length pc, .slice np (treeF (canF t) (rkT t) 0).ns.length nc], by simp [results, Tryz.results92, go_sem, hr0, hr1], ?_⟩
  exact ⟨hu5, _, rfl, _, _, rfl, (IntsAt.keep HP4.out fun b hb _ => hset b (by omega)).sub fun b hb _ => by omega, (StrsAt.keep HN4.out fun b hb _ => hset b (by omega)).sub fun b hb _ => by omega⟩
def CnPost (w : World) (t : Tre) (e : Ending) (w' : World) : Prop :=
  Up w w' ∧ ((treeErr t ≠ 0 ∧ e = .returned (.tuple #[.agg #[.slice none 0 0, .slice none 0 0], .int .i64 1])) ∨ (treeErr t = 0 ∧ ∃ v, e = .returned (.tuple #[v, .int .i64 0]) ∧ TreeAt (fun b => w.heap.size ≤ b) w' v (canT t)))
theorem store_two {w w4 : World} {B : Nat} {x y p q : Value} {T : TypeId} (hb : w4.heap[B]? = some (Obj.cells #[x, y] T (0, 0))) (hB : w.heap.size ≤ B) (hu : Up w w4) :
    Up w ((w4.setCell ⟨B, 0, none⟩ p).setCell ⟨B, 1, none⟩ q) ∧ ((w4.setCell ⟨B, 0, none⟩ p).setCell ⟨B, 1, none⟩ q).cell? ⟨B, 0, none⟩ = some p ∧ ((w4.setCell ⟨B, 0, none⟩ p).setCell ⟨B, 1, none⟩ q).cell? ⟨B, 1, none⟩ = some q ∧
      ∀ b, b ≠ B → ((w4.setCell ⟨B, 0, none⟩ p).setCell ⟨B, 1, none⟩ q).heap[b]? = w4.heap[b]? := by
  have hset : ∀ b, b ≠ B → ((w4.setCell ⟨B, 0, none⟩ p).setCell ⟨B, 1, none⟩ q).heap[b]? = w4.heap[b]? := fun b hb => by rw [blk_setCell_other _ _ _ _ hb, blk_setCell_other _ _ _ _ hb]
  have hheap : ((w4.setCell ⟨B, 0, none⟩ p).setCell ⟨B, 1, none⟩ q).heap[B]? = some (Obj.cells #[p, q] T (0, 0)) := by
    simp [World.setCell, Array.getElem?_modify, hb]
  exact ⟨⟨hu.os, hu.tape, hu.output, by simp [World.size_setCell]; exact hu.size, fun b hb => (hset b (by omega)).trans (hu.block b hb)⟩, by simp [World.cell?, hheap], by simp [World.cell?, hheap], hset⟩
set_option maxRecDepth 100000 in
set_option maxHeartbeats 2000000 in
theorem pcanonical_t (S : Nat → Prop) (w : World) (v : Value) (t : Tre) (hT : TreeAt S w v t) (hp : t.ps.length ≤ 1000000) (hn : t.ns.length ≤ 1000000) (hz : ∀ k, (gs t.ns k).size ≤ 70000) : Calls Tryz.prog 42 #[v] w (CnPost w t) := by
  obtain ⟨P, N, rfl, hP, hN⟩ := hT
  have hu := (Up.alloc w (.cells #[P, N] 45)).trans (Up.alloc _ (.cells #[.slice none 0 0, .slice none 0 0] 45))
  have hT1 : TreeAt S ((w.alloc (.cells #[P, N] 45)).alloc (.cells #[.slice none 0 0, .slice none 0 0] 45)) (.agg #[P, N]) t := TreeAt.keep ⟨P, N, rfl, hP, hN⟩ (hu.kept _)
  have HCK := Lib.hid (check_t S _ _ t hT1 hp hn hz)
  have HT := Lib.hid hT1
  have HU := Lib.hid hu
  have HC0 := Lib.hid ((Up.alloc _ (.cells #[.slice none 0 0, .slice none 0 0] 45)).cell (box2_0 w P N 45))
  have HC1 := Lib.hid ((Up.alloc _ (.cells #[.slice none 0 0, .slice none 0 0] 45)).cell (box2_1 w P N 45))
  have hc0 := HC0.out
  have hc1 := HC1.out
  have hrb := box_at (w := w.alloc (.cells #[P, N] 45)) (P := .slice none 0 0) (N := .slice none 0 0) (T := 45)
  have hsz : ((w.alloc (.cells #[P, N] 45)).alloc (.cells #[.slice none 0 0, .slice none 0 0] 45)).heap.size = w.heap.size + 2 := by simp
  rw [World.size_alloc] at hrb
  have HRB := Lib.hid hrb
  have HSZ := Lib.hid hsz
  clear hu hT1 hP hN hrb hsz
  go_enter Tryz.func42, Tryz.ntmps42
  go_wp2_with fail
  generalize (w.alloc (.cells #[P, N] 45)).alloc (.cells #[.slice none 0 0, .slice none 0 0] 45) = w1 at *
  refine HCK.out.mono ?_
  rintro e w2 ⟨rfl, hb2⟩
  have hu2 : Up w1 w2 := hb2
  have hc0 := hu2.cell HC0.out
  have hc1 := hu2.cell HC1.out
  have HT2 := Lib.hid (HT.out.keep (hu2.kept S))
  have hrb2 := (Below.block hu2 (w.heap.size + 1) (by rw [HSZ.out]; omega)).trans HRB.out
  have HU2 := Lib.hid (HU.out.trans hu2)
  have HS2 : Hid (w.heap.size + 2 ≤ w2.heap.size) := by unfold Hid; have := hu2.size; rw [HSZ.out] at this; exact this
  clear hb2 hu2 HCK HT HU HC0 HC1 HRB
  by_cases he : treeErr t = 0
  · have HE := Lib.hid he
    rw [he]
    have HRB2 := Lib.hid hrb2
    have HCN := Lib.hid (canonical_t S w2 _ t HT2.out he hz)
    clear hrb2 he
    go_wp2_with fail
    refine HCN.out.mono ?_
    rintro e w4 ⟨hu4, _, rfl, P4, N4, rfl, hP4, hN4⟩
    obtain ⟨pp, pc, rfl, _, _⟩ := SlAt.open hP4
    obtain ⟨np, nc, rfl, _, _⟩ := SlAt.open hN4
    have hrb4 := (Below.block hu4 (w.heap.size + 1) (by have := HS2.out; omega)).trans HRB2.out
    have hr0 : w4.cell? ⟨w.heap.size + 1, 0, none⟩ = some (.slice none 0 0) := by simp [World.cell?, hrb4]
    have hr1 : w4.cell? ⟨w.heap.size + 1, 1, none⟩ = some (.slice none 0 0) := by simp [World.cell?, hrb4]
    have hf0 : w4.frozen? ⟨w.heap.size + 1, 0, none⟩ = false := by simp [World.frozen?, hrb4]
    have hf1 : w4.frozen? ⟨w.heap.size + 1, 1, none⟩ = false := by simp [World.frozen?, hrb4]
    have HP4 := Lib.hid hP4
    have HN4 := Lib.hid hN4
    have HST := Lib.hid (store_two (w := w) (p := .slice pp (canT t).ps.length pc) (q := .slice np (canT t).ns.length nc) hrb4 (by omega) (HU2.out.trans hu4))
    clear hP4 hN4 hu4 hrb4 HCN HRB2 hc0 hc1
    go_wp2_with fail
    obtain ⟨s1, s2, s3, s4⟩ := HST.out
    have hs2 := HS2.out
    refine ⟨rfl, .tuple #[.agg #[.slice pp (canT t).ps.length pc, .slice np (canT t).ns.length nc], .int .i64 0], by simp [results, Tryz.results42, go_sem, s2, s3], ?_⟩
    exact ⟨s1, .inr ⟨HE.out, _, rfl, _, _, rfl, (IntsAt.keep HP4.out fun b hb _ => s4 b (by omega)).sub fun b hb _ => by omega, (StrsAt.keep HN4.out fun b hb _ => s4 b (by omega)).sub fun b hb _ => by omega⟩⟩
  · have he1 : (treeErr t != 0) = true := by simpa using he
    have hr0 : w2.cell? ⟨w.heap.size + 1, 0, none⟩ = some (.slice none 0 0) := by simp [World.cell?, hrb2]
    have hr1 : w2.cell? ⟨w.heap.size + 1, 1, none⟩ = some (.slice none 0 0) := by simp [World.cell?, hrb2]
    have hf0 : w2.frozen? ⟨w.heap.size + 1, 0, none⟩ = false := by simp [World.frozen?, hrb2]
    have hf1 : w2.frozen? ⟨w.heap.size + 1, 1, none⟩ = false := by simp [World.frozen?, hrb2]
    have HST := Lib.hid (store_two (w := w) (p := .slice none 0 0) (q := .slice none 0 0) hrb2 (by omega) HU2.out)
    have HE := Lib.hid he
    clear he hrb2 hc0 hc1
    generalize treeErr t = te at he1 ⊢
    go_wp2_with fail
    obtain ⟨s1, s2, s3, s4⟩ := HST.out
    refine ⟨rfl, .tuple #[.agg #[.slice none 0 0, .slice none 0 0], .int .i64 1], by simp [results, Tryz.results42, go_sem, s2, s3], ?_⟩
    exact ⟨s1, .inl ⟨HE.out, rfl⟩⟩
end Go.Proofs.YtpjijbophjdgaaaGreat
