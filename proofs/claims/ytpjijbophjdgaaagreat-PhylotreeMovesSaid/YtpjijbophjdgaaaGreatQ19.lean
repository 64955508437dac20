/- The contract of layer 31's reference's number. The contract of layer 31's reference's children. -/
import Derived.Test.YtpjijbophjdgaaaGreatQ18
import Derived.Test.YtpjijbophjdgaaaGreatQ3
import Derived.Test.YtpjijbophjdgaaaGreatQ1
namespace Go.Proofs.YtpjijbophjdgaaaGreat
open Go.RowKit Go.Deep
def NbPost (w : World) (r : RT) (e : Ending) (w' : World) : Prop := Up w w' ∧ ∃ v, e = .returned v ∧ TreeAt (fun b => w.heap.size ≤ b) w' v (flat r)
theorem nil_app (r : RT) (p : Int) : (⟨[], []⟩ : Tre).app r p = ⟨psR r 0 p, nsR r⟩ := by simp [Tre.app]
set_option maxRecDepth 100000 in
set_option maxHeartbeats 1000000 in
theorem number_t (S : Nat → Prop) (w : World) (v : Value) (r : RT) (h : RAt S w r v) (hs : sizeR r ≤ 90000) : Calls Tryz.prog 110 #[v] w (NbPost w r) := by
  have hal := Up.alloc w (.cells #[.slice none 0 0, .slice none 0 0] 45)
  have hsz : (w.alloc (.cells #[.slice none 0 0, .slice none 0 0] 45)).heap.size = w.heap.size + 1 := World.size_alloc _ _
  have hrb := box_at (w := w) (P := .slice none 0 0) (N := .slice none 0 0) (T := 45)
  have hx : RAt (fun b => (Value.slice none 0 0).ownBlock ≠ some b ∧ (Value.slice none 0 0).ownBlock ≠ some b) (w.alloc (.cells #[.slice none 0 0, .slice none 0 0] 45)) r v := RAt.sub (fun b _ _ => ⟨fun e => (by cases e), fun e => (by cases e)⟩) r (RAt.keep (hal.kept S) r h)
  have HW := Lib.hid (with_t (w.heap.size + 1) (sizeR r) r (Nat.le_refl _) (w.alloc (.cells #[.slice none 0 0, .slice none 0 0] 45)) (.slice none 0 0) (.slice none 0 0) v ⟨[], []⟩ (-1) ⟨Owns.nil _ _ _, Owns.nil _ _ _, fun b hb => by cases hb⟩ (by omega) rfl (by simp; omega) hx)
  have HU := Lib.hid hal
  have HRB := Lib.hid hrb
  have HSZ := Lib.hid hsz
  clear hal hrb hsz h hx
  go_enter Tryz.func110, Tryz.ntmps110
  go_wp2_with fail
  generalize w.alloc (.cells #[.slice none 0 0, .slice none 0 0] 45) = w1 at *
  refine HW.out.mono ?_
  rintro e w2 ⟨P2, N2, rfl, hT, hK⟩
  rw [nil_app] at hT
  obtain ⟨p2, c2, rfl, _, _⟩ := SlAt.open hT.pown.ints
  obtain ⟨q2, e2, rfl, _, _⟩ := SlAt.open hT.nown.strs
  have hu : Up w1 w2 := ⟨hK.os, hK.tape, hK.output, hK.size, fun b hb => hK.block b hb (by omega) (fun e => by cases e) (fun e => by cases e)⟩
  have hb2 := (Below.block hu w.heap.size (by rw [HSZ.out]; omega)).trans HRB.out
  obtain ⟨r0, r1, r2, r3⟩ : w2.cell? ⟨w.heap.size, 0, none⟩ = some (.slice none 0 0) ∧ w2.cell? ⟨w.heap.size, 1, none⟩ = some (.slice none 0 0) ∧ w2.frozen? ⟨w.heap.size, 0, none⟩ = false ∧ w2.frozen? ⟨w.heap.size, 1, none⟩ = false := by
    refine ⟨?_, ?_, ?_, ?_⟩ <;> simp [World.cell?, World.frozen?, hb2]
  have HST := Lib.hid (store_two (w := w) (p := .slice p2 (psR r 0 (-1)).length c2) (q := .slice q2 (nsR r).length e2) hb2 (Nat.le_refl _) (HU.out.trans hu))
  have HP := Lib.hid hT.pown.ints
  have HN := Lib.hid hT.nown.strs
  clear hT hK hu hb2
  go_wp2_with fail
  obtain ⟨s1, s2, s3, s4⟩ := HST.out
  refine ⟨rfl, .agg #[.slice p2 (psR r 0 (-1)).length c2, .slice q2 (nsR r).length e2], by simp [results, Tryz.results110, go_sem, s2, s3], ?_⟩
  exact ⟨s1, _, rfl, _, _, rfl, (IntsAt.keep HP.out fun b hb _ => s4 b (by have : w.heap.size + 1 ≤ b := hb; omega)).sub fun b hb _ => by have : w.heap.size + 1 ≤ b := hb; omega, (StrsAt.keep HN.out fun b hb _ => s4 b (by have : w.heap.size + 1 ≤ b := hb; omega)).sub fun b hb _ => by have : w.heap.size + 1 ≤ b := hb; omega⟩
end Go.Proofs.YtpjijbophjdgaaaGreat
namespace Go.Proofs.YtpjijbophjdgaaaGreat
open Go.RowKit Go.Deep
def KdPost (w : World) (l : List Nat) (e : Ending) (w' : World) : Prop := Below w.heap.size w w' ∧ ∃ v, e = .returned v ∧ IntsAt (fun b => w.heap.size ≤ b) w' v (ofNats l)
set_option maxRecDepth 100000 in
set_option maxHeartbeats 800000 in
theorem kidsR_t (S : Nat → Prop) (w : World) (v : Value) (t : Tre) (n : Nat) (h : TreeAt S w v t) (hp : t.ps.length ≤ 1000000) (hn : n < t.ps.length) :
    Calls Tryz.prog 117 #[v, .int .i64 n] w (KdPost w (kidsL t.ps n)) := by
  obtain ⟨P, N, rfl, hP, hN⟩ := h
  have hb0 : Below w.heap.size w (w.alloc (.cells #[P, N] 45)) := (Below.refl _ _).alloc (Nat.le_refl _) _
  have hP1 := hP.keep (Kept.below hb0)
  have hcp : (w.alloc (.cells #[P, N] 45)).cell? ⟨w.heap.size, 0, none⟩ = some P := by simp [World.cell?_alloc_new]
  obtain ⟨ps, ns⟩ := t
  simp only at *
  obtain ⟨p, cap, rfl, hcap, HP⟩ := SlAt.open hP1
  have hsz : (w.alloc (.cells #[.slice p ps.length cap, N] 45)).heap.size = w.heap.size + 1 := by simp
  have HS := Lib.hid hsz
  have HB0 := Lib.hid hb0
  have HCP := Lib.hid hcp
  have HPP := Lib.hid HP
  clear HP hP1 hP hN hb0 hcp hsz
  go_enter Tryz.func117, Tryz.ntmps117
  go_wp2_with fail
  generalize hw0 : w.alloc (.cells #[.slice p ps.length cap, N] 45) = w0 at *
  clear hw0
  go_loopw [5, 6] (fun v i wr => ∃ k : Nat, n + 1 ≤ k ∧ k ≤ ps.length ∧ i = .int .i64 k ∧ Owns (w.heap.size + 1) 3 wr v ((ofNats (kidsK ps n k)).map (Value.int .i64)) ∧ Below (w.heap.size + 1) w0 wr) (fun _ i _ => ps.length - (intOf i).toNat)
  case atStart => exact ⟨n + 1, Nat.le_refl _, by omega, by go_num, by rw [kidsK_start]; exact Owns.nil _ _ _, Below.refl _ _⟩
  case round =>
    obtain ⟨k, hk1, hk, rfl, hown, hbr⟩ := hrel
    have hcp : wr.cell? ⟨w.heap.size, 0, none⟩ = some (.slice p ps.length cap) := (hbr.cell (p := ⟨w.heap.size, 0, none⟩) (by simp)).trans HCP.out
    by_cases hlt : k < ps.length
    · obtain ⟨b, off, rfl, hc0⟩ := HPP.out k hlt
      have hc : wr.cell? ⟨b, off + k, none⟩ = some (.int .i64 (gi ps k)) := by
        rw [hbr.cell (p := ⟨b, off + k, none⟩) (by have := World.block_lt_of_cell? _ _ hc0; have := HS.out; simp at *; omega)]; exact hc0
      have hsz : w.heap.size + 1 ≤ wr.heap.size := by have := hbr.size; have := HS.out; omega
      have hsucc := kidsK_succ ps n k
      have HSU := Lib.hid hsucc
      have HLL : Hid (((ofNats (kidsK ps n k)).map (Value.int .i64)).length ≤ 1000000) := by
        have := kidsK_len ps n k
        unfold Hid ofNats; rw [List.length_map, List.length_map]; omega
      clear hc0 hsucc HPP
      generalize hgk : gi ps k = x at *
      clear hgk
      by_cases hx : x = n
      · have hx1 : (x == (n : Int)) = true := by simp [hx]
        have HX : Hid (n < k ∧ x = n) := ⟨by omega, hx⟩
        clear hx
        go_wp2_with (at_builtin; refine wpList_app1 wr rfl _ _ 26 rfl (w.heap.size + 1) 3 _ 8 Tryz.underlying26 Tryz.infoI rfl (by decide) hown rfl _ rfl rfl HLL.out hsz ?_; intro g cap w2 hown1 hg1 hb1)
        go_roundw
        case rel => exact ⟨k + 1, by omega, by omega, by go_num, by rw [HSU.out, if_pos HX.out, ofNats_append, List.map_append]; rw [List.length_map] at hown1; exact hown1, hbr.trans hb1⟩
        case measure => simp [intOf]; omega
      · have hx1 : (x == (n : Int)) = false := by simpa using hx
        have HX : Hid ¬ (n < k ∧ x = n) := fun h => hx h.2
        clear hx
        go_wp2_with fail
        go_roundw
        case rel => exact ⟨k + 1, by omega, by omega, by go_num, by rw [HSU.out, if_neg HX.out, List.append_nil]; exact hown, hbr⟩
        case measure => simp [intOf]; omega
    · obtain rfl : k = ps.length := by omega
      clear hlt hk
      go_wp2_with fail
      go_ret
      exact ⟨HB0.out.trans (hbr.mono (by omega)), _, rfl, hown.ints.sub fun b hb _ => by omega⟩
end Go.Proofs.YtpjijbophjdgaaaGreat
