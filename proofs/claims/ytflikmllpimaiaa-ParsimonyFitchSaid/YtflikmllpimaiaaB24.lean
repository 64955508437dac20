/- The contract of parsimony.cost. -/
import Derived.Test.YtflikmllpimaiaaB22
import Derived.Test.YtflikmllpimaiaaB23
import Derived.Test.YtflikmllpimaiaaS
namespace Go.Proofs.Ytflikmllpimaiaa
open Go.RowKit Go.Shelf Go.Deep
attribute [local go_sem] Oper.semAt_some
theorem row_one (w : World) (x : Int) : (w.alloc (.cells #[.int .i64 x] 3)).rowIs w.heap.size 3 1 (fun _ => .int .i64 x) := World.rowIs_alloc w #[.int .i64 x] 3 _ (fun i hi => by
  have : i = 0 := by simp at hi; omega
  subst this; rfl)
set_option maxRecDepth 100000 in
set_option maxHeartbeats 2000000 in
theorem cost_t (S : Nat → Prop) (w : World) (v va vc : Value) (t : Tre) (all : List Int) (cs : List (List Int)) (hT : TreeAt S w v t) (hA : IntsAt S w va all) (hC : RowsAt S w vc cs)
    (hn : t.ps.length ≤ 64) (hall : AllOk t.ps.length cs.length all) (hrl : ∀ a, a < cs.length → (gl cs a).length = cs.length) (hcb : ∀ a k, 0 ≤ gi (gl cs a) k ∧ gi (gl cs a) k ≤ 1000) :
    Calls Try.prog 56 #[v, va, vc] w fun e w' => e = .returned (.int .i64 (costL t cs all)) ∧ Below w.heap.size w w' := by
  obtain ⟨P, N, rfl, hP, hN⟩ := hT
  obtain ⟨qA, capA, rfl, hcapA, _⟩ := SlAt.open hA
  obtain ⟨qC, capC, rfl, hcapC, _⟩ := rows_open hC
  have hA : IntsAt S w (.slice qA all.length capA) all := hA
  have hb4 : Below w.heap.size w ((((w.alloc (.cells #[P, N] 25)).alloc (.cells #[.slice qA all.length capA] 22)).alloc (.cells #[.slice qC cs.length capC] 26)).alloc (.cells #[.int .i64 0] 3)) :=
    ((((Below.refl _ w).alloc (Nat.le_refl _) _).alloc (by simp) _).alloc (by simp; omega) _).alloc (by simp; omega) _
  have hP4 := (hP.sub (T := (· < w.heap.size)) fun b _ hb => hb).keep (Kept.below hb4)
  have hA4 := (hA.sub (T := (· < w.heap.size)) fun b _ hb => hb).keep (Kept.below hb4)
  have hC4 := (hC.sub (T := (· < w.heap.size)) fun b _ hb => hb).keep (Kept.below hb4)
  have hrow := row_one (((w.alloc (.cells #[P, N] 25)).alloc (.cells #[.slice qA all.length capA] 22)).alloc (.cells #[.slice qC cs.length capC] 26)) 0
  have c1 : ((((w.alloc (.cells #[P, N] 25)).alloc (.cells #[.slice qA all.length capA] 22)).alloc (.cells #[.slice qC cs.length capC] 26)).alloc (.cells #[.int .i64 0] 3)).cell? ⟨w.heap.size + 1, 0, none⟩ = some (.slice qA all.length capA) := by
    have := cell_later (((Below.refl _ _).alloc (Nat.le_refl _) (.cells #[.slice qC cs.length capC] 26)).alloc (by simp) (.cells #[.int .i64 0] 3)) (box1_0 (w.alloc (.cells #[P, N] 25)) (.slice qA all.length capA) 22)
    simpa using this
  have c2 : ((((w.alloc (.cells #[P, N] 25)).alloc (.cells #[.slice qA all.length capA] 22)).alloc (.cells #[.slice qC cs.length capC] 26)).alloc (.cells #[.int .i64 0] 3)).cell? ⟨w.heap.size + 1 + 1, 0, none⟩ = some (.slice qC cs.length capC) := by
    have := cell_later ((Below.refl _ _).alloc (Nat.le_refl _) (.cells #[.int .i64 0] 3)) (box1_0 ((w.alloc (.cells #[P, N] 25)).alloc (.cells #[.slice qA all.length capA] 22)) (.slice qC cs.length capC) 26)
    simpa using this
  have hbx : Below (w.alloc (.cells #[P, N] 25)).heap.size (w.alloc (.cells #[P, N] 25)) ((((w.alloc (.cells #[P, N] 25)).alloc (.cells #[.slice qA all.length capA] 22)).alloc (.cells #[.slice qC cs.length capC] 26)).alloc (.cells #[.int .i64 0] 3)) :=
    (((Below.refl _ _).alloc (Nat.le_refl _) _).alloc (by simp) _).alloc (by simp) _
  have c00 := cell_later hbx (box2_0 w P N 25)
  have c01 := cell_later hbx (box2_1 w P N 25)
  have z4 : ((((w.alloc (.cells #[P, N] 25)).alloc (.cells #[.slice qA all.length capA] 22)).alloc (.cells #[.slice qC cs.length capC] 26)).alloc (.cells #[.int .i64 0] 3)).heap.size = w.heap.size + 4 := by simp
  simp only [World.size_alloc] at hrow
  have HB4 := Lib.hid hb4
  have HP4 := Lib.hid hP4
  have HA4 := Lib.hid hA4
  have HC4 := Lib.hid hC4
  have HROW := Lib.hid hrow
  have HZ4 := Lib.hid z4
  have HALL := Lib.hid hall
  have HRL := Lib.hid hrl
  have HCB := Lib.hid hcb
  have HC1 := Lib.hid c1
  have HC2 := Lib.hid c2
  have HC00 := Lib.hid c00
  have HC01 := Lib.hid c01
  clear hb4 hP4 hA4 hC4 hrow z4 hall hrl hcb hP hN hA hC hbx c1 c2 c00 c01
  refine (callsIn_wide (n := 9)).1 ?_
  refine callsIn_of_wp_marks Try.func56 rfl trivial ?_
  simp only [Try.ntmps56, List.size_toArray, List.length_cons, List.length_nil, Nat.reduceAdd, Nat.reduceSub, Array.replicate_succ, Array.replicate_zero, List.push_toArray, List.append_toArray, List.nil_append, List.cons_append]
  gi_wp2_with fail
  generalize hw4 : ((((w.alloc (Obj.cells #[P, N] 25)).alloc (Obj.cells #[.slice qA all.length capA] 22)).alloc (Obj.cells #[.slice qC cs.length capC] 26)).alloc (Obj.cells #[.int .i64 0] 3)) = w4 at *
  clear hw4
  generalize hB0 : w.heap.size = B at *
  refine wpIn_loop (fun a wr => ∃ (k : Nat) (ds : List Deferred) (u8 u9 u13 u14 u15 u16 u17 u18 u19 u20 u21 u22 u23 u24 u25 u26 u27 u28 u29 u30 u31 u32 u33 u34 u35 : Value), k ≤ t.ps.length ∧ a = { tmps := #[Value.agg #[P, N], Value.slice qA all.length capA, Value.slice qC cs.length capC, .pointer (some ⟨B, 0, none⟩), .pointer (some ⟨B + 1, 0, none⟩), .pointer (some ⟨B + 1 + 1, 0, none⟩), .int .i64 0, .pointer (some ⟨B + 1 + 1 + 1, 0, none⟩), u8, u9, .slice qA all.length capA, .int .i64 all.length, .int .i64 k, u13, u14, u15, u16, u17, u18, u19, u20, u21, u22, u23, u24, u25, u26, u27, u28, u29, u30, u31, u32, u33, u34, u35], defers := ds } ∧ RoundW w4 wr (B + 1 + 1 + 1) 1 (fun _ => costK t cs all k) ds) (fun a _ => t.ps.length - (intOf (a.tmps.getD 12 undef)).toNat) ?start ?round
  case start => exact ⟨0, [], _, _, _, _, _, _, _, _, _, _, _, _, _, _, _, _, _, _, _, _, _, _, _, _, _, Nat.zero_le _, rfl, ⟨⟨rfl, rfl, rfl, Nat.le_refl _, fun _ _ _ => rfl⟩, HROW.out.congr (fun j _ => rfl), trivial⟩⟩
  case round =>
    rintro a wr ⟨k, ds, u8, u9, u13, u14, u15, u16, u17, u18, u19, u20, u21, u22, u23, u24, u25, u26, u27, u28, u29, u30, u31, u32, u33, u34, u35, hk, rfl, hRW⟩
    have hg := hRW.grown
    have HRW := Lib.hid hRW
    have hkeep : ∀ b, b < B + 3 → wr.heap[b]? = w4.heap[b]? := fun b hb => hg.block b (by have := HZ4.out; omega) (by simp; omega)
    have HG := Lib.hid hg
    have hcc : ∀ {b o : Nat} {x : Value}, b < B + 3 → w4.cell? ⟨b, o, none⟩ = some x → wr.cell? ⟨b, o, none⟩ = some x := fun hb hx => (World.cell?_of_block (hkeep _ hb)).trans hx
    have HKEEP := Lib.hid hkeep
    have hc00 := hcc (by omega) HC00.out
    have hc01 := hcc (by omega) HC01.out
    have hall1 := HALL.out.1
    have HALL1 := Lib.hid hall1
    clear hg hkeep hcc hRW hall1
    by_cases hlt : k < t.ps.length
    · obtain ⟨ab, ao, rfl, _⟩ := ints_get HA4.out (k := k) (by rw [HALL1.out]; exact hlt)
      have hm0 : 0 < cs.length := by have := HALL.out.2 k hlt; omega
      obtain ⟨cb, co, _, _, rfl, _, _⟩ := rows_get HC4.out hm0
      have hb5 : Below wr.heap.size wr (wr.alloc (.cells #[.int .i64 k] 3)) := (Below.refl _ _).alloc (Nat.le_refl _) _
      have h5a := cell_later hb5 hc00
      have h5b := cell_later hb5 hc01
      have h5s : (wr.alloc (.cells #[.int .i64 k] 3)).cell? ⟨wr.heap.size, 0, none⟩ = some (.int .i64 k) := by simp
      have H5RW := Lib.hid (HRW.out.alloc (.cells #[.int .i64 k] 3))
      have hsB : B + 4 ≤ wr.heap.size ∧ (wr.alloc (.cells #[.int .i64 k] 3)).heap.size = wr.heap.size + 1 := ⟨by have := HG.out.size; have := HZ4.out; omega, by simp⟩
      have hltA : (k : Int) < (all.length : Int) := by rw [HALL1.out]; omega
      have HSB := Lib.hid hsB
      clear hb5 hsB hc00 hc01
      gi_wp2_with fail
      generalize (wr.alloc (.cells #[.int .i64 k] 3)) = w5 at *
      generalize wr.heap.size = sB at *
      refine ⟨trivial, (callsIn_wide.2 (chil_t w5 _ P N rfl k)).mono ?_⟩
      rintro e w7 ⟨rfl, rfl⟩
      gi_wp2_with fail
      have hb7 : Below w5.heap.size w5 ((w5.alloc (.cells #[P, N] 25)).alloc (.cells #[.int .i64 k] 3)) := ((Below.refl _ _).alloc (Nat.le_refl _) _).alloc (by simp) _
      have h7s := cell_later hb7 h5s
      have h7n : ((w5.alloc (.cells #[P, N] 25)).alloc (.cells #[.int .i64 k] 3)).cell? ⟨w5.heap.size + 1, 0, none⟩ = some (.int .i64 k) := by simp
      have h7p : ((w5.alloc (.cells #[P, N] 25)).alloc (.cells #[.int .i64 k] 3)).cell? ⟨w5.heap.size, 0, none⟩ = some P := by simp
      have h7z : ((w5.alloc (.cells #[P, N] 25)).alloc (.cells #[.int .i64 k] 3)).heap.size = w5.heap.size + 2 := by simp
      have h7rw := (H5RW.out.alloc (.cells #[P, N] 25)).alloc (.cells #[.int .i64 k] 3)
      have h5e : w5.heap.size = sB + 1 := HSB.out.2
      generalize ((w5.alloc (.cells #[P, N] 25)).alloc (.cells #[.int .i64 k] 3)) = w7 at *
      generalize w5.heap.size = z5 at *
      have hsb1 := HSB.out.1
      have hz4 := HZ4.out
      have hold : ∀ W, w7.grownBy W (some (B + 1 + 1 + 1)) → ∀ b, b < B + 3 → W.heap[b]? = w4.heap[b]? := fun W hg b hb =>
        (hg.block b (by omega) (by simp; omega)).trans (h7rw.grown.block b (by omega) (by simp; omega))
      have h7refl : w7.grownBy w7 (some (B + 1 + 1 + 1)) := ⟨rfl, rfl, rfl, Nat.le_refl _, fun _ _ _ => rfl⟩
      have hP7 : IntsAt (fun b => b ≠ B + 1 + 1 + 1 ∧ b < w7.heap.size) w7 P t.ps := (HP4.out.keep fun b hb _ => hold w7 h7refl b (by omega)).sub fun b hb _ => ⟨by omega, by omega⟩
      have HOLD := Lib.hid hold
      have H7RW := Lib.hid h7rw
      have H7S := Lib.hid h7s
      have h7zz : B + 1 + 1 + 1 < w7.heap.size := by omega
      have hcbd := costK_bd HCB.out hn all k
      apply wpIn_rangeFunc_ownF (F := Fence.wide) (n := 9) (P := Try.prog) (ps := #[18]) (w := w7) rfl (by omega) (gf := 93) (lb := #[.pointer (some ⟨z5 + 1, 0, none⟩), .pointer (some ⟨z5, 0, none⟩)]) rfl trivial (enters_of Try.func93 (by kernel_rfl) rfl)
        (chil_stops 8 (by omega) (z5 + 1) z5 (fun b => b ≠ B + 1 + 1 + 1 ∧ b < w7.heap.size) t.ps k P w7 (fun b hb => hb.2) h7n h7p hP7 ⟨by omega, by omega⟩ ⟨by omega, by omega⟩ hlt (by omega))
        (fun h k => KS.trans h k) (fun W l o o' hl _ _ _ => fun b (hb : b ≠ B + 1 + 1 + 1 ∧ b < w7.heap.size) => World.putObj_heap_other (by have := hb.2; omega)) (Below.refl _ _) (fun _ => (rfl : (1 : Nat) = 1))
        (fun pre W => W.rowIs (B + 1 + 1 + 1) 3 1 (fun _ => .int .i64 (costK t cs all k + ((vals pre).map (edgeC cs all k)).sum)) ∧ w7.grownBy W (some (B + 1 + 1 + 1)))
        (fun _ _ _ => False) (own_row h7zz) (fun _ _ _ _ _ h _ _ => h)
        ⟨h7rw.row.congr fun j _ => by simp [vals], h7refl⟩
      · intro l x W K hK
        gi_wp2
        exact hK
      · rintro l pre x W ⟨hrow, hg7⟩ hlen
        have hkeep := HOLD.out W hg7
        have hcc : ∀ {b o : Nat} {x : Value}, b < B + 3 → w4.cell? ⟨b, o, none⟩ = some x → W.cell? ⟨b, o, none⟩ = some x := fun hb hx => (World.cell?_of_block (hkeep _ hb)).trans hx
        have bA := hcc (by omega) HC1.out
        have bC := hcc (by omega) HC2.out
        have bs : W.cell? ⟨sB, 0, none⟩ = some (.int .i64 k) := hg7.cell H7S.out (by simp; omega)
        obtain ⟨hx1, hx2, _⟩ := mem_kidsL.1 x.2
        have hKW : Kept (· < B) w4 W := fun b hb _ => hkeep b (by omega)
        have hac1 := ints_get' (HA4.out.keep hKW) (k := k) (by rw [HALL1.out]; exact hlt)
        have hac2 := ints_get' (HA4.out.keep hKW) (k := x.1) (by rw [HALL1.out]; exact hx1)
        obtain ⟨s1, hs1⟩ : ∃ s : Nat, gi all k = s := Int.eq_ofNat_of_zero_le (HALL.out.2 k hlt).1
        obtain ⟨s2, hs2⟩ : ∃ s : Nat, gi all x.1 = s := Int.eq_ofNat_of_zero_le (HALL.out.2 x.1 hx1).1
        have hl1 : s1 < cs.length := by have := (HALL.out.2 k hlt).2; omega
        have hl2 : s2 < cs.length := by have := (HALL.out.2 x.1 hx1).2; omega
        have hedge : edgeC cs all k x.1 = gi (gl cs s1) s2 := by unfold edgeC costF; rw [hs1, hs2]; rfl
        rw [hs1] at hac1
        rw [hs2] at hac2
        obtain ⟨rq, rc, hrc, hri⟩ := rows_get' (HC4.out.keep hKW) hl1
        have hl3 : s2 < (gl cs s1).length := by rw [HRL.out s1 hl1]; exact hl2
        obtain ⟨rb, ro, rfl, hcx⟩ := ints_get hri hl3
        have hrs := hrow.cell (i := 0) (by omega)
        have hrf := hrow.frozen 0
        have hsm := sum_vals (A := 1000) (B := 64) (f := edgeC cs all k) (by omega) (by omega) pre (fun c => by have := edgeC_bd HCB.out all k c.1; omega) (by omega)
        obtain ⟨hsm1, hsm2⟩ := hsm
        obtain ⟨hed1, hed2⟩ := HCB.out s1 s2
        have HPX : Hid (((vals (pre ++ [x])).map (edgeC cs all k)).sum = ((vals pre).map (edgeC cs all k)).sum + gi (gl cs s1) s2) := by unfold Hid; rw [vals_snoc]; simp [hedge]
        have i1 : (0 : Int) ≤ (k : Int) := by omega
        have i3 : (0 : Int) ≤ (x.1 : Int) := by omega
        have i4 : (x.1 : Int) < (all.length : Int) := by rw [HALL1.out]; omega
        have i5 : (0 : Int) ≤ (s1 : Int) := by omega
        have i6 : (s1 : Int) < (cs.length : Int) := by omega
        have i7 : (0 : Int) ≤ (s2 : Int) := by omega
        have i8 : (s2 : Int) < ((gl cs s1).length : Int) := by omega
        have HROW2 := Lib.hid hrow
        have HG7 := Lib.hid hg7
        clear hrow hg7 hkeep hcc hs1 hs2 hedge hri hP7 hKW
        obtain ⟨hc1, hc2⟩ := hcbd
        have hc3 : costK t cs all k ≤ 64000 * 64 := by omega
        clear hc2
        generalize costK t cs all k = ck at *
        generalize ((vals pre).map (edgeC cs all k)).sum = sm at *
        generalize gi (gl cs s1) s2 = ed at *
        gi_wp2
        refine region_tail_r 15 (by kernel_rfl) (by kernel_rfl) ?_
        simp only [List.take_succ_cons, List.take_zero, List.drop_succ_cons, List.drop_zero]
        repeat (gi_big_quiet_step (fail))
        refine wpQuietIn_nil ?_
        intro _ hw'
        obtain ⟨nq, hw''⟩ := hw'
        subst hw''
        have hrs1 : (W.drewN nq).cell? ⟨B + 1 + 1 + 1, 0, none⟩ = _ := hrs
        have hrf1 : (W.drewN nq).frozen? ⟨B + 1 + 1 + 1, 0, none⟩ = false := hrf
        gi_wp2
        refine ⟨?_, ?_, ?_, ?_⟩
        · exact ⟨(KeepsOthers.setCell (W.drewN nq) _ _).size, (KeepsOthers.setCell (W.drewN nq) _ _).same⟩
        · exact fun b hb => Below.heap_setCell (W.drewN nq) _ _ b hb.1
        · exact ((show (W.drewN nq).rowIs (B + 1 + 1 + 1) 3 1 _ from HROW2.out).set 0 _).congr fun j hj => by
            have : j = 0 := by omega
            subst this; simp [HPX.out]; omega
        · exact grown_tr HG7.out ⟨rfl, rfl, rfl, by rw [World.size_setCell]; exact Nat.le_refl _, fun k _ hne => Below.heap_setCell (W.drewN nq) _ _ k (fun e => hne (by rw [e]))⟩
      · rintro D xs W hD hS ⟨hrow, hg7⟩ hK
        have hT : costK t cs all k + ((vals xs).map (edgeC cs all k)).sum = costK t cs all (k + 1) := by
          have e : costK t cs all (k + 1) = costK t cs all k + nodeC t cs all k := rfl
          rw [hS, e]; rfl
        have hRN := (H7RW.out.later hg7 hrow (by omega)).congr (g := fun j => costK t cs all (k + 1)) (fun j _ => hT)
        have hMK : Marks w4.heap.size W ({ target := .collected D, args := #[] } :: ds) := ⟨⟨D, rfl, by have := H7RW.out.grown.size; omega, hK, fun d' hd' e => by
          obtain ⟨r, hr, hr2⟩ := H7RW.out.marks.lt d' hd'
          rw [hr] at e; injection e with e; omega⟩, hRN.marks⟩
        have HRN := Lib.hid hRN
        have HMK := Lib.hid hMK
        clear hT hRN hMK hrow hg7 hK hP7
        gi_wp2_with fail
        refine ⟨⟨k + 1, _, _, _, _, _, _, _, _, _, _, _, _, _, _, _, _, _, _, _, _, _, _, _, _, _, _, by omega, rfl, ⟨HRN.out.grown, HRN.out.row, HMK.out⟩⟩, ?_⟩
        simp [intOf]; omega
      · rintro D c pre W _ _ h _
        exact h.elim
    · obtain rfl : k = t.ps.length := by omega
      clear hlt
      have hrs := HRW.out.row.cell (i := 0) (by omega)
      have HRW2 := HRW
      have hge : decide (t.ps.length < all.length) = false := by rw [HALL1.out]; simp
      gi_wp2_with fail
      refine leaves_marks (n₀ := w4.heap.size) (fun w => results_tmp rfl _ _ _) HRW2.out.marks fun w' hb hs' hc => ⟨rfl, ?_⟩
      rw [hB0]
      refine ⟨hb.os.trans (HG.out.os.trans HB4.out.os), hb.tape.trans (HG.out.tape.trans HB4.out.tape), hb.output.trans (HG.out.output.trans HB4.out.output), ?_, fun b hb1 => ?_⟩
      · have h1 := hb.size; have h2 := HG.out.size; have h3 := HZ4.out; omega
      · exact ((hb.block b (by have := HZ4.out; omega)).trans (HKEEP.out b (by omega))).trans (HB4.out.block b hb1)
end Go.Proofs.Ytflikmllpimaiaa
