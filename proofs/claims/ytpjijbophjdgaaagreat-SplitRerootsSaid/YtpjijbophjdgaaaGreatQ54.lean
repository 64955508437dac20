/- The example of chapter 32: awake. The walk of SplitBack. The walk of SplitDistances. The contract of layer 35's reference's Conflicts. The contract of layer 35's reference's named. The contract of layer 35's reference's below: the names of the leaves below a node. Plain: the names below the root are all names; the reference's test of leaves against names is the map's. -/
import Derived.Test.YtpjijbophjdgaaaGreatQ50
import Derived.Test.YtpjijbophjdgaaaGreatQ53
import Derived.Test.YtpjijbophjdgaaaGreatQ36
import Derived.Test.YtpjijbophjdgaaaGreatQ21
import Derived.Deep.RegionHeld3
import Derived.Test.YtpjijbophjdgaaaGreatQ42
import Derived.Test.YtpjijbophjdgaaaGreatQ17
import Derived.Test.YtpjijbophjdgaaaGreatQ16
import Derived.Test.YtpjijbophjdgaaaGreatQ18
namespace Go.Proofs.YtpjijbophjdgaaaGreat
open Go.RowKit Go.Deep
@[go_sem high] theorem run_max7z (w : World) (ts : Array TypeId) (t : TypeId) (k : IntKind) : (Builtin.max_ ts t #[.int k 0, .int k 0, .int k 0, .int k 0, .int k 0, .int k 0, .int k 0]).run Tryz.prog w = .ok (.int k 0) w := by
  simp [Builtin.max_, Builtin.max2]
theorem get_small32 {α : Type} {P : α → Prop} {l : List α} {d : α} (h : ∀ x ∈ l, P x) (hd : P d) (k : Nat) : P (l.getD k d) := by
  by_cases hk : k < l.length
  · have : l.getD k d = l[k] := by simp [hk]
    rw [this]; exact h _ (List.getElem_mem hk)
  · have : l.getD k d = d := by simp [show l.length ≤ k by omega]
    rw [this]; exact hd
theorem tX_small (k : Nat) : (gs tX.ns k).size ≤ 70000 := get_small32 (P := fun x : ByteArray => x.size ≤ 70000) (by decide) (by decide) k
theorem uX_small (k : Nat) : (gs uX.ns k).size ≤ 70000 := get_small32 (P := fun x : ByteArray => x.size ≤ 70000) (by decide) (by decide) k
theorem four_small (k : Nat) : (gs fourX k).size ≤ 70000 := get_small32 (P := fun x : ByteArray => x.size ≤ 70000) (by decide) (by decide) k
theorem lX_small (k : Nat) : (gl [[2, 3]] k).length ≤ 1000000 := get_small32 (P := fun x : List Int => x.length ≤ 1000000) (by decide) (by decide) k
theorem uX_str : (⟨(txT uX).toArray⟩ : ByteArray) = ⟨#[40, 65, 44, 40, 66, 44, 40, 67, 44, 68, 41, 41, 41, 59]⟩ := by rw [uX_tx.2]
theorem lit23 (w : World) : RowsAt Any ((w.alloc (.cells #[.int .i64 2, .int .i64 3] 3)).alloc (.cells #[.slice (some ⟨w.heap.size, 0, none⟩) 2 2] 26)) (.slice (some ⟨w.heap.size + 1, 0, none⟩) 1 1) [[2, 3]] := by
  have h1 := lit_ints w #[.int .i64 2, .int .i64 3] 3 [2, 3] rfl 2 rfl
  refine ⟨fun _ => .slice (some ⟨w.heap.size, 0, none⟩) 2 2, ⟨_, _, rfl, Nat.le_refl _, .inr ⟨_, 0, rfl, trivial, fun k hk => ?_⟩⟩, fun k hk => ?_⟩
  · have hk0 : k < 1 := hk
    obtain rfl : k = 0 := by omega
    have h := box1_0 (w.alloc (.cells #[.int .i64 2, .int .i64 3] 3)) (.slice (some ⟨w.heap.size, 0, none⟩) 2 2) 26
    rwa [World.size_alloc] at h
  · have hk0 : k < 1 := hk
    obtain rfl : k = 0 := by omega
    exact IntsAt.keep h1 ((Up.alloc _ _).kept _)
set_option maxRecDepth 100000 in
set_option maxHeartbeats 4000000 in
theorem awake32_t (w : World) : Calls Tryz.prog 54 #[] w fun e w' => e = .returned (.bool true) ∧ Up w w' := by
  have HP1 : Hid (Calls Tryz.prog 46 #[.string tXs] w (PaPost w tXs)) := parse_t w tXs (by decide) (ia_ok tXs (by decide))
  have HF := Lib.hid four_t
  go_enter Tryz.func54, Tryz.ntmps54
  go_wp2_with fail
  refine HP1.out.mono ?_
  rintro e w1 ⟨hu1, v1, rfl, ht1⟩
  rw [tX_par.1]
  rw [tX_par.2] at ht1
  obtain ⟨P1, N1, rfl, hP1, hN1⟩ := ht1
  obtain ⟨pp, pc, rfl, _, _⟩ := SlAt.open hP1
  obtain ⟨np, nc, rfl, _, _⟩ := SlAt.open hN1
  have hP1 : IntsAt Any w1 (.slice pp tX.ps.length pc) tX.ps := hP1
  have hN1 : StrsAt Any w1 (.slice np tX.ns.length nc) tX.ns := hN1
  have hu2 := Up.alloc w1 (.cells #[.slice pp tX.ps.length pc, .slice np tX.ns.length nc] 45)
  have HB0 := Lib.hid (box2_0 w1 (.slice pp tX.ps.length pc) (.slice np tX.ns.length nc) 45)
  have HB1 := Lib.hid (box2_1 w1 (.slice pp tX.ps.length pc) (.slice np tX.ns.length nc) 45)
  have HT2 : Hid (TreeAt Any (w1.alloc (.cells #[.slice pp tX.ps.length pc, .slice np tX.ns.length nc] 45)) (.agg #[.slice pp tX.ps.length pc, .slice np tX.ns.length nc]) tX) := TreeAt.keep ⟨_, _, rfl, hP1, hN1⟩ (hu2.kept _)
  have HU2 := Lib.hid (hu1.trans hu2)
  clear hu1 hu2 hP1 hN1 HP1
  go_wp2_with fail
  generalize w1.alloc (.cells #[.slice pp tX.ps.length pc, .slice np tX.ns.length nc] 45) = w2 at *
  refine (parse_t w2 uXs (by decide) (ia_ok uXs (by decide))).mono ?_
  rintro e w3 ⟨hu3, v3, rfl, ht3⟩
  rw [uX_par.1]
  rw [uX_par.2] at ht3
  obtain ⟨P3, N3, rfl, hP3, hN3⟩ := ht3
  obtain ⟨pp3, pc3, rfl, _, _⟩ := SlAt.open hP3
  obtain ⟨np3, nc3, rfl, _, _⟩ := SlAt.open hN3
  have hP3 : IntsAt Any w3 (.slice pp3 uX.ps.length pc3) uX.ps := hP3
  have hN3 : StrsAt Any w3 (.slice np3 uX.ns.length nc3) uX.ns := hN3
  have hu4 := Up.alloc w3 (.cells #[.slice pp3 uX.ps.length pc3, .slice np3 uX.ns.length nc3] 45)
  have hu34 := hu3.trans hu4
  have HC0 := Lib.hid (box2_0 w3 (.slice pp3 uX.ps.length pc3) (.slice np3 uX.ns.length nc3) 45)
  have HC1 := Lib.hid (box2_1 w3 (.slice pp3 uX.ps.length pc3) (.slice np3 uX.ns.length nc3) 45)
  have HTU : Hid (TreeAt Any (w3.alloc (.cells #[.slice pp3 uX.ps.length pc3, .slice np3 uX.ns.length nc3] 45)) (.agg #[.slice pp3 uX.ps.length pc3, .slice np3 uX.ns.length nc3]) uX) := TreeAt.keep ⟨_, _, rfl, hP3, hN3⟩ (hu4.kept _)
  have HT4 := Lib.hid (HT2.out.keep (hu34.kept _))
  have HB04 := Lib.hid (hu34.cell HB0.out)
  have HB14 := Lib.hid (hu34.cell HB1.out)
  have HU4 := Lib.hid (HU2.out.trans hu34)
  clear hu3 hu4 hu34 hP3 hN3 HT2 HB0 HB1 HU2
  go_wp2_with fail
  generalize w3.alloc (.cells #[.slice pp3 uX.ps.length pc3, .slice np3 uX.ns.length nc3] 45) = w4 at *
  have hup : Hid (Up w4 (w4.drewN 1)) := Up.drewN w4 1
  go_region_held3 (fun w' => Hid (Up w4 w') ∧ w'.cell? ⟨w1.heap.size, 0, none⟩ = some (.slice pp tX.ps.length pc) ∧ w'.cell? ⟨w1.heap.size, 1, none⟩ = some (.slice np tX.ns.length nc)) (exact ⟨hup, hup.out.cell HB04.out, hup.out.cell HB14.out⟩) (first
    | (go_at_call 119; refine (HF.out _).mono ?_; rintro e w5 ⟨hb5, v5, rfl, hs5⟩; have HS5 := Lib.hid hs5; have hup : Hid (Up w4 w5) := hup.out.trans hb5; clear hb5 hs5)
    | (go_at_call 22; refine (splOf_t Any _ _ _ tX fourX (HT4.out.keep (hup.out.kept _)) HS5.out (by decide) (by decide) tX_small (by decide)).mono ?_; rintro e w6 ⟨hb6, v6, rfl, hr6⟩; rw [tX_of.1]; rw [tX_of.2] at hr6; have HR6 := Lib.hid hr6; have hup : Hid (Up w4 w6) := hup.out.trans hb6; clear hb6 hr6))
  have HU6 := Lib.hid (HU4.out.trans hup.out)
  have HT6 := Lib.hid (HT4.out.keep (hup.out.kept _))
  have HTU6 := Lib.hid (HTU.out.keep (hup.out.kept _))
  have HB06 := Lib.hid (hup.out.cell HB04.out)
  have HB16 := Lib.hid (hup.out.cell HB14.out)
  have HC06 := Lib.hid (hup.out.cell HC0.out)
  have HC16 := Lib.hid (hup.out.cell HC1.out)
  clear hup HT4 HTU HB04 HB14 HC0 HC1 HU4 HS5
  go_wp2_with fail
  have hup : Hid (Up w6 (w6.drewN 1)) := Up.drewN w6 1
  go_region_held3 (fun w' => Hid (Up w6 w') ∧ w'.cell? ⟨w1.heap.size, 0, none⟩ = some (.slice pp tX.ps.length pc) ∧ w'.cell? ⟨w1.heap.size, 1, none⟩ = some (.slice np tX.ns.length nc) ∧ w'.cell? ⟨w3.heap.size, 0, none⟩ = some (.slice pp3 uX.ps.length pc3) ∧ w'.cell? ⟨w3.heap.size, 1, none⟩ = some (.slice np3 uX.ns.length nc3)) (exact ⟨hup, hup.out.cell HB06.out, hup.out.cell HB16.out, hup.out.cell HC06.out, hup.out.cell HC16.out⟩) (first
    | (go_at_call 119; refine (HF.out _).mono ?_; rintro e w7 ⟨hb7, v7, rfl, hs7⟩; have HS7 := Lib.hid hs7; have hup : Hid (Up w6 w7) := hup.out.trans hb7; clear hb7 hs7)
    | (go_at_call 59; refine (distance_t Any _ _ _ _ tX uX fourX (HT6.out.keep (hup.out.kept _)) (HTU6.out.keep (hup.out.kept _)) HS7.out (by decide) (by decide) tX_small (by decide) (by decide) uX_small (by decide)).mono ?_; rintro e w8 ⟨rfl, hb8⟩; rw [tX_ds.1, tX_ds.2]; have hup : Hid (Up w6 w8) := hup.out.trans hb8; clear hb8))
  have HU8 := Lib.hid (HU6.out.trans hup.out)
  have HR8 := Lib.hid (HR6.out.keep (hup.out.kept _))
  have h9 := (Up.alloc w8 (.cells #[.int .i64 1, .int .i64 2] 3)).trans (Up.alloc _ (.cells #[.int .i64 2, .int .i64 3] 3))
  have hA9 := IntsAt.keep (lit_ints w8 #[.int .i64 1, .int .i64 2] 3 [1, 2] rfl 2 rfl) ((Up.alloc (w8.alloc (.cells #[.int .i64 1, .int .i64 2] 3)) (.cells #[.int .i64 2, .int .i64 3] 3)).kept _)
  have hB9 := lit_ints (w8.alloc (.cells #[.int .i64 1, .int .i64 2] 3)) #[.int .i64 2, .int .i64 3] 3 [2, 3] rfl 2 rfl
  have HCP := Lib.hid (compatible_t Any _ _ _ 4 [1, 2] [2, 3] hA9 hB9 (by decide) (by decide))
  have HU9 := Lib.hid (HU8.out.trans h9)
  have HR9 := Lib.hid (HR8.out.keep (h9.kept _))
  rw [World.size_alloc] at HCP
  clear hup h9 hA9 hB9 HT6 HTU6 HB06 HB16 HC06 HC16 HU6 HU8 HR6 HR8 HS7
  go_wp2_with fail
  generalize (w8.alloc (.cells #[.int .i64 1, .int .i64 2] 3)).alloc (.cells #[.int .i64 2, .int .i64 3] 3) = w9 at *
  refine HCP.out.mono ?_
  rintro e w10 ⟨rfl, hu10⟩
  rw [X_cp.1, X_cp.2]
  have HU10 := Lib.hid (HU9.out.trans hu10)
  have HR10 := Lib.hid (HR9.out.keep (hu10.kept _))
  clear hu10 HCP HU9 HR9
  go_wp2_with fail
  refine (HF.out w10).mono ?_
  rintro e w11 ⟨hu11, v11, rfl, hs11⟩
  have h12 := (Up.alloc w11 (.cells #[.int .i64 2, .int .i64 3] 3)).trans (Up.alloc _ (.cells #[.slice (some ⟨w11.heap.size, 0, none⟩) 2 2] 26))
  have HBD := Lib.hid (build_t Any _ _ _ fourX [[2, 3]] (StrsAt.keep hs11 (h12.kept _)) (lit23 w11) (by decide) four_small (by decide) lX_small)
  have HU12 := Lib.hid (HU10.out.trans (hu11.trans h12))
  have HR12 := Lib.hid (HR10.out.keep ((hu11.trans h12).kept _))
  clear hu11 hs11 h12 HU10 HR10
  go_wp2_with fail
  generalize (w11.alloc (.cells #[.int .i64 2, .int .i64 3] 3)).alloc (.cells #[.slice (some ⟨w11.heap.size, 0, none⟩) 2 2] 26) = w12 at *
  refine HBD.out.mono ?_
  rintro e w13 ⟨hu13, v13, rfl, ht13⟩
  rw [X_bld.1]
  rw [X_bld.2] at ht13
  obtain ⟨P5, N5, rfl, hP5, hN5⟩ := ht13
  obtain ⟨pp5, pc5, rfl, _, _⟩ := SlAt.open hP5
  obtain ⟨np5, nc5, rfl, _, _⟩ := SlAt.open hN5
  have hP5 : IntsAt Any w13 (.slice pp5 uX.ps.length pc5) uX.ps := hP5
  have hN5 : StrsAt Any w13 (.slice np5 uX.ns.length nc5) uX.ns := hN5
  have hu14 := Up.alloc w13 (.cells #[.slice pp5 uX.ps.length pc5, .slice np5 uX.ns.length nc5] 45)
  have b0 := box2_0 w13 (.slice pp5 uX.ps.length pc5) (.slice np5 uX.ns.length nc5) 45
  have b1 := box2_1 w13 (.slice pp5 uX.ps.length pc5) (.slice np5 uX.ns.length nc5) 45
  have HT14 : Hid (TreeAt Any (w13.alloc (.cells #[.slice pp5 uX.ps.length pc5, .slice np5 uX.ns.length nc5] 45)) (.agg #[.slice pp5 uX.ps.length pc5, .slice np5 uX.ns.length nc5]) uX) := TreeAt.keep ⟨_, _, rfl, hP5, hN5⟩ (hu14.kept _)
  have HPR := Lib.hid (print_t Any _ _ uX HT14.out (by decide) (by decide) uX_small)
  have HU14 := Lib.hid (HU12.out.trans (hu13.trans hu14))
  have HR14 := Lib.hid (HR12.out.keep ((hu13.trans hu14).kept _))
  clear hu13 hu14 hP5 hN5 HU12 HR12 HBD HT14
  go_wp2_with fail
  generalize w13.alloc (.cells #[.slice pp5 uX.ps.length pc5, .slice np5 uX.ns.length nc5] 45) = w14 at *
  refine HPR.out.mono ?_
  rintro e w15 ⟨hu15, rfl⟩
  rw [uX_tx.1, uX_str]
  obtain ⟨rp, rc, hrv, _, _⟩ := rows_open HR14.out
  subst hrv
  have h16 := (Up.alloc w15 (.cells #[.int .i64 2, .int .i64 3] 3)).trans (Up.alloc _ (.cells #[.slice (some ⟨w15.heap.size, 0, none⟩) 2 2] 26))
  have HSL := Lib.hid (sameLists_t Any Any _ _ _ [[2, 3]] [[2, 3]] (HR14.out.keep ((hu15.trans h16).kept _)) (lit23 w15) (by decide) (by decide) lX_small lX_small)
  have HU16 := Lib.hid (HU14.out.trans (hu15.trans h16))
  clear hu15 h16 b0 b1 HU14 HR14 HPR
  go_wp2_with fail
  generalize (w15.alloc (.cells #[.int .i64 2, .int .i64 3] 3)).alloc (.cells #[.slice (some ⟨w15.heap.size, 0, none⟩) 2 2] 26) = w16 at *
  refine HSL.out.mono ?_
  rintro e w17 ⟨rfl, n17, rfl⟩
  go_wp2_with fail
  go_ret
  exact ⟨ret_bool (by decide), HU16.out.trans (Up.drewN _ _)⟩
end Go.Proofs.YtpjijbophjdgaaaGreat
namespace Go.Proofs.YtpjijbophjdgaaaGreat
open Go.RowKit Go.Deep Go.Sort
end Go.Proofs.YtpjijbophjdgaaaGreat
namespace Go.Proofs.YtpjijbophjdgaaaGreat
open Go.RowKit Go.Deep
@[go_sem high] theorem run_max3z (w : World) (ts : Array TypeId) (t : TypeId) (k : IntKind) : (Builtin.max_ ts t #[.int k 0, .int k 0, .int k 0]).run Tryz.prog w = .ok (.int k 0) w := by
  simp [Builtin.max_, Builtin.max2]
@[go_sem high] theorem run_max4z (w : World) (ts : Array TypeId) (t : TypeId) (k : IntKind) : (Builtin.max_ ts t #[.int k 0, .int k 0, .int k 0, .int k 0]).run Tryz.prog w = .ok (.int k 0) w := by
  simp [Builtin.max_, Builtin.max2]
theorem gt31_small {t : Tre} {n : Nat} (h : gt31B t n = false) (_ : n ≤ 64) : t.ps.length ≤ 66 ∧ t.ns.length ≤ 68 ∧ ∀ k, (gs t.ns k).size ≤ 20 := by
  unfold gt31B at h
  simp only [Bool.or_eq_false_iff, Bool.and_eq_false_iff, decide_eq_false_iff_not] at h
  refine ⟨by omega, by omega, fun k => ?_⟩
  by_cases hk : k < t.ns.length
  · have := any_false h.2 hk
    have := of_decide_eq_false this; omega
  · have : gs t.ns k = ByteArray.empty := by simp [gs, show t.ns.length ≤ k by omega]
    rw [this]; decide
end Go.Proofs.YtpjijbophjdgaaaGreat
namespace Go.Proofs.YtpjijbophjdgaaaGreat
open Go.RowKit Go.Deep
end Go.Proofs.YtpjijbophjdgaaaGreat
namespace Go.Proofs.YtpjijbophjdgaaaGreat
open Go.RowKit Go.Deep
end Go.Proofs.YtpjijbophjdgaaaGreat
namespace Go.Proofs.YtpjijbophjdgaaaGreat
open Go.RowKit Go.Deep
end Go.Proofs.YtpjijbophjdgaaaGreat
namespace Go.Proofs.YtpjijbophjdgaaaGreat
theorem flt_nodup {t : Tre} (h : treeErr t = 0) : (fltN t.ns).Nodup := by
  obtain ⟨_, _, hl, _, he⟩ := treeErr_zero h
  unfold fltN
  rw [List.Nodup, List.pairwise_filter, List.pairwise_iff_getElem]
  intro i j hi hj hij h1 h2 e
  have hgi : gs t.ns i = t.ns[i] := by simp [gs, hi]
  have hgj : gs t.ns j = t.ns[j] := by simp [gs, hj]
  have hz : (gs t.ns j).size ≠ 0 := by rw [hgj]; exact of_decide_eq_true h2
  have hn := he j (by omega)
  have h3 : seenK t.ns j = true := List.any_eq_true.2 ⟨i, List.mem_range.2 hij, decide_eq_true (by rw [hgi, hgj, e])⟩
  unfold nErr at hn
  by_cases c1 : isIn t.ps j = true
  · rw [if_pos c1, if_neg hz] at hn; cases hn
  · rw [if_neg c1] at hn
    by_cases c2 : namedB (gs t.ns j).data.toList = true
    · rw [if_pos c2, if_pos h3] at hn; cases hn
    · rw [if_neg c2] at hn; cases hn
end Go.Proofs.YtpjijbophjdgaaaGreat
