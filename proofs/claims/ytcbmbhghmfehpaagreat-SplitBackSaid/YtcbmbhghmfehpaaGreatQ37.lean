/- The example of chapter 32: awake. The walk of SplitBack. -/
import Derived.Test.YtcbmbhghmfehpaaGreatQ33
import Derived.Test.YtcbmbhghmfehpaaGreatQ36
import Derived.Test.YtcbmbhghmfehpaaGreatQ24
import Derived.Test.YtcbmbhghmfehpaaGreatQ21
import Derived.Deep.RegionHeld3
import Derived.Test.YtcbmbhghmfehpaaGreatQ27
namespace Go.Proofs.YtcbmbhghmfehpaaGreat
open Go.RowKit Go.Deep
@[go_sem high] theorem run_max7z (w : World) (ts : Array TypeId) (t : TypeId) (k : IntKind) : (Builtin.max_ ts t #[.int k 0, .int k 0, .int k 0, .int k 0, .int k 0, .int k 0, .int k 0]).run Tryz.prog w = .ok (.int k 0) w := by
  simp [Builtin.max_, Builtin.max2]
theorem get_small32 {α : Type} {P : α → Prop} {l : List α} {d : α} (h : ∀ x ∈ l, P x) (hd : P d) (k : Nat) : P (l.getD k d) := by
  by_cases hk : k < l.length
  · have : l.getD k d = l[k] := by simp [hk]
    rw [this]; exact h _ (List.getElem_mem hk)
  · have : l.getD k d = d := by simp [show l.length ≤ k by omega]
    rw [this]; exact hd
theorem tX_small (k : Nat) : (gs tX.ns k).size ≤ 70000 := get_small32 (P := fun x : ByteArray => x.size ≤ 70000) (by decide) (by decide) k
theorem uX_small (k : Nat) : (gs uX.ns k).size ≤ 70000 := get_small32 (P := fun x : ByteArray => x.size ≤ 70000) (by decide) (by decide) k
theorem four_small (k : Nat) : (gs fourX k).size ≤ 70000 := get_small32 (P := fun x : ByteArray => x.size ≤ 70000) (by decide) (by decide) k
theorem lX_small (k : Nat) : (gl [[2, 3]] k).length ≤ 1000000 := get_small32 (P := fun x : List Int => x.length ≤ 1000000) (by decide) (by decide) k
theorem uX_str : (⟨(txT uX).toArray⟩ : ByteArray) = ⟨#[40, 65, 44, 40, 66, 44, 40, 67, 44, 68, 41, 41, 41, 59]⟩ := by rw [uX_tx.2]
/-- The list of the split of the example. -/
theorem lit23 (w : World) : RowsAt Any ((w.alloc (.cells #[.int .i64 2, .int .i64 3] 3)).alloc (.cells #[.slice (some ⟨w.heap.size, 0, none⟩) 2 2] 26)) (.slice (some ⟨w.heap.size + 1, 0, none⟩) 1 1) [[2, 3]] := by
  have h1 := lit_ints w #[.int .i64 2, .int .i64 3] 3 [2, 3] rfl 2 rfl
  refine ⟨fun _ => .slice (some ⟨w.heap.size, 0, none⟩) 2 2, ⟨_, _, rfl, Nat.le_refl _, .inr ⟨_, 0, rfl, trivial, fun k hk => ?_⟩⟩, fun k hk => ?_⟩
  · have hk0 : k < 1 := hk
    obtain rfl : k = 0 := by omega
    have h := box1_0 (w.alloc (.cells #[.int .i64 2, .int .i64 3] 3)) (.slice (some ⟨w.heap.size, 0, none⟩) 2 2) 26
    rwa [World.size_alloc] at h
  · have hk0 : k < 1 := hk
    obtain rfl : k = 0 := by omega
    exact IntsAt.keep h1 ((Up.alloc _ _).kept _)
set_option maxRecDepth 100000 in
set_option maxHeartbeats 4000000 in
theorem awake32_t (w : World) : Calls Tryz.prog 47 #[] w fun e w' => e = .returned (.bool true) ∧ Up w w' := by
  have HP1 : Hid (Calls Tryz.prog 108 #[.string tXs] w (PaPost w tXs)) := parse_t w tXs (by decide) (ia_ok tXs (by decide))
  have HF := Lib.hid four_t
  go_enter Tryz.func47, Tryz.ntmps47
  go_wp2_with fail
  refine HP1.out.mono ?_
  rintro e w1 ⟨hu1, v1, rfl, ht1⟩
  rw [tX_par.1]
  rw [tX_par.2] at ht1
  obtain ⟨P1, N1, rfl, hP1, hN1⟩ := ht1
  obtain ⟨pp, pc, rfl, _, _⟩ := SlAt.open hP1
  obtain ⟨np, nc, rfl, _, _⟩ := SlAt.open hN1
  have hP1 : IntsAt Any w1 (.slice pp tX.ps.length pc) tX.ps := hP1
  have hN1 : StrsAt Any w1 (.slice np tX.ns.length nc) tX.ns := hN1
  have hu2 := Up.alloc w1 (.cells #[.slice pp tX.ps.length pc, .slice np tX.ns.length nc] 45)
  have HB0 := Lib.hid (box2_0 w1 (.slice pp tX.ps.length pc) (.slice np tX.ns.length nc) 45)
  have HB1 := Lib.hid (box2_1 w1 (.slice pp tX.ps.length pc) (.slice np tX.ns.length nc) 45)
  have HT2 : Hid (TreeAt Any (w1.alloc (.cells #[.slice pp tX.ps.length pc, .slice np tX.ns.length nc] 45)) (.agg #[.slice pp tX.ps.length pc, .slice np tX.ns.length nc]) tX) := TreeAt.keep ⟨_, _, rfl, hP1, hN1⟩ (hu2.kept _)
  have HU2 := Lib.hid (hu1.trans hu2)
  clear hu1 hu2 hP1 hN1 HP1
  go_wp2_with fail
  generalize w1.alloc (.cells #[.slice pp tX.ps.length pc, .slice np tX.ns.length nc] 45) = w2 at *
  refine (parse_t w2 uXs (by decide) (ia_ok uXs (by decide))).mono ?_
  rintro e w3 ⟨hu3, v3, rfl, ht3⟩
  rw [uX_par.1]
  rw [uX_par.2] at ht3
  obtain ⟨P3, N3, rfl, hP3, hN3⟩ := ht3
  obtain ⟨pp3, pc3, rfl, _, _⟩ := SlAt.open hP3
  obtain ⟨np3, nc3, rfl, _, _⟩ := SlAt.open hN3
  have hP3 : IntsAt Any w3 (.slice pp3 uX.ps.length pc3) uX.ps := hP3
  have hN3 : StrsAt Any w3 (.slice np3 uX.ns.length nc3) uX.ns := hN3
  have hu4 := Up.alloc w3 (.cells #[.slice pp3 uX.ps.length pc3, .slice np3 uX.ns.length nc3] 45)
  have hu34 := hu3.trans hu4
  have HC0 := Lib.hid (box2_0 w3 (.slice pp3 uX.ps.length pc3) (.slice np3 uX.ns.length nc3) 45)
  have HC1 := Lib.hid (box2_1 w3 (.slice pp3 uX.ps.length pc3) (.slice np3 uX.ns.length nc3) 45)
  have HTU : Hid (TreeAt Any (w3.alloc (.cells #[.slice pp3 uX.ps.length pc3, .slice np3 uX.ns.length nc3] 45)) (.agg #[.slice pp3 uX.ps.length pc3, .slice np3 uX.ns.length nc3]) uX) := TreeAt.keep ⟨_, _, rfl, hP3, hN3⟩ (hu4.kept _)
  have HT4 := Lib.hid (HT2.out.keep (hu34.kept _))
  have HB04 := Lib.hid (hu34.cell HB0.out)
  have HB14 := Lib.hid (hu34.cell HB1.out)
  have HU4 := Lib.hid (HU2.out.trans hu34)
  clear hu3 hu4 hu34 hP3 hN3 HT2 HB0 HB1 HU2
  go_wp2_with fail
  generalize w3.alloc (.cells #[.slice pp3 uX.ps.length pc3, .slice np3 uX.ns.length nc3] 45) = w4 at *
  have hup : Hid (Up w4 (w4.drewN 1)) := Up.drewN w4 1
  go_region_held3 (fun w' => Hid (Up w4 w') ∧ w'.cell? ⟨w1.heap.size, 0, none⟩ = some (.slice pp tX.ps.length pc) ∧ w'.cell? ⟨w1.heap.size, 1, none⟩ = some (.slice np tX.ns.length nc)) (exact ⟨hup, hup.out.cell HB04.out, hup.out.cell HB14.out⟩) (first
    | (go_at_call 109; refine (HF.out _).mono ?_; rintro e w5 ⟨hb5, v5, rfl, hs5⟩; have HS5 := Lib.hid hs5; have hup : Hid (Up w4 w5) := hup.out.trans hb5; clear hb5 hs5)
    | (go_at_call 27; refine (splOf_t Any _ _ _ tX fourX (HT4.out.keep (hup.out.kept _)) HS5.out (by decide) (by decide) tX_small (by decide)).mono ?_; rintro e w6 ⟨hb6, v6, rfl, hr6⟩; rw [tX_of.1]; rw [tX_of.2] at hr6; have HR6 := Lib.hid hr6; have hup : Hid (Up w4 w6) := hup.out.trans hb6; clear hb6 hr6))
  have HU6 := Lib.hid (HU4.out.trans hup.out)
  have HT6 := Lib.hid (HT4.out.keep (hup.out.kept _))
  have HTU6 := Lib.hid (HTU.out.keep (hup.out.kept _))
  have HB06 := Lib.hid (hup.out.cell HB04.out)
  have HB16 := Lib.hid (hup.out.cell HB14.out)
  have HC06 := Lib.hid (hup.out.cell HC0.out)
  have HC16 := Lib.hid (hup.out.cell HC1.out)
  clear hup HT4 HTU HB04 HB14 HC0 HC1 HU4 HS5
  go_wp2_with fail
  have hup : Hid (Up w6 (w6.drewN 1)) := Up.drewN w6 1
  go_region_held3 (fun w' => Hid (Up w6 w') ∧ w'.cell? ⟨w1.heap.size, 0, none⟩ = some (.slice pp tX.ps.length pc) ∧ w'.cell? ⟨w1.heap.size, 1, none⟩ = some (.slice np tX.ns.length nc) ∧ w'.cell? ⟨w3.heap.size, 0, none⟩ = some (.slice pp3 uX.ps.length pc3) ∧ w'.cell? ⟨w3.heap.size, 1, none⟩ = some (.slice np3 uX.ns.length nc3)) (exact ⟨hup, hup.out.cell HB06.out, hup.out.cell HB16.out, hup.out.cell HC06.out, hup.out.cell HC16.out⟩) (first
    | (go_at_call 109; refine (HF.out _).mono ?_; rintro e w7 ⟨hb7, v7, rfl, hs7⟩; have HS7 := Lib.hid hs7; have hup : Hid (Up w6 w7) := hup.out.trans hb7; clear hb7 hs7)
    | (go_at_call 52; refine (distance_t Any _ _ _ _ tX uX fourX (HT6.out.keep (hup.out.kept _)) (HTU6.out.keep (hup.out.kept _)) HS7.out (by decide) (by decide) tX_small (by decide) (by decide) uX_small (by decide)).mono ?_; rintro e w8 ⟨rfl, hb8⟩; rw [tX_ds.1, tX_ds.2]; have hup : Hid (Up w6 w8) := hup.out.trans hb8; clear hb8))
  have HU8 := Lib.hid (HU6.out.trans hup.out)
  have HR8 := Lib.hid (HR6.out.keep (hup.out.kept _))
  have h9 := (Up.alloc w8 (.cells #[.int .i64 1, .int .i64 2] 3)).trans (Up.alloc _ (.cells #[.int .i64 2, .int .i64 3] 3))
  have hA9 := IntsAt.keep (lit_ints w8 #[.int .i64 1, .int .i64 2] 3 [1, 2] rfl 2 rfl) ((Up.alloc (w8.alloc (.cells #[.int .i64 1, .int .i64 2] 3)) (.cells #[.int .i64 2, .int .i64 3] 3)).kept _)
  have hB9 := lit_ints (w8.alloc (.cells #[.int .i64 1, .int .i64 2] 3)) #[.int .i64 2, .int .i64 3] 3 [2, 3] rfl 2 rfl
  have HCP := Lib.hid (compatible_t Any _ _ _ 4 [1, 2] [2, 3] hA9 hB9 (by decide) (by decide))
  have HU9 := Lib.hid (HU8.out.trans h9)
  have HR9 := Lib.hid (HR8.out.keep (h9.kept _))
  rw [World.size_alloc] at HCP
  clear hup h9 hA9 hB9 HT6 HTU6 HB06 HB16 HC06 HC16 HU6 HU8 HR6 HR8 HS7
  go_wp2_with fail
  generalize (w8.alloc (.cells #[.int .i64 1, .int .i64 2] 3)).alloc (.cells #[.int .i64 2, .int .i64 3] 3) = w9 at *
  refine HCP.out.mono ?_
  rintro e w10 ⟨rfl, hu10⟩
  rw [X_cp.1, X_cp.2]
  have HU10 := Lib.hid (HU9.out.trans hu10)
  have HR10 := Lib.hid (HR9.out.keep (hu10.kept _))
  clear hu10 HCP HU9 HR9
  go_wp2_with fail
  refine (HF.out w10).mono ?_
  rintro e w11 ⟨hu11, v11, rfl, hs11⟩
  have h12 := (Up.alloc w11 (.cells #[.int .i64 2, .int .i64 3] 3)).trans (Up.alloc _ (.cells #[.slice (some ⟨w11.heap.size, 0, none⟩) 2 2] 26))
  have HBD := Lib.hid (build_t Any _ _ _ fourX [[2, 3]] (StrsAt.keep hs11 (h12.kept _)) (lit23 w11) (by decide) four_small (by decide) lX_small)
  have HU12 := Lib.hid (HU10.out.trans (hu11.trans h12))
  have HR12 := Lib.hid (HR10.out.keep ((hu11.trans h12).kept _))
  clear hu11 hs11 h12 HU10 HR10
  go_wp2_with fail
  generalize (w11.alloc (.cells #[.int .i64 2, .int .i64 3] 3)).alloc (.cells #[.slice (some ⟨w11.heap.size, 0, none⟩) 2 2] 26) = w12 at *
  refine HBD.out.mono ?_
  rintro e w13 ⟨hu13, v13, rfl, ht13⟩
  rw [X_bld.1]
  rw [X_bld.2] at ht13
  obtain ⟨P5, N5, rfl, hP5, hN5⟩ := ht13
  obtain ⟨pp5, pc5, rfl, _, _⟩ := SlAt.open hP5
  obtain ⟨np5, nc5, rfl, _, _⟩ := SlAt.open hN5
  have hP5 : IntsAt Any w13 (.slice pp5 uX.ps.length pc5) uX.ps := hP5
  have hN5 : StrsAt Any w13 (.slice np5 uX.ns.length nc5) uX.ns := hN5
  have hu14 := Up.alloc w13 (.cells #[.slice pp5 uX.ps.length pc5, .slice np5 uX.ns.length nc5] 45)
  have b0 := box2_0 w13 (.slice pp5 uX.ps.length pc5) (.slice np5 uX.ns.length nc5) 45
  have b1 := box2_1 w13 (.slice pp5 uX.ps.length pc5) (.slice np5 uX.ns.length nc5) 45
  have HT14 : Hid (TreeAt Any (w13.alloc (.cells #[.slice pp5 uX.ps.length pc5, .slice np5 uX.ns.length nc5] 45)) (.agg #[.slice pp5 uX.ps.length pc5, .slice np5 uX.ns.length nc5]) uX) := TreeAt.keep ⟨_, _, rfl, hP5, hN5⟩ (hu14.kept _)
  have HPR := Lib.hid (print_t Any _ _ uX HT14.out (by decide) (by decide) uX_small)
  have HU14 := Lib.hid (HU12.out.trans (hu13.trans hu14))
  have HR14 := Lib.hid (HR12.out.keep ((hu13.trans hu14).kept _))
  clear hu13 hu14 hP5 hN5 HU12 HR12 HBD HT14
  go_wp2_with fail
  generalize w13.alloc (.cells #[.slice pp5 uX.ps.length pc5, .slice np5 uX.ns.length nc5] 45) = w14 at *
  refine HPR.out.mono ?_
  rintro e w15 ⟨hu15, rfl⟩
  rw [uX_tx.1, uX_str]
  obtain ⟨rp, rc, hrv, _, _⟩ := rows_open HR14.out
  subst hrv
  have h16 := (Up.alloc w15 (.cells #[.int .i64 2, .int .i64 3] 3)).trans (Up.alloc _ (.cells #[.slice (some ⟨w15.heap.size, 0, none⟩) 2 2] 26))
  have HSL := Lib.hid (sameLists_t Any Any _ _ _ [[2, 3]] [[2, 3]] (HR14.out.keep ((hu15.trans h16).kept _)) (lit23 w15) (by decide) (by decide) lX_small lX_small)
  have HU16 := Lib.hid (HU14.out.trans (hu15.trans h16))
  clear hu15 h16 b0 b1 HU14 HR14 HPR
  go_wp2_with fail
  generalize (w15.alloc (.cells #[.int .i64 2, .int .i64 3] 3)).alloc (.cells #[.slice (some ⟨w15.heap.size, 0, none⟩) 2 2] 26) = w16 at *
  refine HSL.out.mono ?_
  rintro e w17 ⟨rfl, n17, rfl⟩
  go_wp2_with fail
  go_ret
  exact ⟨ret_bool (by decide), HU16.out.trans (Up.drewN _ _)⟩
end Go.Proofs.YtcbmbhghmfehpaaGreat
namespace Go.Proofs.YtcbmbhghmfehpaaGreat
open Go.RowKit Go.Deep Go.Sort
theorem backCmp_t (S T : Nat → Prop) (w : World) (v u : Value) (a b : List Int) (h : IntsAt S w v a) (h2 : IntsAt T w u b) (hn : a.length ≤ 1000000) (hm : b.length ≤ 1000000) :
    Calls Tryz.prog 56 #[v, u] w fun e w' => e = .returned (.int .i64 (cmpL a b)) ∧ ∃ n os, w' = grow (w.drewN n) os := by
  have HC := Lib.hid (cmpL_t S T w v u a b h h2 hn hm)
  obtain ⟨p, cap, rfl, -, -⟩ := SlAt.open h
  obtain ⟨q, caq, rfl, -, -⟩ := SlAt.open h2
  clear h h2
  go_enter Tryz.func56, Tryz.ntmps56
  go_wp2_with fail
  refine HC.out.mono ?_
  rintro e w' ⟨rfl, rfl⟩
  go_wp2_with fail
  go_ret
  exact ⟨rfl, grow_same _⟩
theorem backEq_t (S T : Nat → Prop) (w : World) (v u : Value) (a b : List Int) (h : IntsAt S w v a) (h2 : IntsAt T w u b) (hn : a.length ≤ 1000000) (hm : b.length ≤ 1000000) :
    Calls Tryz.prog 58 #[v, u] w fun e w' => e = .returned (.bool (decide (a = b))) ∧ ∃ m, w' = w.drewN m := by
  have HC := Lib.hid (equal_int_t S T w v u a b h h2 hn hm)
  obtain ⟨p, cap, rfl, -, -⟩ := SlAt.open h
  obtain ⟨q, caq, rfl, -, -⟩ := SlAt.open h2
  clear h h2
  go_enter Tryz.func58, Tryz.ntmps58
  go_wp2_with fail
  refine HC.out.mono ?_
  rintro e w' ⟨rfl, m, rfl⟩
  go_wp2_with fail
  go_ret
  exact ⟨rfl, m, rfl⟩
theorem bldR_small {names : List ByteArray} {l : List (List Int)} (h : bldErr names l = 0) : (bldR names l).ps.length ≤ 64 ∧ (bldR names l).ns.length ≤ 64 ∧ ∀ k, (gs (bldR names l).ns k).size ≤ 70000 := by
  obtain ⟨_, _, ht⟩ := back_law h
  obtain ⟨_, h1, h2, _, _⟩ := treeErr_zero ht
  exact ⟨h1, by omega, tree_small ht⟩
set_option maxRecDepth 100000 in
set_option maxHeartbeats 8000000 in
theorem sback_law (w : World) (v u : Value) (names : List ByteArray) (l : List (List Int)) (h : StrsAt Any w v names) (h2 : RowsAt Any w u l) (hn : names.length ≤ 9223372036854775807) (hz : ∀ k, (gs names k).size ≤ 9223372036854775807) (hln : l.length ≤ 9223372036854775807) (hr : ∀ k, (gl l k).length ≤ 9223372036854775807) :
    Calls Tryz.prog 6 #[v, u] w fun e w' => e = .returned (.bool true) ∧ Up w w' := by
  have HSM := Lib.hid (small32_t Any Any w v u names l h h2 hn hz hln hr)
  have HAW := Lib.hid awake32_t
  obtain ⟨np, nc, rfl, _, _⟩ := SlAt.open h
  obtain ⟨lp, lc, rfl, _, _⟩ := rows_open h2
  have HN := Lib.hid h
  have HL := Lib.hid (RowsAt.sub h2 (T := fun b => b < w.heap.size) fun b _ hb => hb)
  clear h h2 hz hr
  cases hs : sm32B names l
  · rw [hs] at HSM
    clear hs
    go_enter Tryz.func6, Tryz.ntmps6
    go_wp2_with (first | (go_at_call 54; refine HSM.out.mono ?_; rintro e w1 ⟨rfl, hu1⟩) | (go_at_call 47; refine (HAW.out _).mono ?_; rintro e w' ⟨rfl, hu⟩) | fail)
    go_ret
    exact ⟨rfl, hu1.trans hu⟩
  · obtain ⟨n9, z20, l7, r12⟩ := sm32_ok hs
    rw [hs] at HSM
    have R12 := Lib.hid r12
    have Z20 := Lib.hid z20
    have HBD : Hid (∀ W, Up w W → Calls Tryz.prog 39 #[.slice np names.length nc, .slice lp l.length lc] W (BdPost W names l)) := fun W hW => build_t _ W _ _ names l ((StrsAt.keep HN.out (hW.kept _)).sub (T := Any) fun _ _ _ => trivial) ((RowsAt.keep HL.out (hW.kept _)).sub (T := Any) fun _ _ _ => trivial) (by omega) (fun k => Nat.le_trans (z20 k) (by decide)) (by omega) (fun k => Nat.le_trans (r12 k) (by decide))
    have HCL : Hid (∀ W, Up w W → Calls Tryz.prog 30 #[.slice lp l.length lc] W (ClrPost (fun b => b < w.heap.size) W 26 l)) := fun W hW => clone_rows_t _ W _ l (RowsAt.keep HL.out (hW.kept _)) (by omega)
    have l7' : l.length ≤ 7 := l7
    have n9' := Lib.hid n9
    clear hs z20 r12 hn hln
    go_enter Tryz.func6, Tryz.ntmps6
    go_wp2_with fail
    refine HSM.out.mono ?_
    rintro e w1 ⟨rfl, hu1⟩
    have HU1 := Lib.hid hu1
    clear hu1 HSM
    go_wp2_with fail
    refine (HBD.out w1 HU1.out).mono ?_
    rintro e w2 ⟨hu2, bv, rfl, htb⟩
    obtain ⟨BP, BN, rfl, hBP, hBN⟩ := htb
    obtain ⟨bp, bc, rfl, _, _⟩ := SlAt.open hBP
    obtain ⟨cp, cc, rfl, _, _⟩ := SlAt.open hBN
    have hal := Up.alloc w2 (.cells #[.slice bp (bldR names l).ps.length bc, .slice cp (bldR names l).ns.length cc] 45)
    have HU2 := Lib.hid ((HU1.out.trans hu2).trans hal)
    have b0 := box2_0 w2 (.slice bp (bldR names l).ps.length bc) (.slice cp (bldR names l).ns.length cc) 45
    have b1 := box2_1 w2 (.slice bp (bldR names l).ps.length bc) (.slice cp (bldR names l).ns.length cc) 45
    have HTB : Hid (TreeAt Any (w2.alloc (.cells #[.slice bp (bldR names l).ps.length bc, .slice cp (bldR names l).ns.length cc] 45)) (.agg #[.slice bp (bldR names l).ps.length bc, .slice cp (bldR names l).ns.length cc]) (bldR names l)) := TreeAt.keep ⟨_, _, rfl, hBP, hBN⟩ (hal.kept _)
    clear hu2 hBP hBN HU1 HBD hal
    by_cases e0 : bldErr names l = 0
    · obtain ⟨k1, k2, k3⟩ := back_law e0
      obtain ⟨s1, s2, s3⟩ := bldR_small e0
      have HOF : Hid (∀ W, Up (w2.alloc (.cells #[.slice bp (bldR names l).ps.length bc, .slice cp (bldR names l).ns.length cc] 45)) W → Calls Tryz.prog 27 #[.agg #[.slice bp (bldR names l).ps.length bc, .slice cp (bldR names l).ns.length cc], .slice np names.length nc] W fun e w' => Up W w' ∧ ∃ u, e = .returned (.tuple #[u, .int .i64 0]) ∧ RowsAt Any w' u (ordX l)) := fun W hW => by
        have h := splOf_t Any W _ _ _ names (HTB.out.keep (hW.kept _)) (StrsAt.keep HN.out ((HU2.out.trans hW).kept _)) (by omega) (by omega) s3 (by have := n9'.out; omega)
        refine h.mono ?_
        rintro e w' ⟨h1, u, rfl, h2⟩
        rw [k2] at h2
        exact ⟨h1, u, by rw [k1], h2⟩
      have HCK : Hid (∀ W, Up (w2.alloc (.cells #[.slice bp (bldR names l).ps.length bc, .slice cp (bldR names l).ns.length cc] 45)) W → Calls Tryz.prog 55 #[.agg #[.slice bp (bldR names l).ps.length bc, .slice cp (bldR names l).ns.length cc]] W fun e w' => e = .returned (.int .i64 0) ∧ Up W w') := fun W hW => by
        have h := check_t Any W _ (bldR names l) (HTB.out.keep (hW.kept _)) (by omega) (by omega) s3
        rw [k3] at h; exact h
      have HB0 := Lib.hid b0
      have HB1 := Lib.hid b1
      rw [e0]
      clear e0 k1 k2 k3 s1 s2 s3 HTB
      generalize (bldR names l).ps.length = x at *
      generalize (bldR names l).ns.length = y at *
      go_wp2_with fail
      generalize w2.alloc (.cells #[.slice bp x bc, .slice cp y cc] 45) = w3 at *
      refine (HOF.out w3 (Up.refl _)).mono ?_
      rintro e w4 ⟨hu4, ov, rfl, hor⟩
      have HU4 := Lib.hid (HU2.out.trans hu4)
      have b0 := hu4.cell HB0.out
      have b1 := hu4.cell HB1.out
      have HOR := Lib.hid hor
      have HCK4 := Lib.hid (HCK.out w4 hu4)
      clear hu4 hor HOF HU2 HCK HB0 HB1
      go_wp2_with fail
      refine HCK4.out.mono ?_
      rintro e w5 ⟨rfl, hu5⟩
      have HU5 := Lib.hid (HU4.out.trans hu5)
      have HOR5 := Lib.hid (HOR.out.keep (hu5.kept _))
      clear hu5 b0 b1 HCK4 HU4 HOR
      go_wp2_with fail
      refine (HCL.out w5 HU5.out).mono ?_
      rintro e w8 ⟨hu8, qv, vals, rfl, hvl, hov, hrow⟩
      have hu8 : Up w5 w8 := hu8
      obtain ⟨oq, oc, rfl, _⟩ := hov.form (n := l.length) hvl
      obtain ⟨ps, hR8, hm8, _⟩ := rws_of (k := w.heap.size) hov hvl hrow HU5.out.size
      have hpl : ps.length = l.length := by rw [← hm8, List.length_map]
      have hrl : ∀ p ∈ ps, p.1.length ≤ 1000000 := fun p hp => by
        have h1 : p.1 ∈ l := by rw [← hm8]; exact List.mem_map_of_mem hp
        obtain ⟨k, hk, e⟩ := in_gl h1
        rw [← e]; exact Nat.le_trans (R12.out k) (by decide)
      have HSO := Lib.hid (sortRows_m (cf := cmpL) cmpL_self (fun h => cmpL_zero h) cmpL_anti (fun h k => cmpL_trans h k) 56 #[] (enters_of Tryz.func56 (by kernel_rfl) rfl) hR8 (by omega) (fun p hp q hq W' hW' => backCmp_t Any Any W' p.2 q.2 p.1 q.1 (hR8.there hW' p hp) (hR8.there hW' q hq) (hrl p hp) (hrl q hq)))
      have hlo : ∀ g, (Value.slice oq l.length oc).ownBlock = some g → w5.heap.size ≤ g := fun g hg => (ownBlock_lt hov hg).1
      have HLO := Lib.hid hlo
      have HU8 := Lib.hid hu8
      have HM8 := Lib.hid hm8
      have HRL := Lib.hid hrl
      have HPL := Lib.hid hpl
      clear hu8 hvl hov hrow hR8 hm8 hpl hrl hlo HCL
      go_wp2_with fail
      refine HSO.out.mono ?_
      rintro e w10 ⟨rfl, hg10, ps10, hp10, hs10, hR10, hmem10⟩
      have hl10 : ps10.length = l.length := by have := hp10.length_eq; rw [List.length_map, List.length_map, HPL.out] at this; exact this
      have hsq : ps10.map (·.1) = sortX l := sortX_uniq (by rw [HM8.out] at hp10; exact hp10) hs10
      have hU10 : Up w5 w10 := Below.grown HU8.out hg10 HU8.out.size HLO.out
      have HCO := Lib.hid (compactRowsG 58 #[] (enters_of Tryz.func58 (by kernel_rfl) rfl) hR10 (by omega) (fun p hp q hq W' hW' => backEq_t Any Any W' p.2 q.2 p.1 q.1 (hR10.there hW' p hp) (hR10.there hW' q hq) (HRL.out p (hmem10 p hp)) (HRL.out q (hmem10 q hq))))
      have HU10 := Lib.hid hU10
      have HSQ := Lib.hid hsq
      have HM10 : Hid (∀ p ∈ ps10, p.1.length ≤ 1000000) := fun p hp => HRL.out p (hmem10 p hp)
      clear hg10 hp10 hs10 hR10 hmem10 hl10 hsq hU10 HSO HU8 HM8
      go_wp2_with fail
      refine HCO.out.mono ?_
      rintro e w11 ⟨hg11, v11, ps11, rfl, hp11, hR11, hmem11⟩
      rw [HSQ.out] at hp11
      have hp11 : ps11.map (·.1) = ordX l := hp11
      have hU11 : Up w5 w11 := Below.grown HU10.out hg11 HU10.out.size HLO.out
      have hr11 := hR11.rows
      rw [hp11] at hr11
      have hll : (ordX l).length ≤ l.length := by unfold ordX; rw [← (sortX_perm l).length_eq]; exact cptX_len _
      have hrw : ∀ k, (gl (ordX l) k).length ≤ 1000000 := fun k => by
        by_cases hk : k < (ordX l).length
        · obtain ⟨j, hj, e⟩ := in_gl (mem_ordX.1 (gl_in hk))
          rw [← e]; exact Nat.le_trans (R12.out j) (by decide)
        · have : gl (ordX l) k = [] := by simp [gl, show (ordX l).length ≤ k by omega]
          rw [this]; decide
      have HSL := Lib.hid (sameLists_t Any Any w11 _ _ (ordX l) (ordX l) (HOR5.out.keep (hU11.kept _)) hr11 (by omega) (by omega) hrw hrw)
      rw [decide_eq_true (rfl : ordX l = ordX l)] at HSL
      have HU11 := Lib.hid (HU5.out.trans hU11)
      clear hg11 hp11 hR11 hmem11 hr11 hll hrw hU11 HCO HU10 HSQ HM10
      go_wp2_with fail
      refine HSL.out.mono ?_
      rintro e w12 ⟨rfl, n12, rfl⟩
      go_wp2_with fail
      refine (HAW.out _).mono ?_
      rintro e w' ⟨rfl, hu⟩
      go_wp2_with fail
      go_ret
      exact ⟨rfl, (HU11.out.trans (Up.drewN _ n12)).trans hu⟩
    · have d1 : (bldErr names l != 0) = true := by simpa using e0
      have hbz : (bldR names l).ps.length = 0 := by unfold bldR; rw [if_neg e0]; rfl
      rw [hbz] at b0
      have d2 : ((bldR names l).ps.length : Int) = 0 := by rw [hbz]; rfl
      rw [hbz] at HU2
      clear e0 HTB
      generalize bldErr names l = z at *
      generalize (bldR names l).ns.length = y at *
      rw [hbz]
      rw [hbz] at b1
      clear hbz d2
      go_wp2_with (go_at_call 47; refine (HAW.out _).mono ?_; rintro e w' ⟨rfl, hu⟩)
      go_ret
      exact ⟨rfl, HU2.out.trans hu⟩
end Go.Proofs.YtcbmbhghmfehpaaGreat
