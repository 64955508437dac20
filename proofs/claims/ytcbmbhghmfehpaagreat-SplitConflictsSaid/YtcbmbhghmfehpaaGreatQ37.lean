/- The example of chapter 32: awake. The walk of SplitConflicts. -/
import Derived.Test.YtcbmbhghmfehpaaGreatQ33
import Derived.Test.YtcbmbhghmfehpaaGreatQ36
import Derived.Test.YtcbmbhghmfehpaaGreatQ24
import Derived.Test.YtcbmbhghmfehpaaGreatQ21
import Derived.Deep.RegionHeld3
import Derived.Test.YtcbmbhghmfehpaaGreatQ28
namespace Go.Proofs.YtcbmbhghmfehpaaGreat
open Go.RowKit Go.Deep
@[go_sem high] theorem run_max7z (w : World) (ts : Array TypeId) (t : TypeId) (k : IntKind) : (Builtin.max_ ts t #[.int k 0, .int k 0, .int k 0, .int k 0, .int k 0, .int k 0, .int k 0]).run Tryz.prog w = .ok (.int k 0) w := by
  simp [Builtin.max_, Builtin.max2]
theorem get_small32 {α : Type} {P : α → Prop} {l : List α} {d : α} (h : ∀ x ∈ l, P x) (hd : P d) (k : Nat) : P (l.getD k d) := by
  by_cases hk : k < l.length
  · have : l.getD k d = l[k] := by simp [hk]
    rw [this]; exact h _ (List.getElem_mem hk)
  · have : l.getD k d = d := by simp [show l.length ≤ k by omega]
    rw [this]; exact hd
theorem tX_small (k : Nat) : (gs tX.ns k).size ≤ 70000 := get_small32 (P := fun x : ByteArray => x.size ≤ 70000) (by decide) (by decide) k
theorem uX_small (k : Nat) : (gs uX.ns k).size ≤ 70000 := get_small32 (P := fun x : ByteArray => x.size ≤ 70000) (by decide) (by decide) k
theorem four_small (k : Nat) : (gs fourX k).size ≤ 70000 := get_small32 (P := fun x : ByteArray => x.size ≤ 70000) (by decide) (by decide) k
theorem lX_small (k : Nat) : (gl [[2, 3]] k).length ≤ 1000000 := get_small32 (P := fun x : List Int => x.length ≤ 1000000) (by decide) (by decide) k
theorem uX_str : (⟨(txT uX).toArray⟩ : ByteArray) = ⟨#[40, 65, 44, 40, 66, 44, 40, 67, 44, 68, 41, 41, 41, 59]⟩ := by rw [uX_tx.2]
/-- The list of the split of the example. -/
theorem lit23 (w : World) : RowsAt Any ((w.alloc (.cells #[.int .i64 2, .int .i64 3] 3)).alloc (.cells #[.slice (some ⟨w.heap.size, 0, none⟩) 2 2] 26)) (.slice (some ⟨w.heap.size + 1, 0, none⟩) 1 1) [[2, 3]] := by
  have h1 := lit_ints w #[.int .i64 2, .int .i64 3] 3 [2, 3] rfl 2 rfl
  refine ⟨fun _ => .slice (some ⟨w.heap.size, 0, none⟩) 2 2, ⟨_, _, rfl, Nat.le_refl _, .inr ⟨_, 0, rfl, trivial, fun k hk => ?_⟩⟩, fun k hk => ?_⟩
  · have hk0 : k < 1 := hk
    obtain rfl : k = 0 := by omega
    have h := box1_0 (w.alloc (.cells #[.int .i64 2, .int .i64 3] 3)) (.slice (some ⟨w.heap.size, 0, none⟩) 2 2) 26
    rwa [World.size_alloc] at h
  · have hk0 : k < 1 := hk
    obtain rfl : k = 0 := by omega
    exact IntsAt.keep h1 ((Up.alloc _ _).kept _)
set_option maxRecDepth 100000 in
set_option maxHeartbeats 4000000 in
theorem awake32_t (w : World) : Calls Tryz.prog 47 #[] w fun e w' => e = .returned (.bool true) ∧ Up w w' := by
  have HP1 : Hid (Calls Tryz.prog 108 #[.string tXs] w (PaPost w tXs)) := parse_t w tXs (by decide) (ia_ok tXs (by decide))
  have HF := Lib.hid four_t
  go_enter Tryz.func47, Tryz.ntmps47
  go_wp2_with fail
  refine HP1.out.mono ?_
  rintro e w1 ⟨hu1, v1, rfl, ht1⟩
  rw [tX_par.1]
  rw [tX_par.2] at ht1
  obtain ⟨P1, N1, rfl, hP1, hN1⟩ := ht1
  obtain ⟨pp, pc, rfl, _, _⟩ := SlAt.open hP1
  obtain ⟨np, nc, rfl, _, _⟩ := SlAt.open hN1
  have hP1 : IntsAt Any w1 (.slice pp tX.ps.length pc) tX.ps := hP1
  have hN1 : StrsAt Any w1 (.slice np tX.ns.length nc) tX.ns := hN1
  have hu2 := Up.alloc w1 (.cells #[.slice pp tX.ps.length pc, .slice np tX.ns.length nc] 45)
  have HB0 := Lib.hid (box2_0 w1 (.slice pp tX.ps.length pc) (.slice np tX.ns.length nc) 45)
  have HB1 := Lib.hid (box2_1 w1 (.slice pp tX.ps.length pc) (.slice np tX.ns.length nc) 45)
  have HT2 : Hid (TreeAt Any (w1.alloc (.cells #[.slice pp tX.ps.length pc, .slice np tX.ns.length nc] 45)) (.agg #[.slice pp tX.ps.length pc, .slice np tX.ns.length nc]) tX) := TreeAt.keep ⟨_, _, rfl, hP1, hN1⟩ (hu2.kept _)
  have HU2 := Lib.hid (hu1.trans hu2)
  clear hu1 hu2 hP1 hN1 HP1
  go_wp2_with fail
  generalize w1.alloc (.cells #[.slice pp tX.ps.length pc, .slice np tX.ns.length nc] 45) = w2 at *
  refine (parse_t w2 uXs (by decide) (ia_ok uXs (by decide))).mono ?_
  rintro e w3 ⟨hu3, v3, rfl, ht3⟩
  rw [uX_par.1]
  rw [uX_par.2] at ht3
  obtain ⟨P3, N3, rfl, hP3, hN3⟩ := ht3
  obtain ⟨pp3, pc3, rfl, _, _⟩ := SlAt.open hP3
  obtain ⟨np3, nc3, rfl, _, _⟩ := SlAt.open hN3
  have hP3 : IntsAt Any w3 (.slice pp3 uX.ps.length pc3) uX.ps := hP3
  have hN3 : StrsAt Any w3 (.slice np3 uX.ns.length nc3) uX.ns := hN3
  have hu4 := Up.alloc w3 (.cells #[.slice pp3 uX.ps.length pc3, .slice np3 uX.ns.length nc3] 45)
  have hu34 := hu3.trans hu4
  have HC0 := Lib.hid (box2_0 w3 (.slice pp3 uX.ps.length pc3) (.slice np3 uX.ns.length nc3) 45)
  have HC1 := Lib.hid (box2_1 w3 (.slice pp3 uX.ps.length pc3) (.slice np3 uX.ns.length nc3) 45)
  have HTU : Hid (TreeAt Any (w3.alloc (.cells #[.slice pp3 uX.ps.length pc3, .slice np3 uX.ns.length nc3] 45)) (.agg #[.slice pp3 uX.ps.length pc3, .slice np3 uX.ns.length nc3]) uX) := TreeAt.keep ⟨_, _, rfl, hP3, hN3⟩ (hu4.kept _)
  have HT4 := Lib.hid (HT2.out.keep (hu34.kept _))
  have HB04 := Lib.hid (hu34.cell HB0.out)
  have HB14 := Lib.hid (hu34.cell HB1.out)
  have HU4 := Lib.hid (HU2.out.trans hu34)
  clear hu3 hu4 hu34 hP3 hN3 HT2 HB0 HB1 HU2
  go_wp2_with fail
  generalize w3.alloc (.cells #[.slice pp3 uX.ps.length pc3, .slice np3 uX.ns.length nc3] 45) = w4 at *
  have hup : Hid (Up w4 (w4.drewN 1)) := Up.drewN w4 1
  go_region_held3 (fun w' => Hid (Up w4 w') ∧ w'.cell? ⟨w1.heap.size, 0, none⟩ = some (.slice pp tX.ps.length pc) ∧ w'.cell? ⟨w1.heap.size, 1, none⟩ = some (.slice np tX.ns.length nc)) (exact ⟨hup, hup.out.cell HB04.out, hup.out.cell HB14.out⟩) (first
    | (go_at_call 109; refine (HF.out _).mono ?_; rintro e w5 ⟨hb5, v5, rfl, hs5⟩; have HS5 := Lib.hid hs5; have hup : Hid (Up w4 w5) := hup.out.trans hb5; clear hb5 hs5)
    | (go_at_call 27; refine (splOf_t Any _ _ _ tX fourX (HT4.out.keep (hup.out.kept _)) HS5.out (by decide) (by decide) tX_small (by decide)).mono ?_; rintro e w6 ⟨hb6, v6, rfl, hr6⟩; rw [tX_of.1]; rw [tX_of.2] at hr6; have HR6 := Lib.hid hr6; have hup : Hid (Up w4 w6) := hup.out.trans hb6; clear hb6 hr6))
  have HU6 := Lib.hid (HU4.out.trans hup.out)
  have HT6 := Lib.hid (HT4.out.keep (hup.out.kept _))
  have HTU6 := Lib.hid (HTU.out.keep (hup.out.kept _))
  have HB06 := Lib.hid (hup.out.cell HB04.out)
  have HB16 := Lib.hid (hup.out.cell HB14.out)
  have HC06 := Lib.hid (hup.out.cell HC0.out)
  have HC16 := Lib.hid (hup.out.cell HC1.out)
  clear hup HT4 HTU HB04 HB14 HC0 HC1 HU4 HS5
  go_wp2_with fail
  have hup : Hid (Up w6 (w6.drewN 1)) := Up.drewN w6 1
  go_region_held3 (fun w' => Hid (Up w6 w') ∧ w'.cell? ⟨w1.heap.size, 0, none⟩ = some (.slice pp tX.ps.length pc) ∧ w'.cell? ⟨w1.heap.size, 1, none⟩ = some (.slice np tX.ns.length nc) ∧ w'.cell? ⟨w3.heap.size, 0, none⟩ = some (.slice pp3 uX.ps.length pc3) ∧ w'.cell? ⟨w3.heap.size, 1, none⟩ = some (.slice np3 uX.ns.length nc3)) (exact ⟨hup, hup.out.cell HB06.out, hup.out.cell HB16.out, hup.out.cell HC06.out, hup.out.cell HC16.out⟩) (first
    | (go_at_call 109; refine (HF.out _).mono ?_; rintro e w7 ⟨hb7, v7, rfl, hs7⟩; have HS7 := Lib.hid hs7; have hup : Hid (Up w6 w7) := hup.out.trans hb7; clear hb7 hs7)
    | (go_at_call 52; refine (distance_t Any _ _ _ _ tX uX fourX (HT6.out.keep (hup.out.kept _)) (HTU6.out.keep (hup.out.kept _)) HS7.out (by decide) (by decide) tX_small (by decide) (by decide) uX_small (by decide)).mono ?_; rintro e w8 ⟨rfl, hb8⟩; rw [tX_ds.1, tX_ds.2]; have hup : Hid (Up w6 w8) := hup.out.trans hb8; clear hb8))
  have HU8 := Lib.hid (HU6.out.trans hup.out)
  have HR8 := Lib.hid (HR6.out.keep (hup.out.kept _))
  have h9 := (Up.alloc w8 (.cells #[.int .i64 1, .int .i64 2] 3)).trans (Up.alloc _ (.cells #[.int .i64 2, .int .i64 3] 3))
  have hA9 := IntsAt.keep (lit_ints w8 #[.int .i64 1, .int .i64 2] 3 [1, 2] rfl 2 rfl) ((Up.alloc (w8.alloc (.cells #[.int .i64 1, .int .i64 2] 3)) (.cells #[.int .i64 2, .int .i64 3] 3)).kept _)
  have hB9 := lit_ints (w8.alloc (.cells #[.int .i64 1, .int .i64 2] 3)) #[.int .i64 2, .int .i64 3] 3 [2, 3] rfl 2 rfl
  have HCP := Lib.hid (compatible_t Any _ _ _ 4 [1, 2] [2, 3] hA9 hB9 (by decide) (by decide))
  have HU9 := Lib.hid (HU8.out.trans h9)
  have HR9 := Lib.hid (HR8.out.keep (h9.kept _))
  rw [World.size_alloc] at HCP
  clear hup h9 hA9 hB9 HT6 HTU6 HB06 HB16 HC06 HC16 HU6 HU8 HR6 HR8 HS7
  go_wp2_with fail
  generalize (w8.alloc (.cells #[.int .i64 1, .int .i64 2] 3)).alloc (.cells #[.int .i64 2, .int .i64 3] 3) = w9 at *
  refine HCP.out.mono ?_
  rintro e w10 ⟨rfl, hu10⟩
  rw [X_cp.1, X_cp.2]
  have HU10 := Lib.hid (HU9.out.trans hu10)
  have HR10 := Lib.hid (HR9.out.keep (hu10.kept _))
  clear hu10 HCP HU9 HR9
  go_wp2_with fail
  refine (HF.out w10).mono ?_
  rintro e w11 ⟨hu11, v11, rfl, hs11⟩
  have h12 := (Up.alloc w11 (.cells #[.int .i64 2, .int .i64 3] 3)).trans (Up.alloc _ (.cells #[.slice (some ⟨w11.heap.size, 0, none⟩) 2 2] 26))
  have HBD := Lib.hid (build_t Any _ _ _ fourX [[2, 3]] (StrsAt.keep hs11 (h12.kept _)) (lit23 w11) (by decide) four_small (by decide) lX_small)
  have HU12 := Lib.hid (HU10.out.trans (hu11.trans h12))
  have HR12 := Lib.hid (HR10.out.keep ((hu11.trans h12).kept _))
  clear hu11 hs11 h12 HU10 HR10
  go_wp2_with fail
  generalize (w11.alloc (.cells #[.int .i64 2, .int .i64 3] 3)).alloc (.cells #[.slice (some ⟨w11.heap.size, 0, none⟩) 2 2] 26) = w12 at *
  refine HBD.out.mono ?_
  rintro e w13 ⟨hu13, v13, rfl, ht13⟩
  rw [X_bld.1]
  rw [X_bld.2] at ht13
  obtain ⟨P5, N5, rfl, hP5, hN5⟩ := ht13
  obtain ⟨pp5, pc5, rfl, _, _⟩ := SlAt.open hP5
  obtain ⟨np5, nc5, rfl, _, _⟩ := SlAt.open hN5
  have hP5 : IntsAt Any w13 (.slice pp5 uX.ps.length pc5) uX.ps := hP5
  have hN5 : StrsAt Any w13 (.slice np5 uX.ns.length nc5) uX.ns := hN5
  have hu14 := Up.alloc w13 (.cells #[.slice pp5 uX.ps.length pc5, .slice np5 uX.ns.length nc5] 45)
  have b0 := box2_0 w13 (.slice pp5 uX.ps.length pc5) (.slice np5 uX.ns.length nc5) 45
  have b1 := box2_1 w13 (.slice pp5 uX.ps.length pc5) (.slice np5 uX.ns.length nc5) 45
  have HT14 : Hid (TreeAt Any (w13.alloc (.cells #[.slice pp5 uX.ps.length pc5, .slice np5 uX.ns.length nc5] 45)) (.agg #[.slice pp5 uX.ps.length pc5, .slice np5 uX.ns.length nc5]) uX) := TreeAt.keep ⟨_, _, rfl, hP5, hN5⟩ (hu14.kept _)
  have HPR := Lib.hid (print_t Any _ _ uX HT14.out (by decide) (by decide) uX_small)
  have HU14 := Lib.hid (HU12.out.trans (hu13.trans hu14))
  have HR14 := Lib.hid (HR12.out.keep ((hu13.trans hu14).kept _))
  clear hu13 hu14 hP5 hN5 HU12 HR12 HBD HT14
  go_wp2_with fail
  generalize w13.alloc (.cells #[.slice pp5 uX.ps.length pc5, .slice np5 uX.ns.length nc5] 45) = w14 at *
  refine HPR.out.mono ?_
  rintro e w15 ⟨hu15, rfl⟩
  rw [uX_tx.1, uX_str]
  obtain ⟨rp, rc, hrv, _, _⟩ := rows_open HR14.out
  subst hrv
  have h16 := (Up.alloc w15 (.cells #[.int .i64 2, .int .i64 3] 3)).trans (Up.alloc _ (.cells #[.slice (some ⟨w15.heap.size, 0, none⟩) 2 2] 26))
  have HSL := Lib.hid (sameLists_t Any Any _ _ _ [[2, 3]] [[2, 3]] (HR14.out.keep ((hu15.trans h16).kept _)) (lit23 w15) (by decide) (by decide) lX_small lX_small)
  have HU16 := Lib.hid (HU14.out.trans (hu15.trans h16))
  clear hu15 h16 b0 b1 HU14 HR14 HPR
  go_wp2_with fail
  generalize (w15.alloc (.cells #[.int .i64 2, .int .i64 3] 3)).alloc (.cells #[.slice (some ⟨w15.heap.size, 0, none⟩) 2 2] 26) = w16 at *
  refine HSL.out.mono ?_
  rintro e w17 ⟨rfl, n17, rfl⟩
  go_wp2_with fail
  go_ret
  exact ⟨ret_bool (by decide), HU16.out.trans (Up.drewN _ _)⟩
end Go.Proofs.YtcbmbhghmfehpaaGreat
namespace Go.Proofs.YtcbmbhghmfehpaaGreat
open Go.RowKit Go.Deep
set_option maxRecDepth 100000 in
set_option maxHeartbeats 8000000 in
theorem sconf_law (w : World) (v u : Value) (names : List ByteArray) (l : List (List Int)) (h : StrsAt Any w v names) (h2 : RowsAt Any w u l) (hn : names.length ≤ 9223372036854775807) (hz : ∀ k, (gs names k).size ≤ 9223372036854775807) (hln : l.length ≤ 9223372036854775807) (hr : ∀ k, (gl l k).length ≤ 9223372036854775807) :
    Calls Tryz.prog 9 #[v, u] w fun e w' => e = .returned (.bool true) ∧ Up w w' := by
  have HSM := Lib.hid (small32_t Any Any w v u names l h h2 hn hz hln hr)
  have HAW := Lib.hid awake32_t
  obtain ⟨np, nc, rfl, _, _⟩ := SlAt.open h
  obtain ⟨lp, lc, rfl, _, _⟩ := rows_open h2
  have HN := Lib.hid h
  have HL := Lib.hid h2
  clear h h2 hz hr
  cases hs : sm32B names l
  · rw [hs] at HSM
    clear hs
    go_enter Tryz.func9, Tryz.ntmps9
    go_wp2_with (first | (go_at_call 54; refine HSM.out.mono ?_; rintro e w1 ⟨rfl, hu1⟩) | (go_at_call 47; refine (HAW.out _).mono ?_; rintro e w' ⟨rfl, hu⟩) | fail)
    go_ret
    exact ⟨rfl, hu1.trans hu⟩
  · obtain ⟨n9, z20, l7, r12⟩ := sm32_ok hs
    rw [hs] at HSM
    have hn9 : (names.length : Int) ≤ 9 := by omega
    have HBD : Hid (∀ W, Up w W → Calls Tryz.prog 39 #[.slice np names.length nc, .slice lp l.length lc] W (BdPost W names l)) := fun W hW => build_t Any W _ _ names l (StrsAt.keep HN.out (hW.kept _)) (RowsAt.keep HL.out (hW.kept _)) (by omega) (fun k => Nat.le_trans (z20 k) (by decide)) (by omega) (fun k => Nat.le_trans (r12 k) (by decide))
    have HAL : Hid (∀ W, Up w W → Calls Tryz.prog 38 #[.int .i64 (names.length : Int), .slice lp l.length lc] W fun e w' => e = .returned (.tuple #[.int .i64 (alP names.length l), .int .i64 (alQ names.length l), .bool (alB names.length l), .int .i64 (allErr names.length l)]) ∧ Up W w') := fun W hW => all_t Any W _ _ l (RowsAt.keep HL.out (hW.kept _)) (by omega) (fun k => Nat.le_trans (r12 k) (by decide))
    have HCO : Hid (∀ W a b x y, IntsAt Any W x (gl l a) → IntsAt Any W y (gl l b) → Calls Tryz.prog 24 #[.int .i64 (names.length : Int), x, y] W fun e w' => e = .returned (.tuple #[.bool (cpB names.length (gl l a) (gl l b)), .int .i64 (cpErr names.length (gl l a) (gl l b))]) ∧ Up W w') := fun W a b x y hx hy => compatible_t Any W _ _ _ _ _ hx hy (Nat.le_trans (r12 a) (by decide)) (Nat.le_trans (r12 b) (by decide))
    have l7' : (l.length : Int) ≤ 7 := by omega
    clear hs z20 r12 hn hln
    go_enter Tryz.func9, Tryz.ntmps9
    go_wp2_with fail
    refine HSM.out.mono ?_
    rintro e w1 ⟨rfl, hu1⟩
    have HU1 := Lib.hid hu1
    clear hu1 HSM
    go_wp2_with fail
    refine (HBD.out w1 HU1.out).mono ?_
    rintro e w2 ⟨hu2, bv, rfl, htb⟩
    obtain ⟨BP, BN, rfl, hBP, hBN⟩ := htb
    obtain ⟨bp, bc, rfl, _, _⟩ := SlAt.open hBP
    obtain ⟨cp, cc, rfl, _, _⟩ := SlAt.open hBN
    have HU2 := Lib.hid ((HU1.out.trans hu2).trans (Up.alloc w2 (.cells #[.slice bp (bldR names l).ps.length bc, .slice cp (bldR names l).ns.length cc] 45)))
    clear hu2 hBP hBN HU1 HBD
    generalize (bldR names l).ps.length = xx at *
    generalize (bldR names l).ns.length = yy at *
    by_cases h017 : bldErr names l = 0 ∨ bldErr names l = 17
    · obtain ⟨c1, c2, c3, c4, c5, c6⟩ := conf_law h017
      have C1 := Lib.hid c1
      have C4 := Lib.hid c4
      have C5 := Lib.hid c5
      have C6 := Lib.hid c6
      rcases h017 with e0 | e0
      all_goals
        rw [e0] at c2
        have c2 : alB names.length l = _ := c2.trans (by first | exact decide_eq_true rfl | exact decide_eq_false (by decide))
        rw [e0]
        rw [c2] at C5 C6 HAL
        rw [c1] at HAL
        clear c1 c2 c3 c4 c5 c6 e0
        go_wp2_with fail
        generalize w2.alloc (.cells #[.slice bp xx bc, .slice cp yy cc] 45) = w3 at *
        refine (HAL.out w3 HU2.out).mono ?_
        rintro e w4 ⟨rfl, hu4⟩
        have HU4 := Lib.hid (HU2.out.trans hu4)
        clear hu4 HAL HU2
        generalize alP names.length l = Pi at *
        generalize alQ names.length l = Qk at *
        go_wp2_with fail
        go_loopw [11, 12, 13, 14, 52] (fun _ _ _ _ i wr => ∃ k : Nat, k ≤ l.length ∧ i = .int .i64 k ∧ Hid (Up w wr)) (fun _ _ _ _ i _ => l.length - (intOf i).toNat)
        case atStart => exact ⟨0, Nat.zero_le _, rfl, HU4.out⟩
        case round =>
          obtain ⟨i, hi, rfl, hU⟩ := hrel
          obtain ⟨wo, rfl⟩ : ∃ wo : World, wo = wr := ⟨_, rfl⟩
          by_cases hlt : i < l.length
          · have i1 : (0 : Int) ≤ (i : Int) := Int.natCast_nonneg _
            have i2 : (i : Int) < (l.length : Int) := Int.ofNat_lt.2 hlt
            have i3 : (i : Int) < 1000 := by omega
            go_wp2_with fail
            go_loopw [12, 13, 14] (fun i2 _ _ wr => ∃ k : Nat, i + 1 ≤ k ∧ k ≤ l.length ∧ i2 = .int .i64 k ∧ Hid (Up w wr)) (fun i2 _ _ _ => l.length - (intOf i2).toNat)
            case atStart => exact ⟨i + 1, Nat.le_refl _, by omega, by go_num, hU⟩
            case round =>
              obtain ⟨k, hk0, hk, rfl, hU2⟩ := hrel
              obtain ⟨wq, rfl⟩ : ∃ wq : World, wq = wr := ⟨_, rfl⟩
              by_cases hklt : k < l.length
              · obtain ⟨b, off, q, c, rfl, hc, hr⟩ := rows_get HL.out hlt
                obtain ⟨b2, off2, q2, c2, e2, hc2, hr2⟩ := rows_get HL.out hklt
                cases e2
                have HC1 := Lib.hid (hU2.out.cell hc)
                have HC2 := Lib.hid (hU2.out.cell hc2)
                have k1 : (0 : Int) ≤ (k : Int) := Int.natCast_nonneg _
                have k2 : (k : Int) < (l.length : Int) := Int.ofNat_lt.2 hklt
                have k3 : (k : Int) < 1000 := by omega
                have HCK : Hid (∀ W, Up wq W → Calls Tryz.prog 24 #[.int .i64 (names.length : Int), .slice q (gl l i).length c, .slice q2 (gl l k).length c2] W fun e w' => e = .returned (.tuple #[.bool (cpB names.length (gl l i) (gl l k)), .int .i64 (cpErr names.length (gl l i) (gl l k))]) ∧ Up W w') := fun W hW =>
                  HCO.out W i k _ _ (IntsAt.keep hr ((hU2.out.trans hW).kept _)) (IntsAt.keep hr2 ((hU2.out.trans hW).kept _))
                have HIK : Hid (i + 1 ≤ k) := hk0
                have HZE := Lib.hid (C4.out i k (by omega) hklt)
                have HP := Lib.hid (C5.out i k (by omega) hklt)
                have HM := Lib.hid (C6.out i k (by omega) hklt)
                rw [HZE.out] at HCK
                clear hc hc2 hr hr2 HZE
                have hup : Hid (Up wq (wq.drewN 1)) := Up.drewN wq 1
                generalize cpB names.length (gl l i) (gl l k) = cb at *
                generalize (gl l i).length = x at *
                generalize (gl l k).length = y at *
                go_wp2_with fail
                go_region_held3 (fun w' => Hid (Up wq w') ∧ w'.cell? ⟨b, off + i, none⟩ = some (.slice q x c) ∧ w'.cell? ⟨b, off + k, none⟩ = some (.slice q2 y c2)) (exact ⟨hup, hup.out.cell HC1.out, hup.out.cell HC2.out⟩) (first
                  | (go_at_call 24; refine (HCK.out _ hup.out).mono ?_; rintro e w9 ⟨rfl, hb9⟩; have hup : Hid (Up wq w9) := hup.out.trans hb9; clear hb9))
                have HU3 : Hid (Up w _) := hU2.out.trans hup.out
                clear hup HCK HC1 HC2
                have HMK := Lib.hid hk
                cases cb
                · obtain ⟨m1, m2, m3⟩ := HM.out rfl
                  by_cases t2 : (i : Int) = Pi
                  · have e1 : decide ((i : Int) < Pi) = false := decide_eq_false (by omega)
                    have e2 : ((i : Int) == Pi) = true := by simpa using t2
                    have e3 : decide ((k : Int) < Qk) = false := decide_eq_false fun e => m3 ⟨t2, e⟩
                    clear t2 m1 m2 m3
                    first
                    | (exfalso; exact Bool.noConfusion (HM.out rfl).1)
                    | (go_wp2_with fail
                       go_roundw
                       case rel => exact ⟨k + 1, by have := HIK.out; omega, by omega, by go_num, HU3⟩
                       case measure => simp [intOf]; omega)
                  · have e1 : decide ((i : Int) < Pi) = false := decide_eq_false (by omega)
                    have e2 : ((i : Int) == Pi) = false := by simpa using t2
                    clear t2 m1 m2 m3
                    first
                    | (exfalso; exact Bool.noConfusion (HM.out rfl).1)
                    | (go_wp2_with fail
                       go_roundw
                       case rel => exact ⟨k + 1, by have := HIK.out; omega, by omega, by go_num, HU3⟩
                       case measure => simp [intOf]; omega)
                · by_cases t2 : (i : Int) = Pi
                  · by_cases t3 : (k : Int) = Qk
                    · first
                      | (exfalso; first | exact HP.out rfl rfl ⟨t2, t3⟩ | exact HP.out rfl trivial ⟨t2, t3⟩)
                      | (have e2 : ((i : Int) == Pi) = true := by simpa using t2
                         have e3 : ((k : Int) == Qk) = true := by simpa using t3
                         clear t2 t3
                         go_wp2_with fail
                         go_roundw
                         case rel => exact ⟨k + 1, by have := HIK.out; omega, by omega, by go_num, HU3⟩
                         case measure => simp [intOf]; omega)
                    · have e2 : ((i : Int) == Pi) = true := by simpa using t2
                      have e3 : ((k : Int) == Qk) = false := by simpa using t3
                      clear t2 t3
                      go_wp2_with fail
                      go_roundw
                      case rel => exact ⟨k + 1, by have := HIK.out; omega, by omega, by go_num, HU3⟩
                      case measure => simp [intOf]; omega
                  · have e2 : ((i : Int) == Pi) = false := by simpa using t2
                    clear t2
                    go_wp2_with fail
                    go_roundw
                    case rel => exact ⟨k + 1, by have := HIK.out; omega, by omega, by go_num, HU3⟩
                    case measure => simp [intOf]; omega
              · obtain rfl : k = l.length := by omega
                go_wp2_with fail
                go_roundw
                case rel => exact ⟨i + 1, by omega, by go_num, hU2⟩
                case measure => simp [intOf]; omega
          · obtain rfl : i = l.length := by omega
            have HUo := Lib.hid hU.out
            clear hlt hi hU
            go_wp2_with fail
            refine (HAW.out _).mono ?_
            rintro e w' ⟨rfl, hu⟩
            go_wp2_with fail
            go_ret
            exact ⟨rfl, HUo.out.trans hu⟩
    · have d1 : (bldErr names l != 0) = true := by simpa using fun e => h017 (.inl e)
      have d2 : (bldErr names l != 17) = true := by simpa using fun e => h017 (.inr e)
      clear h017
      generalize bldErr names l = z at *
      go_wp2_with (go_at_call 47; refine (HAW.out _).mono ?_; rintro e w' ⟨rfl, hu⟩)
      go_ret
      exact ⟨rfl, HU2.out.trans hu⟩
end Go.Proofs.YtcbmbhghmfehpaaGreat
