/- The example of chapter 32: awake. intset.Check and split.Check of lists of any size. The walk of SplitChecks. -/
import Derived.Test.YtcbmbhghmfehpaaGreatQ32
import Derived.Test.YtcbmbhghmfehpaaGreatQ31
import Derived.Test.YtcbmbhghmfehpaaGreatQ34
import Derived.Test.YtcbmbhghmfehpaaGreatQ20
import Derived.Test.YtcbmbhghmfehpaaGreatQ17
import Derived.Deep.RegionHeld3
import Derived.Test.YtcbmbhghmfehpaaGreatQ22
import Derived.Test.YtcbmbhghmfehpaaGreatQ25
namespace Go.Proofs.YtcbmbhghmfehpaaGreat
open Go.RowKit Go.Deep
@[go_sem high] theorem run_max7z (w : World) (ts : Array TypeId) (t : TypeId) (k : IntKind) : (Builtin.max_ ts t #[.int k 0, .int k 0, .int k 0, .int k 0, .int k 0, .int k 0, .int k 0]).run Tryz.prog w = .ok (.int k 0) w := by
  simp [Builtin.max_, Builtin.max2]
theorem get_small32 {α : Type} {P : α → Prop} {l : List α} {d : α} (h : ∀ x ∈ l, P x) (hd : P d) (k : Nat) : P (l.getD k d) := by
  by_cases hk : k < l.length
  · have : l.getD k d = l[k] := by simp [hk]
    rw [this]; exact h _ (List.getElem_mem hk)
  · have : l.getD k d = d := by simp [show l.length ≤ k by omega]
    rw [this]; exact hd
theorem tX_small (k : Nat) : (gs tX.ns k).size ≤ 70000 := get_small32 (P := fun x : ByteArray => x.size ≤ 70000) (by decide) (by decide) k
theorem uX_small (k : Nat) : (gs uX.ns k).size ≤ 70000 := get_small32 (P := fun x : ByteArray => x.size ≤ 70000) (by decide) (by decide) k
theorem four_small (k : Nat) : (gs fourX k).size ≤ 70000 := get_small32 (P := fun x : ByteArray => x.size ≤ 70000) (by decide) (by decide) k
theorem lX_small (k : Nat) : (gl [[2, 3]] k).length ≤ 1000000 := get_small32 (P := fun x : List Int => x.length ≤ 1000000) (by decide) (by decide) k
theorem uX_str : (⟨(txT uX).toArray⟩ : ByteArray) = ⟨#[40, 65, 44, 40, 66, 44, 40, 67, 44, 68, 41, 41, 41, 59]⟩ := by rw [uX_tx.2]
theorem lit23 (w : World) : RowsAt Any ((w.alloc (.cells #[.int .i64 2, .int .i64 3] 3)).alloc (.cells #[.slice (some ⟨w.heap.size, 0, none⟩) 2 2] 26)) (.slice (some ⟨w.heap.size + 1, 0, none⟩) 1 1) [[2, 3]] := by
  have h1 := lit_ints w #[.int .i64 2, .int .i64 3] 3 [2, 3] rfl 2 rfl
  refine ⟨fun _ => .slice (some ⟨w.heap.size, 0, none⟩) 2 2, ⟨_, _, rfl, Nat.le_refl _, .inr ⟨_, 0, rfl, trivial, fun k hk => ?_⟩⟩, fun k hk => ?_⟩
  · have hk0 : k < 1 := hk
    obtain rfl : k = 0 := by omega
    have h := box1_0 (w.alloc (.cells #[.int .i64 2, .int .i64 3] 3)) (.slice (some ⟨w.heap.size, 0, none⟩) 2 2) 26
    rwa [World.size_alloc] at h
  · have hk0 : k < 1 := hk
    obtain rfl : k = 0 := by omega
    exact IntsAt.keep h1 ((Up.alloc _ _).kept _)
set_option maxRecDepth 100000 in
set_option maxHeartbeats 4000000 in
theorem awake32_t (w : World) : Calls Tryz.prog 47 #[] w fun e w' => e = .returned (.bool true) ∧ Up w w' := by
  have HP1 : Hid (Calls Tryz.prog 108 #[.string tXs] w (PaPost w tXs)) := parse_t w tXs (by decide) (ia_ok tXs (by decide))
  have HF := Lib.hid four_t
  go_enter Tryz.func47, Tryz.ntmps47
  go_wp2_with fail
  refine HP1.out.mono ?_
  rintro e w1 ⟨hu1, v1, rfl, ht1⟩
  rw [tX_par.1]
  rw [tX_par.2] at ht1
  obtain ⟨P1, N1, rfl, hP1, hN1⟩ := ht1
  obtain ⟨pp, pc, rfl, _, _⟩ := SlAt.open hP1
  obtain ⟨np, nc, rfl, _, _⟩ := SlAt.open hN1
  have hP1 : IntsAt Any w1 (.slice pp tX.ps.length pc) tX.ps := hP1
  have hN1 : StrsAt Any w1 (.slice np tX.ns.length nc) tX.ns := hN1
  have hu2 := Up.alloc w1 (.cells #[.slice pp tX.ps.length pc, .slice np tX.ns.length nc] 45)
  have HB0 := Lib.hid (box2_0 w1 (.slice pp tX.ps.length pc) (.slice np tX.ns.length nc) 45)
  have HB1 := Lib.hid (box2_1 w1 (.slice pp tX.ps.length pc) (.slice np tX.ns.length nc) 45)
  have HT2 : Hid (TreeAt Any (w1.alloc (.cells #[.slice pp tX.ps.length pc, .slice np tX.ns.length nc] 45)) (.agg #[.slice pp tX.ps.length pc, .slice np tX.ns.length nc]) tX) := TreeAt.keep ⟨_, _, rfl, hP1, hN1⟩ (hu2.kept _)
  have HU2 := Lib.hid (hu1.trans hu2)
  clear hu1 hu2 hP1 hN1 HP1
  go_wp2_with fail
  generalize w1.alloc (.cells #[.slice pp tX.ps.length pc, .slice np tX.ns.length nc] 45) = w2 at *
  refine (parse_t w2 uXs (by decide) (ia_ok uXs (by decide))).mono ?_
  rintro e w3 ⟨hu3, v3, rfl, ht3⟩
  rw [uX_par.1]
  rw [uX_par.2] at ht3
  obtain ⟨P3, N3, rfl, hP3, hN3⟩ := ht3
  obtain ⟨pp3, pc3, rfl, _, _⟩ := SlAt.open hP3
  obtain ⟨np3, nc3, rfl, _, _⟩ := SlAt.open hN3
  have hP3 : IntsAt Any w3 (.slice pp3 uX.ps.length pc3) uX.ps := hP3
  have hN3 : StrsAt Any w3 (.slice np3 uX.ns.length nc3) uX.ns := hN3
  have hu4 := Up.alloc w3 (.cells #[.slice pp3 uX.ps.length pc3, .slice np3 uX.ns.length nc3] 45)
  have hu34 := hu3.trans hu4
  have HC0 := Lib.hid (box2_0 w3 (.slice pp3 uX.ps.length pc3) (.slice np3 uX.ns.length nc3) 45)
  have HC1 := Lib.hid (box2_1 w3 (.slice pp3 uX.ps.length pc3) (.slice np3 uX.ns.length nc3) 45)
  have HTU : Hid (TreeAt Any (w3.alloc (.cells #[.slice pp3 uX.ps.length pc3, .slice np3 uX.ns.length nc3] 45)) (.agg #[.slice pp3 uX.ps.length pc3, .slice np3 uX.ns.length nc3]) uX) := TreeAt.keep ⟨_, _, rfl, hP3, hN3⟩ (hu4.kept _)
  have HT4 := Lib.hid (HT2.out.keep (hu34.kept _))
  have HB04 := Lib.hid (hu34.cell HB0.out)
  have HB14 := Lib.hid (hu34.cell HB1.out)
  have HU4 := Lib.hid (HU2.out.trans hu34)
  clear hu3 hu4 hu34 hP3 hN3 HT2 HB0 HB1 HU2
  go_wp2_with fail
  generalize w3.alloc (.cells #[.slice pp3 uX.ps.length pc3, .slice np3 uX.ns.length nc3] 45) = w4 at *
  have hup : Hid (Up w4 (w4.drewN 1)) := Up.drewN w4 1
  go_region_held3 (fun w' => Hid (Up w4 w') ∧ w'.cell? ⟨w1.heap.size, 0, none⟩ = some (.slice pp tX.ps.length pc) ∧ w'.cell? ⟨w1.heap.size, 1, none⟩ = some (.slice np tX.ns.length nc)) (exact ⟨hup, hup.out.cell HB04.out, hup.out.cell HB14.out⟩) (first
    | (go_at_call 109; refine (HF.out _).mono ?_; rintro e w5 ⟨hb5, v5, rfl, hs5⟩; have HS5 := Lib.hid hs5; have hup : Hid (Up w4 w5) := hup.out.trans hb5; clear hb5 hs5)
    | (go_at_call 27; refine (splOf_t Any _ _ _ tX fourX (HT4.out.keep (hup.out.kept _)) HS5.out (by decide) (by decide) tX_small (by decide)).mono ?_; rintro e w6 ⟨hb6, v6, rfl, hr6⟩; rw [tX_of.1]; rw [tX_of.2] at hr6; have HR6 := Lib.hid hr6; have hup : Hid (Up w4 w6) := hup.out.trans hb6; clear hb6 hr6))
  have HU6 := Lib.hid (HU4.out.trans hup.out)
  have HT6 := Lib.hid (HT4.out.keep (hup.out.kept _))
  have HTU6 := Lib.hid (HTU.out.keep (hup.out.kept _))
  have HB06 := Lib.hid (hup.out.cell HB04.out)
  have HB16 := Lib.hid (hup.out.cell HB14.out)
  have HC06 := Lib.hid (hup.out.cell HC0.out)
  have HC16 := Lib.hid (hup.out.cell HC1.out)
  clear hup HT4 HTU HB04 HB14 HC0 HC1 HU4 HS5
  go_wp2_with fail
  have hup : Hid (Up w6 (w6.drewN 1)) := Up.drewN w6 1
  go_region_held3 (fun w' => Hid (Up w6 w') ∧ w'.cell? ⟨w1.heap.size, 0, none⟩ = some (.slice pp tX.ps.length pc) ∧ w'.cell? ⟨w1.heap.size, 1, none⟩ = some (.slice np tX.ns.length nc) ∧ w'.cell? ⟨w3.heap.size, 0, none⟩ = some (.slice pp3 uX.ps.length pc3) ∧ w'.cell? ⟨w3.heap.size, 1, none⟩ = some (.slice np3 uX.ns.length nc3)) (exact ⟨hup, hup.out.cell HB06.out, hup.out.cell HB16.out, hup.out.cell HC06.out, hup.out.cell HC16.out⟩) (first
    | (go_at_call 109; refine (HF.out _).mono ?_; rintro e w7 ⟨hb7, v7, rfl, hs7⟩; have HS7 := Lib.hid hs7; have hup : Hid (Up w6 w7) := hup.out.trans hb7; clear hb7 hs7)
    | (go_at_call 52; refine (distance_t Any _ _ _ _ tX uX fourX (HT6.out.keep (hup.out.kept _)) (HTU6.out.keep (hup.out.kept _)) HS7.out (by decide) (by decide) tX_small (by decide) (by decide) uX_small (by decide)).mono ?_; rintro e w8 ⟨rfl, hb8⟩; rw [tX_ds.1, tX_ds.2]; have hup : Hid (Up w6 w8) := hup.out.trans hb8; clear hb8))
  have HU8 := Lib.hid (HU6.out.trans hup.out)
  have HR8 := Lib.hid (HR6.out.keep (hup.out.kept _))
  have h9 := (Up.alloc w8 (.cells #[.int .i64 1, .int .i64 2] 3)).trans (Up.alloc _ (.cells #[.int .i64 2, .int .i64 3] 3))
  have hA9 := IntsAt.keep (lit_ints w8 #[.int .i64 1, .int .i64 2] 3 [1, 2] rfl 2 rfl) ((Up.alloc (w8.alloc (.cells #[.int .i64 1, .int .i64 2] 3)) (.cells #[.int .i64 2, .int .i64 3] 3)).kept _)
  have hB9 := lit_ints (w8.alloc (.cells #[.int .i64 1, .int .i64 2] 3)) #[.int .i64 2, .int .i64 3] 3 [2, 3] rfl 2 rfl
  have HCP := Lib.hid (compatible_t Any _ _ _ 4 [1, 2] [2, 3] hA9 hB9 (by decide) (by decide))
  have HU9 := Lib.hid (HU8.out.trans h9)
  have HR9 := Lib.hid (HR8.out.keep (h9.kept _))
  rw [World.size_alloc] at HCP
  clear hup h9 hA9 hB9 HT6 HTU6 HB06 HB16 HC06 HC16 HU6 HU8 HR6 HR8 HS7
  go_wp2_with fail
  generalize (w8.alloc (.cells #[.int .i64 1, .int .i64 2] 3)).alloc (.cells #[.int .i64 2, .int .i64 3] 3) = w9 at *
  refine HCP.out.mono ?_
  rintro e w10 ⟨rfl, hu10⟩
  rw [X_cp.1, X_cp.2]
  have HU10 := Lib.hid (HU9.out.trans hu10)
  have HR10 := Lib.hid (HR9.out.keep (hu10.kept _))
  clear hu10 HCP HU9 HR9
  go_wp2_with fail
  refine (HF.out w10).mono ?_
  rintro e w11 ⟨hu11, v11, rfl, hs11⟩
  have h12 := (Up.alloc w11 (.cells #[.int .i64 2, .int .i64 3] 3)).trans (Up.alloc _ (.cells #[.slice (some ⟨w11.heap.size, 0, none⟩) 2 2] 26))
  have HBD := Lib.hid (build_t Any _ _ _ fourX [[2, 3]] (StrsAt.keep hs11 (h12.kept _)) (lit23 w11) (by decide) four_small (by decide) lX_small)
  have HU12 := Lib.hid (HU10.out.trans (hu11.trans h12))
  have HR12 := Lib.hid (HR10.out.keep ((hu11.trans h12).kept _))
  clear hu11 hs11 h12 HU10 HR10
  go_wp2_with fail
  generalize (w11.alloc (.cells #[.int .i64 2, .int .i64 3] 3)).alloc (.cells #[.slice (some ⟨w11.heap.size, 0, none⟩) 2 2] 26) = w12 at *
  refine HBD.out.mono ?_
  rintro e w13 ⟨hu13, v13, rfl, ht13⟩
  rw [X_bld.1]
  rw [X_bld.2] at ht13
  obtain ⟨P5, N5, rfl, hP5, hN5⟩ := ht13
  obtain ⟨pp5, pc5, rfl, _, _⟩ := SlAt.open hP5
  obtain ⟨np5, nc5, rfl, _, _⟩ := SlAt.open hN5
  have hP5 : IntsAt Any w13 (.slice pp5 uX.ps.length pc5) uX.ps := hP5
  have hN5 : StrsAt Any w13 (.slice np5 uX.ns.length nc5) uX.ns := hN5
  have hu14 := Up.alloc w13 (.cells #[.slice pp5 uX.ps.length pc5, .slice np5 uX.ns.length nc5] 45)
  have b0 := box2_0 w13 (.slice pp5 uX.ps.length pc5) (.slice np5 uX.ns.length nc5) 45
  have b1 := box2_1 w13 (.slice pp5 uX.ps.length pc5) (.slice np5 uX.ns.length nc5) 45
  have HT14 : Hid (TreeAt Any (w13.alloc (.cells #[.slice pp5 uX.ps.length pc5, .slice np5 uX.ns.length nc5] 45)) (.agg #[.slice pp5 uX.ps.length pc5, .slice np5 uX.ns.length nc5]) uX) := TreeAt.keep ⟨_, _, rfl, hP5, hN5⟩ (hu14.kept _)
  have HPR := Lib.hid (print_t Any _ _ uX HT14.out (by decide) (by decide) uX_small)
  have HU14 := Lib.hid (HU12.out.trans (hu13.trans hu14))
  have HR14 := Lib.hid (HR12.out.keep ((hu13.trans hu14).kept _))
  clear hu13 hu14 hP5 hN5 HU12 HR12 HBD HT14
  go_wp2_with fail
  generalize w13.alloc (.cells #[.slice pp5 uX.ps.length pc5, .slice np5 uX.ns.length nc5] 45) = w14 at *
  refine HPR.out.mono ?_
  rintro e w15 ⟨hu15, rfl⟩
  rw [uX_tx.1, uX_str]
  obtain ⟨rp, rc, hrv, _, _⟩ := rows_open HR14.out
  subst hrv
  have h16 := (Up.alloc w15 (.cells #[.int .i64 2, .int .i64 3] 3)).trans (Up.alloc _ (.cells #[.slice (some ⟨w15.heap.size, 0, none⟩) 2 2] 26))
  have HSL := Lib.hid (sameLists_t Any Any _ _ _ [[2, 3]] [[2, 3]] (HR14.out.keep ((hu15.trans h16).kept _)) (lit23 w15) (by decide) (by decide) lX_small lX_small)
  have HU16 := Lib.hid (HU14.out.trans (hu15.trans h16))
  clear hu15 h16 b0 b1 HU14 HR14 HPR
  go_wp2_with fail
  generalize (w15.alloc (.cells #[.int .i64 2, .int .i64 3] 3)).alloc (.cells #[.slice (some ⟨w15.heap.size, 0, none⟩) 2 2] 26) = w16 at *
  refine HSL.out.mono ?_
  rintro e w17 ⟨rfl, n17, rfl⟩
  go_wp2_with fail
  go_ret
  exact ⟨ret_bool (by decide), HU16.out.trans (Up.drewN _ _)⟩
end Go.Proofs.YtcbmbhghmfehpaaGreat
namespace Go.Proofs.YtcbmbhghmfehpaaGreat
open Go.RowKit Go.Deep
end Go.Proofs.YtcbmbhghmfehpaaGreat
namespace Go.Proofs.YtcbmbhghmfehpaaGreat
open Go.RowKit Go.Deep
theorem ne_d (S : Nat → Prop) (w : World) (v : Value) (xs : List Int) (h : IntsAt S w v xs) : FnD 61 #[] #[v] (.bool (decide (0 < xs.length))) w := by
  intro m
  show Calls Tryz.prog 61 #[v] (w.drewN m) _
  obtain ⟨W, hW⟩ : ∃ W, W = w.drewN m := ⟨_, rfl⟩
  have HW := Lib.hid hW
  rw [← hW]
  clear hW
  obtain ⟨p, cap, rfl, hcap, _⟩ := SlAt.open h
  clear h hcap
  go_enter Tryz.func61, Tryz.ntmps61
  go_wp2_with fail
  go_ret
  exact ⟨ret_bool (by simp), m, HW.out⟩
def neL (l : List (List Int)) : Bool := (List.range l.length).any fun k => decide (0 < (gl l k).length)
theorem ne_has (S : Nat → Prop) (w : World) (v : Value) (l : List (List Int)) (h : RowsAt S w v l) (hn : l.length ≤ 1000000) :
    Calls Tryz.prog 20 #[v, .func (.func 61) #[] #[]] w fun e w' => e = .returned (.bool (neL l)) ∧ ∃ q, w' = w.drewN q := by
  obtain ⟨f, hf1, hf2⟩ := h
  exact rows_has_d 61 #[] (enters_of Tryz.func61 (by kernel_rfl) rfl) S w v l.length f (fun k => decide (0 < (gl l k).length)) hf1 hn fun k hk => ne_d S w _ _ (hf2 k hk)
set_option maxRecDepth 100000 in
set_option maxHeartbeats 8000000 in
theorem schk_law (w : World) (n : Int) (v u vl vs : Value) (a b : List Int) (l : List (List Int)) (st : List Int) (h : IntsAt Any w v a) (h2 : IntsAt Any w u b) (hL : RowsAt Any w vl l) (hS : IntsAt Any w vs st)
    (hn : a.length ≤ 9223372036854775807) (hm : b.length ≤ 9223372036854775807) (hln : l.length ≤ 9223372036854775807) (hr : ∀ k, (gl l k).length ≤ 9223372036854775807) (hsn : st.length ≤ 9223372036854775807) :
    Calls Tryz.prog 11 #[.int .i64 n, v, u, vl, vs] w fun e w' => e = .returned (.bool true) ∧ Up w w' := by
  have HAW := Lib.hid awake32_t
  obtain ⟨pp, pc, rfl, _, _⟩ := SlAt.open h
  obtain ⟨qp, qc, rfl, _, _⟩ := SlAt.open h2
  obtain ⟨lp, lc, rfl, _, _⟩ := rows_open hL
  obtain ⟨sp, sc, rfl, _, _⟩ := SlAt.open hS
  have H1 := Lib.hid (great04_t Any w _ a h hn)
  have H2 := Lib.hid (great04_t Any w _ b h2 hm)
  have H3 : Hid (l.length ≤ 66 → Calls Tryz.prog 20 #[.slice lp l.length lc, .func (.func 61) #[] #[]] w fun e w' => e = .returned (.bool (neL l)) ∧ ∃ q, w' = w.drewN q) := fun h66 => ne_has Any w _ l hL (by omega)
  have H4 : Hid (l.length ≤ 66 → ∀ W, Up w W → Calls Tryz.prog 20 #[.slice lp l.length lc, .func (.func 46) #[] #[]] W fun e w' => e = .returned (.bool (grL l)) ∧ ∃ q, w' = W.drewN q) := fun h66 W hW => great04_has Any W _ l (RowsAt.keep hL (hW.kept _)) (by omega) hr
  have HA := Lib.hid h
  have HB := Lib.hid h2
  have HL := Lib.hid hL
  have HS := Lib.hid hS
  clear h h2 hL hS hr
  by_cases gA : 12 < a.length
  · rw [decide_eq_true gA] at H1
    clear gA
    go_enter Tryz.func11, Tryz.ntmps11
    go_wp2_with fail
    refine H1.out.mono ?_
    rintro e w1 ⟨rfl, rfl⟩
    go_wp2_with fail
    refine (HAW.out _).mono ?_
    rintro e w' ⟨rfl, hu⟩
    go_wp2_with fail
    go_ret
    exact ⟨rfl, hu⟩
  rw [decide_eq_false gA] at H1
  by_cases gB : 12 < b.length
  · rw [decide_eq_true gB] at H2
    clear gA gB
    go_enter Tryz.func11, Tryz.ntmps11
    go_wp2_with fail
    refine H1.out.mono ?_
    rintro e w1 ⟨rfl, rfl⟩
    go_wp2_with fail
    refine H2.out.mono ?_
    rintro e w1 ⟨rfl, rfl⟩
    go_wp2_with fail
    refine (HAW.out _).mono ?_
    rintro e w' ⟨rfl, hu⟩
    go_wp2_with fail
    go_ret
    exact ⟨rfl, hu⟩
  rw [decide_eq_false gB] at H2
  by_cases g66 : 66 < l.length
  · have d3 : decide ((66 : Int) < (l.length : Int)) = true := decide_eq_true (by omega)
    clear gA gB g66
    go_enter Tryz.func11, Tryz.ntmps11
    go_wp2_with fail
    refine H1.out.mono ?_
    rintro e w1 ⟨rfl, rfl⟩
    go_wp2_with fail
    refine H2.out.mono ?_
    rintro e w1 ⟨rfl, rfl⟩
    go_wp2_with fail
    refine (HAW.out _).mono ?_
    rintro e w' ⟨rfl, hu⟩
    go_wp2_with fail
    go_ret
    exact ⟨rfl, hu⟩
  have d3 : decide ((66 : Int) < (l.length : Int)) = false := decide_eq_false (by omega)
  have H5 := Lib.hid (H3.out (by omega))
  have H6 := Lib.hid (H4.out (by omega))
  have hl66 : l.length ≤ 66 := by omega
  have ha12 : a.length ≤ 12 := by omega
  have hb12 : b.length ≤ 12 := by omega
  clear gA gB g66 H3 H4
  by_cases g7 : 7 < l.length
  · have d4 : decide ((7 : Int) < (l.length : Int)) = true := decide_eq_true (by omega)
    go_enter Tryz.func11, Tryz.ntmps11
    go_wp2_with fail
    refine H1.out.mono ?_
    rintro e w1 ⟨rfl, rfl⟩
    go_wp2_with fail
    refine H2.out.mono ?_
    rintro e w1 ⟨rfl, rfl⟩
    go_wp2_with fail
    refine H5.out.mono ?_
    rintro e wq ⟨rfl, q2, hw2⟩
    have hq : QD w wq := ⟨q2, hw2⟩
    clear hw2 H5
    cases gN : neL l
    case true =>
      have HUQ := Lib.hid hq.up
      go_wp2_with fail
      refine (HAW.out _).mono ?_
      rintro e w' ⟨rfl, hu⟩
      go_wp2_with fail
      go_ret
      exact ⟨rfl, HUQ.out.trans hu⟩
    clear gN
    have HUQ := Lib.hid hq
    clear hq
    go_wp2_with fail
    have HX := Lib.hid (H6.out wq HUQ.out.up)
    refine HX.out.mono ?_
    rintro e w3 ⟨rfl, q3, rfl⟩
    have HU3 : Hid (Up w (wq.drewN q3)) := HUQ.out.up.trans (Up.drewN _ _)
    clear H6 HX
    cases gL : grL l
    case true =>
      go_wp2_with fail
      refine (HAW.out _).mono ?_
      rintro e w' ⟨rfl, hu⟩
      go_wp2_with fail
      go_ret
      exact ⟨rfl, HU3.out.trans hu⟩
    have hr12 := grL_small gL
    by_cases g36 : 36 < st.length
    · have d5 : decide ((36 : Int) < (st.length : Int)) = true := decide_eq_true (by omega)
      clear g36 gL hr12
      go_wp2_with fail
      refine (HAW.out _).mono ?_
      rintro e w' ⟨rfl, hu⟩
      go_wp2_with fail
      go_ret
      exact ⟨rfl, HU3.out.trans hu⟩
    have d5 : decide ((36 : Int) < (st.length : Int)) = false := decide_eq_false (by omega)
    have hs36 : st.length ≤ 36 := by omega
    have HC1 : Hid (∀ W, Up w W → Calls Tryz.prog 24 #[.int .i64 n, .slice pp a.length pc, .slice qp b.length qc] W fun e w' => e = .returned (.tuple #[.bool (cpB n a b), .int .i64 (cpErr n a b)]) ∧ Up W w') := fun W hW => compatible_t Any W _ _ n a b (IntsAt.keep HA.out (hW.kept _)) (IntsAt.keep HB.out (hW.kept _)) (by omega) (by omega)
    have HC2 : Hid (∀ W, Up w W → Calls Tryz.prog 62 #[.int .i64 n, .slice pp a.length pc, .slice qp b.length qc] W fun e w' => e = .returned (.tuple #[.bool (cpB n a b), .int .i64 (cpErr n a b)]) ∧ Up W w') := fun W hW => compat32_t Any Any W _ _ n a b (IntsAt.keep HA.out (hW.kept _)) (IntsAt.keep HB.out (hW.kept _)) (by omega) (by omega)
    have HC3 : Hid (∀ W, Up w W → Calls Tryz.prog 38 #[.int .i64 n, .slice lp l.length lc] W fun e w' => e = .returned (.tuple #[.int .i64 (alP n l), .int .i64 (alQ n l), .bool (alB n l), .int .i64 (allErr n l)]) ∧ Up W w') := fun W hW => all_t Any W _ n l (RowsAt.keep HL.out (hW.kept _)) (by omega) (fun k => Nat.le_trans (hr12 k) (by decide))
    have HC4 : Hid (∀ W, Up w W → Calls Tryz.prog 63 #[.int .i64 n, .slice lp l.length lc] W fun e w' => e = .returned (.tuple #[.int .i64 (alP n l), .int .i64 (alQ n l), .bool (alB n l), .int .i64 (allErr n l)]) ∧ Up W w') := fun W hW => all32_t Any W _ n l (RowsAt.keep HL.out (hW.kept _)) (by omega) (fun k => Nat.le_trans (hr12 k) (by decide))
    have HC5 : Hid (∀ W, Up w W → Calls Tryz.prog 59 #[.int .i64 n, .slice pp a.length pc] W fun e w' => e = .returned (.int .i64 (splErr n a)) ∧ W = w') := fun W hW => splCheck_t Any W _ n a (IntsAt.keep HA.out (hW.kept _)) (by omega)
    have HC6 : Hid (∀ W, Up w W → Calls Tryz.prog 64 #[.int .i64 n, .slice pp a.length pc] W fun e w' => e = .returned (.int .i64 (splErr n a)) ∧ QD W w') := fun W hW => chk32_t Any W _ n a (IntsAt.keep HA.out (hW.kept _)) (by omega)
    have HC7 : Hid (∀ W, Up w W → Calls Tryz.prog 37 #[.slice sp st.length sc] W (OsPost W st)) := fun W hW => ofStates_t Any W _ st (IntsAt.keep HS.out (hW.kept _)) (by omega)
    have HC8 : Hid (∀ W, Up w W → Calls Tryz.prog 65 #[.slice sp st.length sc] W (OsPost W st)) := fun W hW => ofStates32_t Any W _ st (IntsAt.keep HS.out (hW.kept _)) (by omega)
    have HRL : Hid ((osR st).length ≤ 36) := by
      have h1 : (osR st).length ≤ st.length := by
        unfold osR; split
        · exact memK_len _ _
        · exact Nat.zero_le _
      unfold Hid; omega
    clear gL hr12 g36 hs36 ha12 hb12 hl66 hn hm hln hsn g7
    generalize wq.drewN q3 = w3 at *
    generalize alP n l = z1 at *
    generalize alQ n l = z2 at *
    generalize alB n l = z3 at *
    generalize allErr n l = z4 at *
    generalize cpB n a b = z5 at *
    generalize cpErr n a b = z6 at *
    generalize splErr n a = z7 at *
    go_wp2_with fail
    refine (HC1.out w3 HU3.out).mono ?_
    rintro e w4 ⟨rfl, hu⟩
    have HU4 := Lib.hid (HU3.out.trans hu)
    clear hu HC1
    go_wp2_with fail
    refine (HC2.out w4 HU4.out).mono ?_
    rintro e w5 ⟨rfl, hu⟩
    have HU5 := Lib.hid (HU4.out.trans hu)
    clear hu HC2
    go_wp2_with fail
    refine (HC3.out w5 HU5.out).mono ?_
    rintro e w6 ⟨rfl, hu⟩
    have HU6 := Lib.hid (HU5.out.trans hu)
    clear hu HC3
    go_wp2_with fail
    refine (HC4.out w6 HU6.out).mono ?_
    rintro e w7 ⟨rfl, hu⟩
    have HU7 := Lib.hid (HU6.out.trans hu)
    clear hu HC4
    go_wp2_with fail
    refine (HC5.out w7 HU7.out).mono ?_
    rintro e w8 ⟨rfl, rfl⟩
    go_wp2_with fail
    refine (HC6.out w7 HU7.out).mono ?_
    rintro e w9 ⟨rfl, hq⟩
    have HU9 := Lib.hid (HU7.out.trans hq.up)
    clear hq HC6
    go_wp2_with fail
    refine (HC7.out w9 HU9.out).mono ?_
    rintro e wa ⟨hua, xv, rfl, hx⟩
    have HUA := Lib.hid (HU9.out.trans hua)
    obtain ⟨xp, xc, rfl, _, _⟩ := SlAt.open hx
    have HX := Lib.hid hx
    clear hua hx HC7
    go_wp2_with fail
    refine (HC8.out wa HUA.out).mono ?_
    rintro e wb ⟨hub, yv, rfl, hy⟩
    have HUB := Lib.hid (HUA.out.trans hub)
    obtain ⟨yp, yc, rfl, _, _⟩ := SlAt.open hy
    have HEQ := Lib.hid (equal_int_t Any Any wb _ _ (osR st) (osR st) (IntsAt.keep HX.out (hub.kept _)) hy (by have := HRL.out; omega) (by have := HRL.out; omega))
    rw [decide_eq_true (rfl : osR st = osR st)] at HEQ
    clear hub hy HC8 HX
    generalize osV st = z8 at *
    generalize osErr st = z9 at *
    generalize (osR st).length = z10 at *
    go_wp2_with fail
    refine HEQ.out.mono ?_
    rintro e wc ⟨rfl, nc, rfl⟩
    go_wp2_with fail
    refine (HAW.out _).mono ?_
    rintro e w' ⟨rfl, hu⟩
    go_wp2_with fail
    go_ret
    exact ⟨rfl, (HUB.out.trans (Up.drewN _ nc)).trans hu⟩
  · have d4 : decide ((7 : Int) < (l.length : Int)) = false := decide_eq_false (by omega)
    go_enter Tryz.func11, Tryz.ntmps11
    go_wp2_with fail
    refine H1.out.mono ?_
    rintro e w1 ⟨rfl, rfl⟩
    go_wp2_with fail
    refine H2.out.mono ?_
    rintro e w1 ⟨rfl, rfl⟩
    obtain ⟨wq, rfl⟩ : ∃ wq : World, wq = w := ⟨_, rfl⟩
    have hq : QD wq wq := QD.refl _
    clear H5
    have HUQ := Lib.hid hq
    clear hq
    go_wp2_with fail
    have HX := Lib.hid (H6.out wq HUQ.out.up)
    refine HX.out.mono ?_
    rintro e w3 ⟨rfl, q3, rfl⟩
    have HU3 : Hid (Up wq (wq.drewN q3)) := HUQ.out.up.trans (Up.drewN _ _)
    clear H6 HX
    cases gL : grL l
    case true =>
      go_wp2_with fail
      refine (HAW.out _).mono ?_
      rintro e w' ⟨rfl, hu⟩
      go_wp2_with fail
      go_ret
      exact ⟨rfl, HU3.out.trans hu⟩
    have hr12 := grL_small gL
    by_cases g36 : 36 < st.length
    · have d5 : decide ((36 : Int) < (st.length : Int)) = true := decide_eq_true (by omega)
      clear g36 gL hr12
      go_wp2_with fail
      refine (HAW.out _).mono ?_
      rintro e w' ⟨rfl, hu⟩
      go_wp2_with fail
      go_ret
      exact ⟨rfl, HU3.out.trans hu⟩
    have d5 : decide ((36 : Int) < (st.length : Int)) = false := decide_eq_false (by omega)
    have hs36 : st.length ≤ 36 := by omega
    have HC1 : Hid (∀ W, Up wq W → Calls Tryz.prog 24 #[.int .i64 n, .slice pp a.length pc, .slice qp b.length qc] W fun e w' => e = .returned (.tuple #[.bool (cpB n a b), .int .i64 (cpErr n a b)]) ∧ Up W w') := fun W hW => compatible_t Any W _ _ n a b (IntsAt.keep HA.out (hW.kept _)) (IntsAt.keep HB.out (hW.kept _)) (by omega) (by omega)
    have HC2 : Hid (∀ W, Up wq W → Calls Tryz.prog 62 #[.int .i64 n, .slice pp a.length pc, .slice qp b.length qc] W fun e w' => e = .returned (.tuple #[.bool (cpB n a b), .int .i64 (cpErr n a b)]) ∧ Up W w') := fun W hW => compat32_t Any Any W _ _ n a b (IntsAt.keep HA.out (hW.kept _)) (IntsAt.keep HB.out (hW.kept _)) (by omega) (by omega)
    have HC3 : Hid (∀ W, Up wq W → Calls Tryz.prog 38 #[.int .i64 n, .slice lp l.length lc] W fun e w' => e = .returned (.tuple #[.int .i64 (alP n l), .int .i64 (alQ n l), .bool (alB n l), .int .i64 (allErr n l)]) ∧ Up W w') := fun W hW => all_t Any W _ n l (RowsAt.keep HL.out (hW.kept _)) (by omega) (fun k => Nat.le_trans (hr12 k) (by decide))
    have HC4 : Hid (∀ W, Up wq W → Calls Tryz.prog 63 #[.int .i64 n, .slice lp l.length lc] W fun e w' => e = .returned (.tuple #[.int .i64 (alP n l), .int .i64 (alQ n l), .bool (alB n l), .int .i64 (allErr n l)]) ∧ Up W w') := fun W hW => all32_t Any W _ n l (RowsAt.keep HL.out (hW.kept _)) (by omega) (fun k => Nat.le_trans (hr12 k) (by decide))
    have HC5 : Hid (∀ W, Up wq W → Calls Tryz.prog 59 #[.int .i64 n, .slice pp a.length pc] W fun e w' => e = .returned (.int .i64 (splErr n a)) ∧ W = w') := fun W hW => splCheck_t Any W _ n a (IntsAt.keep HA.out (hW.kept _)) (by omega)
    have HC6 : Hid (∀ W, Up wq W → Calls Tryz.prog 64 #[.int .i64 n, .slice pp a.length pc] W fun e w' => e = .returned (.int .i64 (splErr n a)) ∧ QD W w') := fun W hW => chk32_t Any W _ n a (IntsAt.keep HA.out (hW.kept _)) (by omega)
    have HC7 : Hid (∀ W, Up wq W → Calls Tryz.prog 37 #[.slice sp st.length sc] W (OsPost W st)) := fun W hW => ofStates_t Any W _ st (IntsAt.keep HS.out (hW.kept _)) (by omega)
    have HC8 : Hid (∀ W, Up wq W → Calls Tryz.prog 65 #[.slice sp st.length sc] W (OsPost W st)) := fun W hW => ofStates32_t Any W _ st (IntsAt.keep HS.out (hW.kept _)) (by omega)
    have HRL : Hid ((osR st).length ≤ 36) := by
      have h1 : (osR st).length ≤ st.length := by
        unfold osR; split
        · exact memK_len _ _
        · exact Nat.zero_le _
      unfold Hid; omega
    clear gL hr12 g36 hs36 ha12 hb12 hl66 hn hm hln hsn g7
    generalize wq.drewN q3 = w3 at *
    generalize alP n l = z1 at *
    generalize alQ n l = z2 at *
    generalize alB n l = z3 at *
    generalize allErr n l = z4 at *
    generalize cpB n a b = z5 at *
    generalize cpErr n a b = z6 at *
    generalize splErr n a = z7 at *
    go_wp2_with fail
    refine (HC1.out w3 HU3.out).mono ?_
    rintro e w4 ⟨rfl, hu⟩
    have HU4 := Lib.hid (HU3.out.trans hu)
    clear hu HC1
    go_wp2_with fail
    refine (HC2.out w4 HU4.out).mono ?_
    rintro e w5 ⟨rfl, hu⟩
    have HU5 := Lib.hid (HU4.out.trans hu)
    clear hu HC2
    go_wp2_with fail
    refine (HC3.out w5 HU5.out).mono ?_
    rintro e w6 ⟨rfl, hu⟩
    have HU6 := Lib.hid (HU5.out.trans hu)
    clear hu HC3
    go_wp2_with fail
    refine (HC4.out w6 HU6.out).mono ?_
    rintro e w7 ⟨rfl, hu⟩
    have HU7 := Lib.hid (HU6.out.trans hu)
    clear hu HC4
    go_wp2_with fail
    refine (HC5.out w7 HU7.out).mono ?_
    rintro e w8 ⟨rfl, rfl⟩
    go_wp2_with fail
    refine (HC6.out w7 HU7.out).mono ?_
    rintro e w9 ⟨rfl, hq⟩
    have HU9 := Lib.hid (HU7.out.trans hq.up)
    clear hq HC6
    go_wp2_with fail
    refine (HC7.out w9 HU9.out).mono ?_
    rintro e wa ⟨hua, xv, rfl, hx⟩
    have HUA := Lib.hid (HU9.out.trans hua)
    obtain ⟨xp, xc, rfl, _, _⟩ := SlAt.open hx
    have HX := Lib.hid hx
    clear hua hx HC7
    go_wp2_with fail
    refine (HC8.out wa HUA.out).mono ?_
    rintro e wb ⟨hub, yv, rfl, hy⟩
    have HUB := Lib.hid (HUA.out.trans hub)
    obtain ⟨yp, yc, rfl, _, _⟩ := SlAt.open hy
    have HEQ := Lib.hid (equal_int_t Any Any wb _ _ (osR st) (osR st) (IntsAt.keep HX.out (hub.kept _)) hy (by have := HRL.out; omega) (by have := HRL.out; omega))
    rw [decide_eq_true (rfl : osR st = osR st)] at HEQ
    clear hub hy HC8 HX
    generalize osV st = z8 at *
    generalize osErr st = z9 at *
    generalize (osR st).length = z10 at *
    go_wp2_with fail
    refine HEQ.out.mono ?_
    rintro e wc ⟨rfl, nc, rfl⟩
    go_wp2_with fail
    refine (HAW.out _).mono ?_
    rintro e w' ⟨rfl, hu⟩
    go_wp2_with fail
    go_ret
    exact ⟨rfl, (HUB.out.trans (Up.drewN _ nc)).trans hu⟩
end Go.Proofs.YtcbmbhghmfehpaaGreat
