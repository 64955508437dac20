/- The example of chapter 32: awake. Three lists under way: two of ints, one of strings. The walk of SplitStates. -/
import Derived.Test.YtcbmbhghmfehpaaGreatQ35
import Derived.Test.YtcbmbhghmfehpaaGreatQ34
import Derived.Test.YtcbmbhghmfehpaaGreatQ37
import Derived.Test.YtcbmbhghmfehpaaGreatQ24
import Derived.Test.YtcbmbhghmfehpaaGreatQ21
import Derived.Deep.RegionHeld3
import Derived.Test.YtcbmbhghmfehpaaGreatQ14
import Derived.Test.YtcbmbhghmfehpaaGreatQ25
import Derived.Test.YtcbmbhghmfehpaaGreatQ26
import Derived.Test.YtcbmbhghmfehpaaGreatQ18
namespace Go.Proofs.YtcbmbhghmfehpaaGreat
open Go.RowKit Go.Deep
@[go_sem high] theorem run_max7z (w : World) (ts : Array TypeId) (t : TypeId) (k : IntKind) : (Builtin.max_ ts t #[.int k 0, .int k 0, .int k 0, .int k 0, .int k 0, .int k 0, .int k 0]).run Tryz.prog w = .ok (.int k 0) w := by
  simp [Builtin.max_, Builtin.max2]
theorem get_small32 {α : Type} {P : α → Prop} {l : List α} {d : α} (h : ∀ x ∈ l, P x) (hd : P d) (k : Nat) : P (l.getD k d) := by
  by_cases hk : k < l.length
  · have : l.getD k d = l[k] := by simp [hk]
    rw [this]; exact h _ (List.getElem_mem hk)
  · have : l.getD k d = d := by simp [show l.length ≤ k by omega]
    rw [this]; exact hd
theorem tX_small (k : Nat) : (gs tX.ns k).size ≤ 70000 := get_small32 (P := fun x : ByteArray => x.size ≤ 70000) (by decide) (by decide) k
theorem uX_small (k : Nat) : (gs uX.ns k).size ≤ 70000 := get_small32 (P := fun x : ByteArray => x.size ≤ 70000) (by decide) (by decide) k
theorem four_small (k : Nat) : (gs fourX k).size ≤ 70000 := get_small32 (P := fun x : ByteArray => x.size ≤ 70000) (by decide) (by decide) k
theorem lX_small (k : Nat) : (gl [[2, 3]] k).length ≤ 1000000 := get_small32 (P := fun x : List Int => x.length ≤ 1000000) (by decide) (by decide) k
theorem uX_str : (⟨(txT uX).toArray⟩ : ByteArray) = ⟨#[40, 65, 44, 40, 66, 44, 40, 67, 44, 68, 41, 41, 41, 59]⟩ := by rw [uX_tx.2]
/-- The list of the split of the example. -/
theorem lit23 (w : World) : RowsAt Any ((w.alloc (.cells #[.int .i64 2, .int .i64 3] 3)).alloc (.cells #[.slice (some ⟨w.heap.size, 0, none⟩) 2 2] 26)) (.slice (some ⟨w.heap.size + 1, 0, none⟩) 1 1) [[2, 3]] := by
  have h1 := lit_ints w #[.int .i64 2, .int .i64 3] 3 [2, 3] rfl 2 rfl
  refine ⟨fun _ => .slice (some ⟨w.heap.size, 0, none⟩) 2 2, ⟨_, _, rfl, Nat.le_refl _, .inr ⟨_, 0, rfl, trivial, fun k hk => ?_⟩⟩, fun k hk => ?_⟩
  · have hk0 : k < 1 := hk
    obtain rfl : k = 0 := by omega
    have h := box1_0 (w.alloc (.cells #[.int .i64 2, .int .i64 3] 3)) (.slice (some ⟨w.heap.size, 0, none⟩) 2 2) 26
    rwa [World.size_alloc] at h
  · have hk0 : k < 1 := hk
    obtain rfl : k = 0 := by omega
    exact IntsAt.keep h1 ((Up.alloc _ _).kept _)
set_option maxRecDepth 100000 in
set_option maxHeartbeats 4000000 in
theorem awake32_t (w : World) : Calls Tryz.prog 47 #[] w fun e w' => e = .returned (.bool true) ∧ Up w w' := by
  have HP1 : Hid (Calls Tryz.prog 108 #[.string tXs] w (PaPost w tXs)) := parse_t w tXs (by decide) (ia_ok tXs (by decide))
  have HF := Lib.hid four_t
  go_enter Tryz.func47, Tryz.ntmps47
  go_wp2_with fail
  refine HP1.out.mono ?_
  rintro e w1 ⟨hu1, v1, rfl, ht1⟩
  rw [tX_par.1]
  rw [tX_par.2] at ht1
  obtain ⟨P1, N1, rfl, hP1, hN1⟩ := ht1
  obtain ⟨pp, pc, rfl, _, _⟩ := SlAt.open hP1
  obtain ⟨np, nc, rfl, _, _⟩ := SlAt.open hN1
  have hP1 : IntsAt Any w1 (.slice pp tX.ps.length pc) tX.ps := hP1
  have hN1 : StrsAt Any w1 (.slice np tX.ns.length nc) tX.ns := hN1
  have hu2 := Up.alloc w1 (.cells #[.slice pp tX.ps.length pc, .slice np tX.ns.length nc] 45)
  have HB0 := Lib.hid (box2_0 w1 (.slice pp tX.ps.length pc) (.slice np tX.ns.length nc) 45)
  have HB1 := Lib.hid (box2_1 w1 (.slice pp tX.ps.length pc) (.slice np tX.ns.length nc) 45)
  have HT2 : Hid (TreeAt Any (w1.alloc (.cells #[.slice pp tX.ps.length pc, .slice np tX.ns.length nc] 45)) (.agg #[.slice pp tX.ps.length pc, .slice np tX.ns.length nc]) tX) := TreeAt.keep ⟨_, _, rfl, hP1, hN1⟩ (hu2.kept _)
  have HU2 := Lib.hid (hu1.trans hu2)
  clear hu1 hu2 hP1 hN1 HP1
  go_wp2_with fail
  generalize w1.alloc (.cells #[.slice pp tX.ps.length pc, .slice np tX.ns.length nc] 45) = w2 at *
  refine (parse_t w2 uXs (by decide) (ia_ok uXs (by decide))).mono ?_
  rintro e w3 ⟨hu3, v3, rfl, ht3⟩
  rw [uX_par.1]
  rw [uX_par.2] at ht3
  obtain ⟨P3, N3, rfl, hP3, hN3⟩ := ht3
  obtain ⟨pp3, pc3, rfl, _, _⟩ := SlAt.open hP3
  obtain ⟨np3, nc3, rfl, _, _⟩ := SlAt.open hN3
  have hP3 : IntsAt Any w3 (.slice pp3 uX.ps.length pc3) uX.ps := hP3
  have hN3 : StrsAt Any w3 (.slice np3 uX.ns.length nc3) uX.ns := hN3
  have hu4 := Up.alloc w3 (.cells #[.slice pp3 uX.ps.length pc3, .slice np3 uX.ns.length nc3] 45)
  have hu34 := hu3.trans hu4
  have HC0 := Lib.hid (box2_0 w3 (.slice pp3 uX.ps.length pc3) (.slice np3 uX.ns.length nc3) 45)
  have HC1 := Lib.hid (box2_1 w3 (.slice pp3 uX.ps.length pc3) (.slice np3 uX.ns.length nc3) 45)
  have HTU : Hid (TreeAt Any (w3.alloc (.cells #[.slice pp3 uX.ps.length pc3, .slice np3 uX.ns.length nc3] 45)) (.agg #[.slice pp3 uX.ps.length pc3, .slice np3 uX.ns.length nc3]) uX) := TreeAt.keep ⟨_, _, rfl, hP3, hN3⟩ (hu4.kept _)
  have HT4 := Lib.hid (HT2.out.keep (hu34.kept _))
  have HB04 := Lib.hid (hu34.cell HB0.out)
  have HB14 := Lib.hid (hu34.cell HB1.out)
  have HU4 := Lib.hid (HU2.out.trans hu34)
  clear hu3 hu4 hu34 hP3 hN3 HT2 HB0 HB1 HU2
  go_wp2_with fail
  generalize w3.alloc (.cells #[.slice pp3 uX.ps.length pc3, .slice np3 uX.ns.length nc3] 45) = w4 at *
  have hup : Hid (Up w4 (w4.drewN 1)) := Up.drewN w4 1
  go_region_held3 (fun w' => Hid (Up w4 w') ∧ w'.cell? ⟨w1.heap.size, 0, none⟩ = some (.slice pp tX.ps.length pc) ∧ w'.cell? ⟨w1.heap.size, 1, none⟩ = some (.slice np tX.ns.length nc)) (exact ⟨hup, hup.out.cell HB04.out, hup.out.cell HB14.out⟩) (first
    | (go_at_call 109; refine (HF.out _).mono ?_; rintro e w5 ⟨hb5, v5, rfl, hs5⟩; have HS5 := Lib.hid hs5; have hup : Hid (Up w4 w5) := hup.out.trans hb5; clear hb5 hs5)
    | (go_at_call 27; refine (splOf_t Any _ _ _ tX fourX (HT4.out.keep (hup.out.kept _)) HS5.out (by decide) (by decide) tX_small (by decide)).mono ?_; rintro e w6 ⟨hb6, v6, rfl, hr6⟩; rw [tX_of.1]; rw [tX_of.2] at hr6; have HR6 := Lib.hid hr6; have hup : Hid (Up w4 w6) := hup.out.trans hb6; clear hb6 hr6))
  have HU6 := Lib.hid (HU4.out.trans hup.out)
  have HT6 := Lib.hid (HT4.out.keep (hup.out.kept _))
  have HTU6 := Lib.hid (HTU.out.keep (hup.out.kept _))
  have HB06 := Lib.hid (hup.out.cell HB04.out)
  have HB16 := Lib.hid (hup.out.cell HB14.out)
  have HC06 := Lib.hid (hup.out.cell HC0.out)
  have HC16 := Lib.hid (hup.out.cell HC1.out)
  clear hup HT4 HTU HB04 HB14 HC0 HC1 HU4 HS5
  go_wp2_with fail
  have hup : Hid (Up w6 (w6.drewN 1)) := Up.drewN w6 1
  go_region_held3 (fun w' => Hid (Up w6 w') ∧ w'.cell? ⟨w1.heap.size, 0, none⟩ = some (.slice pp tX.ps.length pc) ∧ w'.cell? ⟨w1.heap.size, 1, none⟩ = some (.slice np tX.ns.length nc) ∧ w'.cell? ⟨w3.heap.size, 0, none⟩ = some (.slice pp3 uX.ps.length pc3) ∧ w'.cell? ⟨w3.heap.size, 1, none⟩ = some (.slice np3 uX.ns.length nc3)) (exact ⟨hup, hup.out.cell HB06.out, hup.out.cell HB16.out, hup.out.cell HC06.out, hup.out.cell HC16.out⟩) (first
    | (go_at_call 109; refine (HF.out _).mono ?_; rintro e w7 ⟨hb7, v7, rfl, hs7⟩; have HS7 := Lib.hid hs7; have hup : Hid (Up w6 w7) := hup.out.trans hb7; clear hb7 hs7)
    | (go_at_call 52; refine (distance_t Any _ _ _ _ tX uX fourX (HT6.out.keep (hup.out.kept _)) (HTU6.out.keep (hup.out.kept _)) HS7.out (by decide) (by decide) tX_small (by decide) (by decide) uX_small (by decide)).mono ?_; rintro e w8 ⟨rfl, hb8⟩; rw [tX_ds.1, tX_ds.2]; have hup : Hid (Up w6 w8) := hup.out.trans hb8; clear hb8))
  have HU8 := Lib.hid (HU6.out.trans hup.out)
  have HR8 := Lib.hid (HR6.out.keep (hup.out.kept _))
  have h9 := (Up.alloc w8 (.cells #[.int .i64 1, .int .i64 2] 3)).trans (Up.alloc _ (.cells #[.int .i64 2, .int .i64 3] 3))
  have hA9 := IntsAt.keep (lit_ints w8 #[.int .i64 1, .int .i64 2] 3 [1, 2] rfl 2 rfl) ((Up.alloc (w8.alloc (.cells #[.int .i64 1, .int .i64 2] 3)) (.cells #[.int .i64 2, .int .i64 3] 3)).kept _)
  have hB9 := lit_ints (w8.alloc (.cells #[.int .i64 1, .int .i64 2] 3)) #[.int .i64 2, .int .i64 3] 3 [2, 3] rfl 2 rfl
  have HCP := Lib.hid (compatible_t Any _ _ _ 4 [1, 2] [2, 3] hA9 hB9 (by decide) (by decide))
  have HU9 := Lib.hid (HU8.out.trans h9)
  have HR9 := Lib.hid (HR8.out.keep (h9.kept _))
  rw [World.size_alloc] at HCP
  clear hup h9 hA9 hB9 HT6 HTU6 HB06 HB16 HC06 HC16 HU6 HU8 HR6 HR8 HS7
  go_wp2_with fail
  generalize (w8.alloc (.cells #[.int .i64 1, .int .i64 2] 3)).alloc (.cells #[.int .i64 2, .int .i64 3] 3) = w9 at *
  refine HCP.out.mono ?_
  rintro e w10 ⟨rfl, hu10⟩
  rw [X_cp.1, X_cp.2]
  have HU10 := Lib.hid (HU9.out.trans hu10)
  have HR10 := Lib.hid (HR9.out.keep (hu10.kept _))
  clear hu10 HCP HU9 HR9
  go_wp2_with fail
  refine (HF.out w10).mono ?_
  rintro e w11 ⟨hu11, v11, rfl, hs11⟩
  have h12 := (Up.alloc w11 (.cells #[.int .i64 2, .int .i64 3] 3)).trans (Up.alloc _ (.cells #[.slice (some ⟨w11.heap.size, 0, none⟩) 2 2] 26))
  have HBD := Lib.hid (build_t Any _ _ _ fourX [[2, 3]] (StrsAt.keep hs11 (h12.kept _)) (lit23 w11) (by decide) four_small (by decide) lX_small)
  have HU12 := Lib.hid (HU10.out.trans (hu11.trans h12))
  have HR12 := Lib.hid (HR10.out.keep ((hu11.trans h12).kept _))
  clear hu11 hs11 h12 HU10 HR10
  go_wp2_with fail
  generalize (w11.alloc (.cells #[.int .i64 2, .int .i64 3] 3)).alloc (.cells #[.slice (some ⟨w11.heap.size, 0, none⟩) 2 2] 26) = w12 at *
  refine HBD.out.mono ?_
  rintro e w13 ⟨hu13, v13, rfl, ht13⟩
  rw [X_bld.1]
  rw [X_bld.2] at ht13
  obtain ⟨P5, N5, rfl, hP5, hN5⟩ := ht13
  obtain ⟨pp5, pc5, rfl, _, _⟩ := SlAt.open hP5
  obtain ⟨np5, nc5, rfl, _, _⟩ := SlAt.open hN5
  have hP5 : IntsAt Any w13 (.slice pp5 uX.ps.length pc5) uX.ps := hP5
  have hN5 : StrsAt Any w13 (.slice np5 uX.ns.length nc5) uX.ns := hN5
  have hu14 := Up.alloc w13 (.cells #[.slice pp5 uX.ps.length pc5, .slice np5 uX.ns.length nc5] 45)
  have b0 := box2_0 w13 (.slice pp5 uX.ps.length pc5) (.slice np5 uX.ns.length nc5) 45
  have b1 := box2_1 w13 (.slice pp5 uX.ps.length pc5) (.slice np5 uX.ns.length nc5) 45
  have HT14 : Hid (TreeAt Any (w13.alloc (.cells #[.slice pp5 uX.ps.length pc5, .slice np5 uX.ns.length nc5] 45)) (.agg #[.slice pp5 uX.ps.length pc5, .slice np5 uX.ns.length nc5]) uX) := TreeAt.keep ⟨_, _, rfl, hP5, hN5⟩ (hu14.kept _)
  have HPR := Lib.hid (print_t Any _ _ uX HT14.out (by decide) (by decide) uX_small)
  have HU14 := Lib.hid (HU12.out.trans (hu13.trans hu14))
  have HR14 := Lib.hid (HR12.out.keep ((hu13.trans hu14).kept _))
  clear hu13 hu14 hP5 hN5 HU12 HR12 HBD HT14
  go_wp2_with fail
  generalize w13.alloc (.cells #[.slice pp5 uX.ps.length pc5, .slice np5 uX.ns.length nc5] 45) = w14 at *
  refine HPR.out.mono ?_
  rintro e w15 ⟨hu15, rfl⟩
  rw [uX_tx.1, uX_str]
  obtain ⟨rp, rc, hrv, _, _⟩ := rows_open HR14.out
  subst hrv
  have h16 := (Up.alloc w15 (.cells #[.int .i64 2, .int .i64 3] 3)).trans (Up.alloc _ (.cells #[.slice (some ⟨w15.heap.size, 0, none⟩) 2 2] 26))
  have HSL := Lib.hid (sameLists_t Any Any _ _ _ [[2, 3]] [[2, 3]] (HR14.out.keep ((hu15.trans h16).kept _)) (lit23 w15) (by decide) (by decide) lX_small lX_small)
  have HU16 := Lib.hid (HU14.out.trans (hu15.trans h16))
  clear hu15 h16 b0 b1 HU14 HR14 HPR
  go_wp2_with fail
  generalize (w15.alloc (.cells #[.int .i64 2, .int .i64 3] 3)).alloc (.cells #[.slice (some ⟨w15.heap.size, 0, none⟩) 2 2] 26) = w16 at *
  refine HSL.out.mono ?_
  rintro e w17 ⟨rfl, n17, rfl⟩
  go_wp2_with fail
  go_ret
  exact ⟨ret_bool (by decide), HU16.out.trans (Up.drewN _ _)⟩
end Go.Proofs.YtcbmbhghmfehpaaGreat
namespace Go.Proofs.YtcbmbhghmfehpaaGreat
open Go.RowKit Go.Deep
structure Tri (B : Nat) (W : World) (s f n : Value) (S F : List Int) (L : List ByteArray) : Prop where
  so : Owns B 3 W s (S.map (Value.int .i64))
  fo : Owns B 3 W f (F.map (Value.int .i64))
  no : Owns B 9 W n (L.map Value.string)
  a1 : ∀ b, s.ownBlock = some b → f.ownBlock ≠ some b
  a2 : ∀ b, s.ownBlock = some b → n.ownBlock ≠ some b
  a3 : ∀ b, f.ownBlock = some b → n.ownBlock ≠ some b
section
variable {B : Nat} {W W' : World} {s f n : Value} {S F : List Int} {L : List ByteArray} {g cap k : Nat}
theorem Tri.start (B : Nat) (W : World) : Tri B W (.slice none 0 0) (.slice none 0 0) (.slice none 0 0) [] [] [] :=
  ⟨Owns.nil _ _ _, Owns.nil _ _ _, Owns.nil _ _ _, fun b h => (by cases h), fun b h => (by cases h), fun b h => (by cases h)⟩
theorem Tri.up (h : Tri B W s f n S F L) (hu : Up W W') : Tri B W' s f n S F L :=
  ⟨h.so.same2 fun b hb => Below.block hu b (ownBlock_lt h.so hb).2, h.fo.same2 fun b hb => Below.block hu b (ownBlock_lt h.fo hb).2, h.no.same2 fun b hb => Below.block hu b (ownBlock_lt h.no hb).2, h.a1, h.a2, h.a3⟩
theorem new_apart {v u : Value} {e : TypeId} {vs : List Value} (ho : Owns B e W u vs) (ha : ∀ b, v.ownBlock = some b → u.ownBlock ≠ some b) (hor : v.ownBlock = some g ∨ W.heap.size ≤ g) : ∀ b, (Value.slice (some ⟨g, 0, none⟩) k cap).ownBlock = some b → u.ownBlock ≠ some b := fun b hb hb2 => by
  injection hb with hb
  have hb : g = b := hb
  subst hb
  rcases hor with h1 | h1
  · exact ha g h1 hb2
  · have := (ownBlock_lt ho hb2).2; omega
theorem Tri.appS (h : Tri B W s f n S F L) {u : Int} (ho : Owns B 3 W' (.slice (some ⟨g, 0, none⟩) k cap) (S.map (Value.int .i64) ++ [.int .i64 u])) (hg : W.grownBy W' s.ownBlock) (hor : s.ownBlock = some g ∨ W.heap.size ≤ g) : Tri B W' (.slice (some ⟨g, 0, none⟩) k cap) f n (S ++ [u]) F L :=
  ⟨by rw [List.map_append]; exact ho, h.fo.same2 fun b hb => hg.block b (ownBlock_lt h.fo hb).2 (fun e => h.a1 b e.symm hb), h.no.same2 fun b hb => hg.block b (ownBlock_lt h.no hb).2 (fun e => h.a2 b e.symm hb), new_apart h.fo h.a1 hor, new_apart h.no h.a2 hor, h.a3⟩
theorem Tri.appF (h : Tri B W s f n S F L) {u : Int} (ho : Owns B 3 W' (.slice (some ⟨g, 0, none⟩) k cap) (F.map (Value.int .i64) ++ [.int .i64 u])) (hg : W.grownBy W' f.ownBlock) (hor : f.ownBlock = some g ∨ W.heap.size ≤ g) : Tri B W' s (.slice (some ⟨g, 0, none⟩) k cap) n S (F ++ [u]) L :=
  ⟨h.so.same2 fun b hb => hg.block b (ownBlock_lt h.so hb).2 (fun e => h.a1 b hb e.symm), by rw [List.map_append]; exact ho, h.no.same2 fun b hb => hg.block b (ownBlock_lt h.no hb).2 (fun e => h.a3 b e.symm hb), fun b hb hb2 => new_apart h.so (fun b h1 h2 => h.a1 b h2 h1) hor b hb2 hb, h.a2, new_apart h.no h.a3 hor⟩
theorem Tri.appN (h : Tri B W s f n S F L) {u : ByteArray} (ho : Owns B 9 W' (.slice (some ⟨g, 0, none⟩) k cap) (L.map Value.string ++ [.string u])) (hg : W.grownBy W' n.ownBlock) (hor : n.ownBlock = some g ∨ W.heap.size ≤ g) : Tri B W' s f (.slice (some ⟨g, 0, none⟩) k cap) S F (L ++ [u]) :=
  ⟨h.so.same2 fun b hb => hg.block b (ownBlock_lt h.so hb).2 (fun e => h.a2 b hb e.symm), h.fo.same2 fun b hb => hg.block b (ownBlock_lt h.fo hb).2 (fun e => h.a3 b hb e.symm), by rw [List.map_append]; exact ho, h.a1, fun b hb hb2 => new_apart h.so (fun b h1 h2 => h.a2 b h2 h1) hor b hb2 hb, fun b hb hb2 => new_apart h.fo (fun b h1 h2 => h.a3 b h2 h1) hor b hb2 hb⟩
end
end Go.Proofs.YtcbmbhghmfehpaaGreat
namespace Go.Proofs.YtcbmbhghmfehpaaGreat
open Go.RowKit Go.Deep
/-- A block of four cells. -/
def Sq (W : World) (B : Nat) (c0 c1 c2 c3 : Value) : Prop := ∃ T, W.heap[B]? = some (Obj.cells #[c0, c1, c2, c3] T (0, 0))
section
variable {W W' : World} {B : Nat} {c0 c1 c2 c3 : Value}
theorem Sq.cells (h : Sq W B c0 c1 c2 c3) : W.cell? ⟨B, 0, none⟩ = some c0 ∧ W.cell? ⟨B, 1, none⟩ = some c1 ∧ W.cell? ⟨B, 2, none⟩ = some c2 ∧ W.cell? ⟨B, 3, none⟩ = some c3 := by
  obtain ⟨T, h⟩ := h
  refine ⟨?_, ?_, ?_, ?_⟩ <;> simp [World.cell?, h]
theorem Sq.free (h : Sq W B c0 c1 c2 c3) (k : Nat) : W.frozen? ⟨B, k, none⟩ = false := by
  obtain ⟨T, h⟩ := h
  simp [World.frozen?, h]
theorem Sq.lt (h : Sq W B c0 c1 c2 c3) : B < W.heap.size := by
  obtain ⟨T, h⟩ := h
  exact (Array.getElem?_eq_some_iff.1 h).1
theorem Sq.same (h : Sq W B c0 c1 c2 c3) (e : W'.heap[B]? = W.heap[B]?) : Sq W' B c0 c1 c2 c3 := by
  obtain ⟨T, h⟩ := h
  exact ⟨T, e.trans h⟩
theorem Sq.up (h : Sq W B c0 c1 c2 c3) (hu : Up W W') : Sq W' B c0 c1 c2 c3 := h.same (Below.block hu B h.lt)
theorem set_at {w : World} {b o : Nat} {c : Array Value} {t : TypeId} (h : w.heap[b]? = some (Obj.cells c t (0, 0))) (v : Value) : (w.setCell ⟨b, o, none⟩ v).heap[b]? = some (Obj.cells (c.setIfInBounds o v) t (0, 0)) := by
  simp [World.setCell, Array.getElem?_modify, h]
theorem Sq.set0 (h : Sq W B c0 c1 c2 c3) (v : Value) : Sq (W.setCell ⟨B, 0, none⟩ v) B v c1 c2 c3 := by
  obtain ⟨T, h⟩ := h; exact ⟨T, set_at h v⟩
theorem Sq.set1 (h : Sq W B c0 c1 c2 c3) (v : Value) : Sq (W.setCell ⟨B, 1, none⟩ v) B c0 v c2 c3 := by
  obtain ⟨T, h⟩ := h; exact ⟨T, set_at h v⟩
theorem Sq.set2 (h : Sq W B c0 c1 c2 c3) (v : Value) : Sq (W.setCell ⟨B, 2, none⟩ v) B c0 c1 v c3 := by
  obtain ⟨T, h⟩ := h; exact ⟨T, set_at h v⟩
theorem Sq.set3 (h : Sq W B c0 c1 c2 c3) (v : Value) : Sq (W.setCell ⟨B, 3, none⟩ v) B c0 c1 c2 v := by
  obtain ⟨T, h⟩ := h; exact ⟨T, set_at h v⟩
end
theorem take_stP {bs : List Bool} {k : Nat} (hk : k < bs.length) : (stP bs).take (k + 1) = (stP bs).take k ++ [if gb bs k then 4 else 3] := by
  rw [← stP_gi hk]
  have hk2 : k < (stP bs).length := by rw [stP_len]; exact hk
  rw [List.take_succ_eq_append_getElem hk2]; simp [gi, hk2]
theorem take_stQ {bs : List Bool} {k : Nat} (hk : k < bs.length) : (stQ bs).take (k + 1) = (stQ bs).take k ++ [if gb bs k then 6 else 7] := by
  rw [← stQ_gi hk]
  have hk2 : k < (stQ bs).length := by rw [stQ_len]; exact hk
  rw [List.take_succ_eq_append_getElem hk2]; simp [gi, hk2]
theorem tri_grown {B : Nat} {W W' : World} {s f : Value} {S F : List Int} (h : Tri B W s f (.slice none 0 0) S F []) (hk : ∀ b, B ≤ b → b < W.heap.size → W'.heap[b]? = W.heap[b]?) : Tri B W' s f (.slice none 0 0) S F [] :=
  ⟨h.so.same2 fun b hb => hk b (ownBlock_lt h.so hb).1 (ownBlock_lt h.so hb).2, h.fo.same2 fun b hb => hk b (ownBlock_lt h.fo hb).1 (ownBlock_lt h.fo hb).2, Owns.nil _ _ _, h.a1, fun b _ e => (by cases e), fun b _ e => (by cases e)⟩
theorem blk_set_ne {w : World} {b o j : Nat} {v : Value} (h : j ≠ b) : (w.setCell ⟨b, o, none⟩ v).heap[j]? = w.heap[j]? := blk_setCell_other _ _ _ _ h
theorem osR_nil {st : List Int} (h : osB st = false) : (osR st).length = 0 := by unfold osR; rw [if_neg (by rw [h]; exact fun e => absurd e.2 (by decide))]; rfl
theorem osR_yes {st : List Int} (h0 : osErr st = 0) (h : osB st = true) : osR st = osO st st.length := by unfold osR; rw [if_pos ⟨h0, h⟩]
theorem osO_len (st : List Int) (k : Nat) : (osO st k).length ≤ k := memK_len _ _
theorem osR_len (st : List Int) : (osR st).length ≤ st.length := by
  unfold osR; split
  · exact osO_len _ _
  · exact Nat.zero_le _
set_option maxRecDepth 100000 in
set_option maxHeartbeats 8000000 in
theorem sstates_law (w : World) (v u : Value) (bs os : List Bool) (h : SlAt Any w v bs.length (fun k => .bool (gb bs k))) (h2 : SlAt Any w u os.length (fun k => .bool (gb os k))) (hn : bs.length ≤ 9223372036854775807) (_ : os.length ≤ 9223372036854775807) :
    Calls Tryz.prog 10 #[v, u] w fun e w' => e = .returned (.bool true) ∧ Up w w' := by
  have HAW := Lib.hid awake32_t
  obtain ⟨bp, bc, rfl, _, HB⟩ := SlAt.open h
  obtain ⟨op, oc, rfl, _, HO⟩ := SlAt.open h2
  have HBS := Lib.hid HB
  have HOS := Lib.hid HO
  clear HB HO h h2
  by_cases c1 : 12 < bs.length
  · have d1 : decide ((12 : Int) < (bs.length : Int)) = true := decide_eq_true (by omega)
    clear c1
    go_enter Tryz.func10, Tryz.ntmps10
    go_wp2_with (first | (go_at_call 47; refine (HAW.out _).mono ?_; rintro e w' ⟨rfl, hu⟩) | fail)
    go_ret
    exact ⟨rfl, hu⟩
  have d1 : decide ((12 : Int) < (bs.length : Int)) = false := decide_eq_false (by omega)
  by_cases c2 : os.length = bs.length
  · have d2 : ((os.length : Int) != (bs.length : Int)) = false := by simp [c2]
    have HL := Lib.hid c2
    have n12 : bs.length ≤ 12 := by omega
    clear c1 c2 hn
    go_enter Tryz.func10, Tryz.ntmps10
    go_wp2_with fail
    generalize hw1 : w.alloc (Obj.cells #[Value.bool false, Value.bool false, Value.bool false, Value.bool false] _) = w1 at *
    have hu1 : Up w w1 := hw1 ▸ Up.alloc w _
    have hs1 : w1.heap.size = w.heap.size + 1 := by rw [← hw1, World.size_alloc]
    have hq1 : Sq w1 w.heap.size (.bool false) (.bool false) (.bool false) (.bool false) := ⟨_, by rw [← hw1]; exact World.alloc_heap_new _ _⟩
    have HU1 := Lib.hid hu1
    have HQ1 := Lib.hid hq1
    have HS1 := Lib.hid hs1
    clear hw1 hu1 hs1 hq1
    have HTA := Lib.hid (fun k (hk : k < bs.length) => take_stP hk)
    have HTB := Lib.hid (fun k (hk : k < os.length) => take_stQ hk)
    go_loopw [6, 7, 9, 10, 11, 33] (fun s t _ _ _ i wr => ∃ k : Nat, k ≤ bs.length ∧ i = .int .i64 k ∧ Hid (Tri (w.heap.size + 1) wr s t (.slice none 0 0) ((stP bs).take k) ((stQ os).take k) []) ∧ Hid (Up w wr) ∧ Hid (Sq wr w.heap.size (.bool (snK bs os false false k)) (.bool (snK bs os false true k)) (.bool (snK bs os true false k)) (.bool (snK bs os true true k)))) (fun _ _ _ _ _ i _ => bs.length - (intOf i).toNat)
    case atStart => exact ⟨0, Nat.zero_le _, rfl, Tri.start _ _, HU1.out, HQ1.out⟩
    case round =>
      obtain ⟨k, hk, rfl, hT, hUr, hQ⟩ := hrel
      obtain ⟨wo, rfl⟩ : ∃ wo : World, wo = wr := ⟨_, rfl⟩
      by_cases hlt : k < bs.length
      · have hlt2 : k < os.length := by rw [HL.out]; exact hlt
        obtain ⟨b, off, rfl, hc0⟩ := HBS.out k hlt
        obtain ⟨b2, off2, rfl, hc20⟩ := HOS.out k hlt2
        have hc := hUr.out.cell hc0
        have hc2 := hUr.out.cell hc20
        have i1 : (0 : Int) ≤ (k : Int) := Int.natCast_nonneg _
        have i2 : (k : Int) < (bs.length : Int) := Int.ofNat_lt.2 hlt
        have i3 : (k : Int) < (os.length : Int) := Int.ofNat_lt.2 hlt2
        have TA := Lib.hid (HTA.out k hlt)
        have TB := Lib.hid (HTB.out k hlt2)
        have HLT : Hid (k + 1 ≤ bs.length ∧ bs.length ≤ 12) := ⟨hlt, n12⟩
        have HLA : Hid (((stP bs).take k).length = k ∧ ((stQ os).take k).length = k ∧ k ≤ 1000000) := ⟨by rw [List.length_take, stP_len]; omega, by rw [List.length_take, stQ_len]; omega, by omega⟩
        have HL1 : Hid ((((stP bs).take k).map (Value.int .i64)).length = k ∧ (((stQ os).take k).map (Value.int .i64)).length = k) := ⟨by rw [List.length_map]; exact HLA.out.1, by rw [List.length_map]; exact HLA.out.2.1⟩
        have HSZ : Hid (w.heap.size + 1 ≤ wo.heap.size) := hQ.out.lt
        have HSN : Hid (∀ a b : Bool, snK bs os a b (k + 1) = (snK bs os a b k || ((gb bs k == a) && (gb os k == b)))) := fun a b => snK_step bs os a b k
        clear hc0 hc20 hlt hlt2 hk
        generalize gb bs k = x at *
        generalize gb os k = y at *
        cases x <;> cases y
        · have TA2 : Hid ((stP bs).take (k + 1) = (stP bs).take k ++ [3]) := TA.out
          have TB2 : Hid ((stQ os).take (k + 1) = (stQ os).take k ++ [7]) := TB.out
          have S0 : Hid (snK bs os false false (k + 1) = true) := by unfold Hid; rw [HSN.out]; simp
          have S1 : Hid (snK bs os false true (k + 1) = snK bs os false true k) := by unfold Hid; rw [HSN.out]; simp
          have S2 : Hid (snK bs os true false (k + 1) = snK bs os true false k) := by unfold Hid; rw [HSN.out]; simp
          have S3 : Hid (snK bs os true true (k + 1) = snK bs os true true k) := by unfold Hid; rw [HSN.out]; simp
          clear TA TB HSN
          go_wp2_with (first
            | (at_builtin; refine wpList_appG wo rfl _ _ 26 rfl (w.heap.size + 1) 3 (.int .i64 0) 8 Tryz.underlying26 Tryz.infoI rfl (by decide) hT.out.so rfl (.int .i64 3) rfl rfl _ HL1.out.1 HLA.out.2.2 HSZ.out ?_; intro g8 cap8 w8 hown8 hgr8 hor8; have hT8 := Lib.hid (hT.out.appS hown8 hgr8 hor8); have hu8 : Hid (Below (w.heap.size + 1) wo w8) := hT.out.so.grown_below hgr8 HSZ.out; clear hown8 hgr8 hor8)
            | (at_builtin; refine wpList_appG w8 rfl _ _ 26 rfl (w.heap.size + 1) 3 (.int .i64 0) 8 Tryz.underlying26 Tryz.infoI rfl (by decide) hT8.out.fo rfl (.int .i64 7) rfl rfl _ HL1.out.2 HLA.out.2.2 (Nat.le_trans HSZ.out hu8.out.size) ?_; intro g9 cap9 w9 hown9 hgr9 hor9; have hT9 := Lib.hid (hT8.out.appF hown9 hgr9 hor9); have hu9 : Hid (Below (w.heap.size + 1) wo w9) := Below.trans hu8.out (hT8.out.fo.grown_below hgr9 (Nat.le_trans HSZ.out hu8.out.size)); have hq9 := Lib.hid (hQ.out.same (hu9.out.block _ (Nat.lt_succ_self _))); have hc9 := hq9.out.cells; have hf9 := hq9.out.free 0; obtain ⟨q0, q1, q2, q3⟩ := hc9; clear hown9 hgr9 hor9))
          go_roundw
          case rel => exact ⟨k + 1, HLT.out.1, by have := HLT.out; go_num, by rw [TA2.out, TB2.out]; exact tri_grown hT9.out (fun j hj _ => blk_set_ne (by omega)), (Below.trans hUr.out (Below.mono hu9.out (Nat.le_succ _))).setCell (Nat.le_refl _) _, by rw [S0.out, S1.out, S2.out, S3.out]; exact hq9.out.set0 _⟩
          case measure => have := HLT.out; simp [intOf]; omega
        · have TA2 : Hid ((stP bs).take (k + 1) = (stP bs).take k ++ [3]) := TA.out
          have TB2 : Hid ((stQ os).take (k + 1) = (stQ os).take k ++ [6]) := TB.out
          have S0 : Hid (snK bs os false false (k + 1) = snK bs os false false k) := by unfold Hid; rw [HSN.out]; simp
          have S1 : Hid (snK bs os false true (k + 1) = true) := by unfold Hid; rw [HSN.out]; simp
          have S2 : Hid (snK bs os true false (k + 1) = snK bs os true false k) := by unfold Hid; rw [HSN.out]; simp
          have S3 : Hid (snK bs os true true (k + 1) = snK bs os true true k) := by unfold Hid; rw [HSN.out]; simp
          clear TA TB HSN
          go_wp2_with (first
            | (at_builtin; refine wpList_appG wo rfl _ _ 26 rfl (w.heap.size + 1) 3 (.int .i64 0) 8 Tryz.underlying26 Tryz.infoI rfl (by decide) hT.out.so rfl (.int .i64 3) rfl rfl _ HL1.out.1 HLA.out.2.2 HSZ.out ?_; intro g8 cap8 w8 hown8 hgr8 hor8; have hT8 := Lib.hid (hT.out.appS hown8 hgr8 hor8); have hu8 : Hid (Below (w.heap.size + 1) wo w8) := hT.out.so.grown_below hgr8 HSZ.out; clear hown8 hgr8 hor8)
            | (at_builtin; refine wpList_appG w8 rfl _ _ 26 rfl (w.heap.size + 1) 3 (.int .i64 0) 8 Tryz.underlying26 Tryz.infoI rfl (by decide) hT8.out.fo rfl (.int .i64 6) rfl rfl _ HL1.out.2 HLA.out.2.2 (Nat.le_trans HSZ.out hu8.out.size) ?_; intro g9 cap9 w9 hown9 hgr9 hor9; have hT9 := Lib.hid (hT8.out.appF hown9 hgr9 hor9); have hu9 : Hid (Below (w.heap.size + 1) wo w9) := Below.trans hu8.out (hT8.out.fo.grown_below hgr9 (Nat.le_trans HSZ.out hu8.out.size)); have hq9 := Lib.hid (hQ.out.same (hu9.out.block _ (Nat.lt_succ_self _))); have hc9 := hq9.out.cells; have hf9 := hq9.out.free 1; obtain ⟨q0, q1, q2, q3⟩ := hc9; clear hown9 hgr9 hor9))
          go_roundw
          case rel => exact ⟨k + 1, HLT.out.1, by have := HLT.out; go_num, by rw [TA2.out, TB2.out]; exact tri_grown hT9.out (fun j hj _ => blk_set_ne (by omega)), (Below.trans hUr.out (Below.mono hu9.out (Nat.le_succ _))).setCell (Nat.le_refl _) _, by rw [S0.out, S1.out, S2.out, S3.out]; exact hq9.out.set1 _⟩
          case measure => have := HLT.out; simp [intOf]; omega
        · have TA2 : Hid ((stP bs).take (k + 1) = (stP bs).take k ++ [4]) := TA.out
          have TB2 : Hid ((stQ os).take (k + 1) = (stQ os).take k ++ [7]) := TB.out
          have S0 : Hid (snK bs os false false (k + 1) = snK bs os false false k) := by unfold Hid; rw [HSN.out]; simp
          have S1 : Hid (snK bs os false true (k + 1) = snK bs os false true k) := by unfold Hid; rw [HSN.out]; simp
          have S2 : Hid (snK bs os true false (k + 1) = true) := by unfold Hid; rw [HSN.out]; simp
          have S3 : Hid (snK bs os true true (k + 1) = snK bs os true true k) := by unfold Hid; rw [HSN.out]; simp
          clear TA TB HSN
          go_wp2_with (first
            | (at_builtin; refine wpList_appG wo rfl _ _ 26 rfl (w.heap.size + 1) 3 (.int .i64 0) 8 Tryz.underlying26 Tryz.infoI rfl (by decide) hT.out.so rfl (.int .i64 4) rfl rfl _ HL1.out.1 HLA.out.2.2 HSZ.out ?_; intro g8 cap8 w8 hown8 hgr8 hor8; have hT8 := Lib.hid (hT.out.appS hown8 hgr8 hor8); have hu8 : Hid (Below (w.heap.size + 1) wo w8) := hT.out.so.grown_below hgr8 HSZ.out; clear hown8 hgr8 hor8)
            | (at_builtin; refine wpList_appG w8 rfl _ _ 26 rfl (w.heap.size + 1) 3 (.int .i64 0) 8 Tryz.underlying26 Tryz.infoI rfl (by decide) hT8.out.fo rfl (.int .i64 7) rfl rfl _ HL1.out.2 HLA.out.2.2 (Nat.le_trans HSZ.out hu8.out.size) ?_; intro g9 cap9 w9 hown9 hgr9 hor9; have hT9 := Lib.hid (hT8.out.appF hown9 hgr9 hor9); have hu9 : Hid (Below (w.heap.size + 1) wo w9) := Below.trans hu8.out (hT8.out.fo.grown_below hgr9 (Nat.le_trans HSZ.out hu8.out.size)); have hq9 := Lib.hid (hQ.out.same (hu9.out.block _ (Nat.lt_succ_self _))); have hc9 := hq9.out.cells; have hf9 := hq9.out.free 2; obtain ⟨q0, q1, q2, q3⟩ := hc9; clear hown9 hgr9 hor9))
          go_roundw
          case rel => exact ⟨k + 1, HLT.out.1, by have := HLT.out; go_num, by rw [TA2.out, TB2.out]; exact tri_grown hT9.out (fun j hj _ => blk_set_ne (by omega)), (Below.trans hUr.out (Below.mono hu9.out (Nat.le_succ _))).setCell (Nat.le_refl _) _, by rw [S0.out, S1.out, S2.out, S3.out]; exact hq9.out.set2 _⟩
          case measure => have := HLT.out; simp [intOf]; omega
        · have TA2 : Hid ((stP bs).take (k + 1) = (stP bs).take k ++ [4]) := TA.out
          have TB2 : Hid ((stQ os).take (k + 1) = (stQ os).take k ++ [6]) := TB.out
          have S0 : Hid (snK bs os false false (k + 1) = snK bs os false false k) := by unfold Hid; rw [HSN.out]; simp
          have S1 : Hid (snK bs os false true (k + 1) = snK bs os false true k) := by unfold Hid; rw [HSN.out]; simp
          have S2 : Hid (snK bs os true false (k + 1) = snK bs os true false k) := by unfold Hid; rw [HSN.out]; simp
          have S3 : Hid (snK bs os true true (k + 1) = true) := by unfold Hid; rw [HSN.out]; simp
          clear TA TB HSN
          go_wp2_with (first
            | (at_builtin; refine wpList_appG wo rfl _ _ 26 rfl (w.heap.size + 1) 3 (.int .i64 0) 8 Tryz.underlying26 Tryz.infoI rfl (by decide) hT.out.so rfl (.int .i64 4) rfl rfl _ HL1.out.1 HLA.out.2.2 HSZ.out ?_; intro g8 cap8 w8 hown8 hgr8 hor8; have hT8 := Lib.hid (hT.out.appS hown8 hgr8 hor8); have hu8 : Hid (Below (w.heap.size + 1) wo w8) := hT.out.so.grown_below hgr8 HSZ.out; clear hown8 hgr8 hor8)
            | (at_builtin; refine wpList_appG w8 rfl _ _ 26 rfl (w.heap.size + 1) 3 (.int .i64 0) 8 Tryz.underlying26 Tryz.infoI rfl (by decide) hT8.out.fo rfl (.int .i64 6) rfl rfl _ HL1.out.2 HLA.out.2.2 (Nat.le_trans HSZ.out hu8.out.size) ?_; intro g9 cap9 w9 hown9 hgr9 hor9; have hT9 := Lib.hid (hT8.out.appF hown9 hgr9 hor9); have hu9 : Hid (Below (w.heap.size + 1) wo w9) := Below.trans hu8.out (hT8.out.fo.grown_below hgr9 (Nat.le_trans HSZ.out hu8.out.size)); have hq9 := Lib.hid (hQ.out.same (hu9.out.block _ (Nat.lt_succ_self _))); have hc9 := hq9.out.cells; have hf9 := hq9.out.free 3; obtain ⟨q0, q1, q2, q3⟩ := hc9; clear hown9 hgr9 hor9))
          go_roundw
          case rel => exact ⟨k + 1, HLT.out.1, by have := HLT.out; go_num, by rw [TA2.out, TB2.out]; exact tri_grown hT9.out (fun j hj _ => blk_set_ne (by omega)), (Below.trans hUr.out (Below.mono hu9.out (Nat.le_succ _))).setCell (Nat.le_refl _) _, by rw [S0.out, S1.out, S2.out, S3.out]; exact hq9.out.set3 _⟩
          case measure => have := HLT.out; simp [intOf]; omega
      · obtain rfl : k = bs.length := by omega
        have hTo := hT.out
        rw [List.take_of_length_le (by rw [stP_len]; exact Nat.le_refl _), List.take_of_length_le (by rw [stQ_len, HL.out]; exact Nat.le_refl _)] at hTo
        obtain ⟨sp, sc, hsv, _⟩ := Owns.form (n := bs.length) hTo.so (by rw [List.length_map, stP_len])
        obtain ⟨tp, tc, htv, _⟩ := Owns.form (n := bs.length) hTo.fo (by rw [List.length_map, stQ_len, HL.out])
        have hsi := IntsAt.sub (Owns.ints hTo.so) (T := Any) fun _ _ _ => trivial
        have hti := IntsAt.sub (Owns.ints hTo.fo) (T := Any) fun _ _ _ => trivial
        have eA : osErr (stP bs) = 0 := stP_err (by omega)
        have eB : osErr (stQ os) = 0 := stQ_err (by have := HL.out; omega)
        have HOA := Lib.hid (ofStates_t Any wo _ (stP bs) hsi (by rw [stP_len]; omega))
        have HOB : Hid (∀ W, Up wo W → Calls Tryz.prog 37 #[u7] W (OsPost W (stQ os))) := fun W hW => ofStates_t Any W _ (stQ os) (IntsAt.keep hti (hW.kept _)) (by rw [stQ_len]; have := HL.out; omega)
        have HQo := Lib.hid hQ.out
        have HUo := Lib.hid hUr.out
        have HEA : Hid (osErr (stP bs) = 0) := eA
        have HEB : Hid (osErr (stQ os) = 0) := eB
        have HVA : Hid (osV (stP bs) = osB (stP bs)) := by unfold Hid osV; rw [eA]; rfl
        have HVB : Hid (osV (stQ os) = osB (stQ os)) := by unfold Hid osV; rw [eB]; rfl
        have HYA : Hid (osB (stP bs) = true → osR (stP bs) = osO (stP bs) bs.length ∧ SplOk (bs.length : Int) (osO (stP bs) bs.length)) := fun h => by
          have h1 := osR_yes eA h
          have h2 := osO_spl eA ((os_iff eA).1 h)
          rw [stP_len] at h1 h2; exact ⟨h1, h2⟩
        have HYB : Hid (osB (stQ os) = true → osR (stQ os) = osO (stQ os) os.length ∧ SplOk (bs.length : Int) (osO (stQ os) os.length)) := fun h => by
          have h1 := osR_yes eB h
          have h2 := osO_spl eB ((os_iff eB).1 h)
          rw [stQ_len] at h1 h2; rw [HL.out] at h2; exact ⟨h1, HL.out ▸ h2⟩
        have HCL : Hid (osB (stP bs) = true → osB (stQ os) = true → compB (osO (stP bs) bs.length) (osO (stQ os) os.length) = !(snK bs os false false bs.length && snK bs os false true bs.length && snK bs os true false bs.length && snK bs os true true bs.length)) := fun h1 h2 => states_law HL.out ((os_iff eA).1 h1) ((os_iff eB).1 h2) (by omega)
        have HLA : Hid ((osR (stP bs)).length ≤ 12 ∧ (osR (stQ os)).length ≤ 12) := ⟨by have := osR_len (stP bs); rw [stP_len] at this; omega, by have := osR_len (stQ os); rw [stQ_len, HL.out] at this; omega⟩
        clear hT hTo hsi hti eA eB hQ hUr hlt hk HTA HTB HQ1 HU1 HS1
        subst hsv
        subst htv
        generalize snK bs os false false bs.length = z0 at *
        generalize snK bs os false true bs.length = z1 at *
        generalize snK bs os true false bs.length = z2 at *
        generalize snK bs os true true bs.length = z3 at *
        go_wp2_with fail
        refine HOA.out.mono ?_
        rintro e w2 ⟨hu2, xv, rfl, hx⟩
        rw [HEA.out, HVA.out]
        obtain ⟨xp, xc, rfl, _, _⟩ := SlAt.open hx
        have HX := Lib.hid hx
        have HU2 := Lib.hid hu2
        clear hx hu2 HOA
        go_wp2_with fail
        refine (HOB.out w2 HU2.out).mono ?_
        rintro e w3 ⟨hu3, yv, rfl, hy⟩
        rw [HEB.out, HVB.out]
        obtain ⟨yp, yc, rfl, _, _⟩ := SlAt.open hy
        have HX3 := Lib.hid (IntsAt.keep HX.out (hu3.kept _))
        have HY := Lib.hid hy
        have HU3 := Lib.hid (HU2.out.trans hu3)
        clear hy hu3 HOB HX HU2
        have la := HLA.out.1
        have lb := HLA.out.2
        cases hA : osB (stP bs)
        · have hz : (osR (stP bs)).length = 0 := osR_nil hA
          rw [hz]
          clear hz la HX3 HY
          generalize (osR (stQ os)).length = y at *
          go_wp2_with (go_at_call 47; refine (HAW.out _).mono ?_; rintro e w' ⟨rfl, hu⟩)
          go_ret
          exact ⟨rfl, (HUo.out.trans HU3.out).trans hu⟩
        cases hB : osB (stQ os)
        · have hz : (osR (stQ os)).length = 0 := osR_nil hB
          rw [hz]
          clear hz lb HX3 HY
          generalize (osR (stP bs)).length = y at *
          go_wp2_with (go_at_call 47; refine (HAW.out _).mono ?_; rintro e w' ⟨rfl, hu⟩)
          go_ret
          exact ⟨rfl, (HUo.out.trans HU3.out).trans hu⟩
        · obtain ⟨a1, a2⟩ := HYA.out hA
          obtain ⟨b1, b2⟩ := HYB.out hB
          have hce : cpErr (bs.length : Int) (osR (stP bs)) (osR (stQ os)) = 0 := by
            unfold cpErr
            rw [a1, b1, splErr_zero.2 a2, splErr_zero.2 b2]; rfl
          have hcb : cpB (bs.length : Int) (osR (stP bs)) (osR (stQ os)) = !(z0 && z1 && z2 && z3) := by
            unfold cpB
            rw [hce, a1, b1, HCL.out hA hB]; rfl
          have hcp := compatible_t Any w3 _ _ (bs.length : Int) (osR (stP bs)) (osR (stQ os)) HX3.out HY.out (by omega) (by omega)
          rw [hce, hcb] at hcp
          have HCP := Lib.hid hcp
          clear hcp hce hcb a1 a2 b1 b2 hA hB HX3 HY HYA HYB HCL HLA
          generalize (osR (stP bs)).length = x at *
          generalize (osR (stQ os)).length = y at *
          go_wp2_with fail
          refine HCP.out.mono ?_
          rintro e w4 ⟨rfl, hu4⟩
          have hq4 := HQo.out.up (HU3.out.trans hu4)
          obtain ⟨q0, q1, q2, q3⟩ := hq4.cells
          have HU4 := Lib.hid (HUo.out.trans (HU3.out.trans hu4))
          clear hu4 hq4 HQo HUo HU3 HCP
          cases z0 <;> cases z1 <;> cases z2 <;> cases z3
          all_goals
            go_wp2_with (go_at_call 47; refine (HAW.out _).mono ?_; rintro e w' ⟨rfl, hu⟩)
            go_ret
            exact ⟨rfl, HU4.out.trans hu⟩
  · have d2 : ((os.length : Int) != (bs.length : Int)) = true := by simp; omega
    clear c1 c2
    go_enter Tryz.func10, Tryz.ntmps10
    go_wp2_with (first | (go_at_call 47; refine (HAW.out _).mono ?_; rintro e w' ⟨rfl, hu⟩) | fail)
    go_ret
    exact ⟨rfl, hu⟩
end Go.Proofs.YtcbmbhghmfehpaaGreat
