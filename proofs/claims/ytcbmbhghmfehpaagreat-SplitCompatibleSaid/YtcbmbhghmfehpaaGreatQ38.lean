/- The example of chapter 32: awake. Three lists under way: two of ints, one of strings. The walk of SplitStates. intset.Check and split.Check of lists of any size. The walk of SplitCompatible. -/
import Derived.Test.YtcbmbhghmfehpaaGreatQ35
import Derived.Test.YtcbmbhghmfehpaaGreatQ34
import Derived.Test.YtcbmbhghmfehpaaGreatQ37
import Derived.Test.YtcbmbhghmfehpaaGreatQ25
import Derived.Test.YtcbmbhghmfehpaaGreatQ22
import Derived.Deep.RegionHeld3
import Derived.Test.YtcbmbhghmfehpaaGreatQ14
import Derived.Test.YtcbmbhghmfehpaaGreatQ26
import Derived.Test.YtcbmbhghmfehpaaGreatQ19
import Derived.Test.YtcbmbhghmfehpaaGreatQ31
import Derived.Test.YtcbmbhghmfehpaaGreatQ15
import Derived.Test.YtcbmbhghmfehpaaGreatQ17
namespace Go.Proofs.YtcbmbhghmfehpaaGreat
open Go.RowKit Go.Deep
@[go_sem high] theorem run_max7z (w : World) (ts : Array TypeId) (t : TypeId) (k : IntKind) : (Builtin.max_ ts t #[.int k 0, .int k 0, .int k 0, .int k 0, .int k 0, .int k 0, .int k 0]).run Tryz.prog w = .ok (.int k 0) w := by
  simp [Builtin.max_, Builtin.max2]
theorem get_small32 {α : Type} {P : α → Prop} {l : List α} {d : α} (h : ∀ x ∈ l, P x) (hd : P d) (k : Nat) : P (l.getD k d) := by
  by_cases hk : k < l.length
  · have : l.getD k d = l[k] := by simp [hk]
    rw [this]; exact h _ (List.getElem_mem hk)
  · have : l.getD k d = d := by simp [show l.length ≤ k by omega]
    rw [this]; exact hd
theorem tX_small (k : Nat) : (gs tX.ns k).size ≤ 70000 := get_small32 (P := fun x : ByteArray => x.size ≤ 70000) (by decide) (by decide) k
theorem uX_small (k : Nat) : (gs uX.ns k).size ≤ 70000 := get_small32 (P := fun x : ByteArray => x.size ≤ 70000) (by decide) (by decide) k
theorem four_small (k : Nat) : (gs fourX k).size ≤ 70000 := get_small32 (P := fun x : ByteArray => x.size ≤ 70000) (by decide) (by decide) k
theorem lX_small (k : Nat) : (gl [[2, 3]] k).length ≤ 1000000 := get_small32 (P := fun x : List Int => x.length ≤ 1000000) (by decide) (by decide) k
theorem uX_str : (⟨(txT uX).toArray⟩ : ByteArray) = ⟨#[40, 65, 44, 40, 66, 44, 40, 67, 44, 68, 41, 41, 41, 59]⟩ := by rw [uX_tx.2]
/-- The list of the split of the example. -/
theorem lit23 (w : World) : RowsAt Any ((w.alloc (.cells #[.int .i64 2, .int .i64 3] 3)).alloc (.cells #[.slice (some ⟨w.heap.size, 0, none⟩) 2 2] 26)) (.slice (some ⟨w.heap.size + 1, 0, none⟩) 1 1) [[2, 3]] := by
  have h1 := lit_ints w #[.int .i64 2, .int .i64 3] 3 [2, 3] rfl 2 rfl
  refine ⟨fun _ => .slice (some ⟨w.heap.size, 0, none⟩) 2 2, ⟨_, _, rfl, Nat.le_refl _, .inr ⟨_, 0, rfl, trivial, fun k hk => ?_⟩⟩, fun k hk => ?_⟩
  · have hk0 : k < 1 := hk
    obtain rfl : k = 0 := by omega
    have h := box1_0 (w.alloc (.cells #[.int .i64 2, .int .i64 3] 3)) (.slice (some ⟨w.heap.size, 0, none⟩) 2 2) 26
    rwa [World.size_alloc] at h
  · have hk0 : k < 1 := hk
    obtain rfl : k = 0 := by omega
    exact IntsAt.keep h1 ((Up.alloc _ _).kept _)
set_option maxRecDepth 100000 in
set_option maxHeartbeats 4000000 in
theorem awake32_t (w : World) : Calls Tryz.prog 47 #[] w fun e w' => e = .returned (.bool true) ∧ Up w w' := by
  have HP1 : Hid (Calls Tryz.prog 108 #[.string tXs] w (PaPost w tXs)) := parse_t w tXs (by decide) (ia_ok tXs (by decide))
  have HF := Lib.hid four_t
  go_enter Tryz.func47, Tryz.ntmps47
  go_wp2_with fail
  refine HP1.out.mono ?_
  rintro e w1 ⟨hu1, v1, rfl, ht1⟩
  rw [tX_par.1]
  rw [tX_par.2] at ht1
  obtain ⟨P1, N1, rfl, hP1, hN1⟩ := ht1
  obtain ⟨pp, pc, rfl, _, _⟩ := SlAt.open hP1
  obtain ⟨np, nc, rfl, _, _⟩ := SlAt.open hN1
  have hP1 : IntsAt Any w1 (.slice pp tX.ps.length pc) tX.ps := hP1
  have hN1 : StrsAt Any w1 (.slice np tX.ns.length nc) tX.ns := hN1
  have hu2 := Up.alloc w1 (.cells #[.slice pp tX.ps.length pc, .slice np tX.ns.length nc] 45)
  have HB0 := Lib.hid (box2_0 w1 (.slice pp tX.ps.length pc) (.slice np tX.ns.length nc) 45)
  have HB1 := Lib.hid (box2_1 w1 (.slice pp tX.ps.length pc) (.slice np tX.ns.length nc) 45)
  have HT2 : Hid (TreeAt Any (w1.alloc (.cells #[.slice pp tX.ps.length pc, .slice np tX.ns.length nc] 45)) (.agg #[.slice pp tX.ps.length pc, .slice np tX.ns.length nc]) tX) := TreeAt.keep ⟨_, _, rfl, hP1, hN1⟩ (hu2.kept _)
  have HU2 := Lib.hid (hu1.trans hu2)
  clear hu1 hu2 hP1 hN1 HP1
  go_wp2_with fail
  generalize w1.alloc (.cells #[.slice pp tX.ps.length pc, .slice np tX.ns.length nc] 45) = w2 at *
  refine (parse_t w2 uXs (by decide) (ia_ok uXs (by decide))).mono ?_
  rintro e w3 ⟨hu3, v3, rfl, ht3⟩
  rw [uX_par.1]
  rw [uX_par.2] at ht3
  obtain ⟨P3, N3, rfl, hP3, hN3⟩ := ht3
  obtain ⟨pp3, pc3, rfl, _, _⟩ := SlAt.open hP3
  obtain ⟨np3, nc3, rfl, _, _⟩ := SlAt.open hN3
  have hP3 : IntsAt Any w3 (.slice pp3 uX.ps.length pc3) uX.ps := hP3
  have hN3 : StrsAt Any w3 (.slice np3 uX.ns.length nc3) uX.ns := hN3
  have hu4 := Up.alloc w3 (.cells #[.slice pp3 uX.ps.length pc3, .slice np3 uX.ns.length nc3] 45)
  have hu34 := hu3.trans hu4
  have HC0 := Lib.hid (box2_0 w3 (.slice pp3 uX.ps.length pc3) (.slice np3 uX.ns.length nc3) 45)
  have HC1 := Lib.hid (box2_1 w3 (.slice pp3 uX.ps.length pc3) (.slice np3 uX.ns.length nc3) 45)
  have HTU : Hid (TreeAt Any (w3.alloc (.cells #[.slice pp3 uX.ps.length pc3, .slice np3 uX.ns.length nc3] 45)) (.agg #[.slice pp3 uX.ps.length pc3, .slice np3 uX.ns.length nc3]) uX) := TreeAt.keep ⟨_, _, rfl, hP3, hN3⟩ (hu4.kept _)
  have HT4 := Lib.hid (HT2.out.keep (hu34.kept _))
  have HB04 := Lib.hid (hu34.cell HB0.out)
  have HB14 := Lib.hid (hu34.cell HB1.out)
  have HU4 := Lib.hid (HU2.out.trans hu34)
  clear hu3 hu4 hu34 hP3 hN3 HT2 HB0 HB1 HU2
  go_wp2_with fail
  generalize w3.alloc (.cells #[.slice pp3 uX.ps.length pc3, .slice np3 uX.ns.length nc3] 45) = w4 at *
  have hup : Hid (Up w4 (w4.drewN 1)) := Up.drewN w4 1
  go_region_held3 (fun w' => Hid (Up w4 w') ∧ w'.cell? ⟨w1.heap.size, 0, none⟩ = some (.slice pp tX.ps.length pc) ∧ w'.cell? ⟨w1.heap.size, 1, none⟩ = some (.slice np tX.ns.length nc)) (exact ⟨hup, hup.out.cell HB04.out, hup.out.cell HB14.out⟩) (first
    | (go_at_call 109; refine (HF.out _).mono ?_; rintro e w5 ⟨hb5, v5, rfl, hs5⟩; have HS5 := Lib.hid hs5; have hup : Hid (Up w4 w5) := hup.out.trans hb5; clear hb5 hs5)
    | (go_at_call 27; refine (splOf_t Any _ _ _ tX fourX (HT4.out.keep (hup.out.kept _)) HS5.out (by decide) (by decide) tX_small (by decide)).mono ?_; rintro e w6 ⟨hb6, v6, rfl, hr6⟩; rw [tX_of.1]; rw [tX_of.2] at hr6; have HR6 := Lib.hid hr6; have hup : Hid (Up w4 w6) := hup.out.trans hb6; clear hb6 hr6))
  have HU6 := Lib.hid (HU4.out.trans hup.out)
  have HT6 := Lib.hid (HT4.out.keep (hup.out.kept _))
  have HTU6 := Lib.hid (HTU.out.keep (hup.out.kept _))
  have HB06 := Lib.hid (hup.out.cell HB04.out)
  have HB16 := Lib.hid (hup.out.cell HB14.out)
  have HC06 := Lib.hid (hup.out.cell HC0.out)
  have HC16 := Lib.hid (hup.out.cell HC1.out)
  clear hup HT4 HTU HB04 HB14 HC0 HC1 HU4 HS5
  go_wp2_with fail
  have hup : Hid (Up w6 (w6.drewN 1)) := Up.drewN w6 1
  go_region_held3 (fun w' => Hid (Up w6 w') ∧ w'.cell? ⟨w1.heap.size, 0, none⟩ = some (.slice pp tX.ps.length pc) ∧ w'.cell? ⟨w1.heap.size, 1, none⟩ = some (.slice np tX.ns.length nc) ∧ w'.cell? ⟨w3.heap.size, 0, none⟩ = some (.slice pp3 uX.ps.length pc3) ∧ w'.cell? ⟨w3.heap.size, 1, none⟩ = some (.slice np3 uX.ns.length nc3)) (exact ⟨hup, hup.out.cell HB06.out, hup.out.cell HB16.out, hup.out.cell HC06.out, hup.out.cell HC16.out⟩) (first
    | (go_at_call 109; refine (HF.out _).mono ?_; rintro e w7 ⟨hb7, v7, rfl, hs7⟩; have HS7 := Lib.hid hs7; have hup : Hid (Up w6 w7) := hup.out.trans hb7; clear hb7 hs7)
    | (go_at_call 52; refine (distance_t Any _ _ _ _ tX uX fourX (HT6.out.keep (hup.out.kept _)) (HTU6.out.keep (hup.out.kept _)) HS7.out (by decide) (by decide) tX_small (by decide) (by decide) uX_small (by decide)).mono ?_; rintro e w8 ⟨rfl, hb8⟩; rw [tX_ds.1, tX_ds.2]; have hup : Hid (Up w6 w8) := hup.out.trans hb8; clear hb8))
  have HU8 := Lib.hid (HU6.out.trans hup.out)
  have HR8 := Lib.hid (HR6.out.keep (hup.out.kept _))
  have h9 := (Up.alloc w8 (.cells #[.int .i64 1, .int .i64 2] 3)).trans (Up.alloc _ (.cells #[.int .i64 2, .int .i64 3] 3))
  have hA9 := IntsAt.keep (lit_ints w8 #[.int .i64 1, .int .i64 2] 3 [1, 2] rfl 2 rfl) ((Up.alloc (w8.alloc (.cells #[.int .i64 1, .int .i64 2] 3)) (.cells #[.int .i64 2, .int .i64 3] 3)).kept _)
  have hB9 := lit_ints (w8.alloc (.cells #[.int .i64 1, .int .i64 2] 3)) #[.int .i64 2, .int .i64 3] 3 [2, 3] rfl 2 rfl
  have HCP := Lib.hid (compatible_t Any _ _ _ 4 [1, 2] [2, 3] hA9 hB9 (by decide) (by decide))
  have HU9 := Lib.hid (HU8.out.trans h9)
  have HR9 := Lib.hid (HR8.out.keep (h9.kept _))
  rw [World.size_alloc] at HCP
  clear hup h9 hA9 hB9 HT6 HTU6 HB06 HB16 HC06 HC16 HU6 HU8 HR6 HR8 HS7
  go_wp2_with fail
  generalize (w8.alloc (.cells #[.int .i64 1, .int .i64 2] 3)).alloc (.cells #[.int .i64 2, .int .i64 3] 3) = w9 at *
  refine HCP.out.mono ?_
  rintro e w10 ⟨rfl, hu10⟩
  rw [X_cp.1, X_cp.2]
  have HU10 := Lib.hid (HU9.out.trans hu10)
  have HR10 := Lib.hid (HR9.out.keep (hu10.kept _))
  clear hu10 HCP HU9 HR9
  go_wp2_with fail
  refine (HF.out w10).mono ?_
  rintro e w11 ⟨hu11, v11, rfl, hs11⟩
  have h12 := (Up.alloc w11 (.cells #[.int .i64 2, .int .i64 3] 3)).trans (Up.alloc _ (.cells #[.slice (some ⟨w11.heap.size, 0, none⟩) 2 2] 26))
  have HBD := Lib.hid (build_t Any _ _ _ fourX [[2, 3]] (StrsAt.keep hs11 (h12.kept _)) (lit23 w11) (by decide) four_small (by decide) lX_small)
  have HU12 := Lib.hid (HU10.out.trans (hu11.trans h12))
  have HR12 := Lib.hid (HR10.out.keep ((hu11.trans h12).kept _))
  clear hu11 hs11 h12 HU10 HR10
  go_wp2_with fail
  generalize (w11.alloc (.cells #[.int .i64 2, .int .i64 3] 3)).alloc (.cells #[.slice (some ⟨w11.heap.size, 0, none⟩) 2 2] 26) = w12 at *
  refine HBD.out.mono ?_
  rintro e w13 ⟨hu13, v13, rfl, ht13⟩
  rw [X_bld.1]
  rw [X_bld.2] at ht13
  obtain ⟨P5, N5, rfl, hP5, hN5⟩ := ht13
  obtain ⟨pp5, pc5, rfl, _, _⟩ := SlAt.open hP5
  obtain ⟨np5, nc5, rfl, _, _⟩ := SlAt.open hN5
  have hP5 : IntsAt Any w13 (.slice pp5 uX.ps.length pc5) uX.ps := hP5
  have hN5 : StrsAt Any w13 (.slice np5 uX.ns.length nc5) uX.ns := hN5
  have hu14 := Up.alloc w13 (.cells #[.slice pp5 uX.ps.length pc5, .slice np5 uX.ns.length nc5] 45)
  have b0 := box2_0 w13 (.slice pp5 uX.ps.length pc5) (.slice np5 uX.ns.length nc5) 45
  have b1 := box2_1 w13 (.slice pp5 uX.ps.length pc5) (.slice np5 uX.ns.length nc5) 45
  have HT14 : Hid (TreeAt Any (w13.alloc (.cells #[.slice pp5 uX.ps.length pc5, .slice np5 uX.ns.length nc5] 45)) (.agg #[.slice pp5 uX.ps.length pc5, .slice np5 uX.ns.length nc5]) uX) := TreeAt.keep ⟨_, _, rfl, hP5, hN5⟩ (hu14.kept _)
  have HPR := Lib.hid (print_t Any _ _ uX HT14.out (by decide) (by decide) uX_small)
  have HU14 := Lib.hid (HU12.out.trans (hu13.trans hu14))
  have HR14 := Lib.hid (HR12.out.keep ((hu13.trans hu14).kept _))
  clear hu13 hu14 hP5 hN5 HU12 HR12 HBD HT14
  go_wp2_with fail
  generalize w13.alloc (.cells #[.slice pp5 uX.ps.length pc5, .slice np5 uX.ns.length nc5] 45) = w14 at *
  refine HPR.out.mono ?_
  rintro e w15 ⟨hu15, rfl⟩
  rw [uX_tx.1, uX_str]
  obtain ⟨rp, rc, hrv, _, _⟩ := rows_open HR14.out
  subst hrv
  have h16 := (Up.alloc w15 (.cells #[.int .i64 2, .int .i64 3] 3)).trans (Up.alloc _ (.cells #[.slice (some ⟨w15.heap.size, 0, none⟩) 2 2] 26))
  have HSL := Lib.hid (sameLists_t Any Any _ _ _ [[2, 3]] [[2, 3]] (HR14.out.keep ((hu15.trans h16).kept _)) (lit23 w15) (by decide) (by decide) lX_small lX_small)
  have HU16 := Lib.hid (HU14.out.trans (hu15.trans h16))
  clear hu15 h16 b0 b1 HU14 HR14 HPR
  go_wp2_with fail
  generalize (w15.alloc (.cells #[.int .i64 2, .int .i64 3] 3)).alloc (.cells #[.slice (some ⟨w15.heap.size, 0, none⟩) 2 2] 26) = w16 at *
  refine HSL.out.mono ?_
  rintro e w17 ⟨rfl, n17, rfl⟩
  go_wp2_with fail
  go_ret
  exact ⟨ret_bool (by decide), HU16.out.trans (Up.drewN _ _)⟩
end Go.Proofs.YtcbmbhghmfehpaaGreat
namespace Go.Proofs.YtcbmbhghmfehpaaGreat
open Go.RowKit Go.Deep
structure Tri (B : Nat) (W : World) (s f n : Value) (S F : List Int) (L : List ByteArray) : Prop where
  so : Owns B 3 W s (S.map (Value.int .i64))
  fo : Owns B 3 W f (F.map (Value.int .i64))
  no : Owns B 9 W n (L.map Value.string)
  a1 : ∀ b, s.ownBlock = some b → f.ownBlock ≠ some b
  a2 : ∀ b, s.ownBlock = some b → n.ownBlock ≠ some b
  a3 : ∀ b, f.ownBlock = some b → n.ownBlock ≠ some b
section
variable {B : Nat} {W W' : World} {s f n : Value} {S F : List Int} {L : List ByteArray} {g cap k : Nat}
theorem Tri.start (B : Nat) (W : World) : Tri B W (.slice none 0 0) (.slice none 0 0) (.slice none 0 0) [] [] [] :=
  ⟨Owns.nil _ _ _, Owns.nil _ _ _, Owns.nil _ _ _, fun b h => (by cases h), fun b h => (by cases h), fun b h => (by cases h)⟩
theorem Tri.up (h : Tri B W s f n S F L) (hu : Up W W') : Tri B W' s f n S F L :=
  ⟨h.so.same2 fun b hb => Below.block hu b (ownBlock_lt h.so hb).2, h.fo.same2 fun b hb => Below.block hu b (ownBlock_lt h.fo hb).2, h.no.same2 fun b hb => Below.block hu b (ownBlock_lt h.no hb).2, h.a1, h.a2, h.a3⟩
theorem new_apart {v u : Value} {e : TypeId} {vs : List Value} (ho : Owns B e W u vs) (ha : ∀ b, v.ownBlock = some b → u.ownBlock ≠ some b) (hor : v.ownBlock = some g ∨ W.heap.size ≤ g) : ∀ b, (Value.slice (some ⟨g, 0, none⟩) k cap).ownBlock = some b → u.ownBlock ≠ some b := fun b hb hb2 => by
  injection hb with hb
  have hb : g = b := hb
  subst hb
  rcases hor with h1 | h1
  · exact ha g h1 hb2
  · have := (ownBlock_lt ho hb2).2; omega
theorem Tri.appN (h : Tri B W s f n S F L) {u : ByteArray} (ho : Owns B 9 W' (.slice (some ⟨g, 0, none⟩) k cap) (L.map Value.string ++ [.string u])) (hg : W.grownBy W' n.ownBlock) (hor : n.ownBlock = some g ∨ W.heap.size ≤ g) : Tri B W' s f (.slice (some ⟨g, 0, none⟩) k cap) S F (L ++ [u]) :=
  ⟨h.so.same2 fun b hb => hg.block b (ownBlock_lt h.so hb).2 (fun e => h.a2 b hb e.symm), h.fo.same2 fun b hb => hg.block b (ownBlock_lt h.fo hb).2 (fun e => h.a3 b hb e.symm), by rw [List.map_append]; exact ho, h.a1, fun b hb hb2 => new_apart h.so (fun b h1 h2 => h.a2 b h2 h1) hor b hb2 hb, fun b hb hb2 => new_apart h.fo (fun b h1 h2 => h.a3 b h2 h1) hor b hb2 hb⟩
end
end Go.Proofs.YtcbmbhghmfehpaaGreat
namespace Go.Proofs.YtcbmbhghmfehpaaGreat
open Go.RowKit Go.Deep
/-- A block of four cells. -/
def Sq (W : World) (B : Nat) (c0 c1 c2 c3 : Value) : Prop := ∃ T, W.heap[B]? = some (Obj.cells #[c0, c1, c2, c3] T (0, 0))
section
variable {W W' : World} {B : Nat} {c0 c1 c2 c3 : Value}
theorem Sq.cells (h : Sq W B c0 c1 c2 c3) : W.cell? ⟨B, 0, none⟩ = some c0 ∧ W.cell? ⟨B, 1, none⟩ = some c1 ∧ W.cell? ⟨B, 2, none⟩ = some c2 ∧ W.cell? ⟨B, 3, none⟩ = some c3 := by
  obtain ⟨T, h⟩ := h
  refine ⟨?_, ?_, ?_, ?_⟩ <;> simp [World.cell?, h]
theorem Sq.free (h : Sq W B c0 c1 c2 c3) (k : Nat) : W.frozen? ⟨B, k, none⟩ = false := by
  obtain ⟨T, h⟩ := h
  simp [World.frozen?, h]
theorem Sq.lt (h : Sq W B c0 c1 c2 c3) : B < W.heap.size := by
  obtain ⟨T, h⟩ := h
  exact (Array.getElem?_eq_some_iff.1 h).1
theorem Sq.same (h : Sq W B c0 c1 c2 c3) (e : W'.heap[B]? = W.heap[B]?) : Sq W' B c0 c1 c2 c3 := by
  obtain ⟨T, h⟩ := h
  exact ⟨T, e.trans h⟩
theorem Sq.up (h : Sq W B c0 c1 c2 c3) (hu : Up W W') : Sq W' B c0 c1 c2 c3 := h.same (Below.block hu B h.lt)
theorem set_at {w : World} {b o : Nat} {c : Array Value} {t : TypeId} (h : w.heap[b]? = some (Obj.cells c t (0, 0))) (v : Value) : (w.setCell ⟨b, o, none⟩ v).heap[b]? = some (Obj.cells (c.setIfInBounds o v) t (0, 0)) := by
  simp [World.setCell, Array.getElem?_modify, h]
theorem Sq.set0 (h : Sq W B c0 c1 c2 c3) (v : Value) : Sq (W.setCell ⟨B, 0, none⟩ v) B v c1 c2 c3 := by
  obtain ⟨T, h⟩ := h; exact ⟨T, set_at h v⟩
theorem Sq.set1 (h : Sq W B c0 c1 c2 c3) (v : Value) : Sq (W.setCell ⟨B, 1, none⟩ v) B c0 v c2 c3 := by
  obtain ⟨T, h⟩ := h; exact ⟨T, set_at h v⟩
theorem Sq.set2 (h : Sq W B c0 c1 c2 c3) (v : Value) : Sq (W.setCell ⟨B, 2, none⟩ v) B c0 c1 v c3 := by
  obtain ⟨T, h⟩ := h; exact ⟨T, set_at h v⟩
theorem Sq.set3 (h : Sq W B c0 c1 c2 c3) (v : Value) : Sq (W.setCell ⟨B, 3, none⟩ v) B c0 c1 c2 v := by
  obtain ⟨T, h⟩ := h; exact ⟨T, set_at h v⟩
end
end Go.Proofs.YtcbmbhghmfehpaaGreat
namespace Go.Proofs.YtcbmbhghmfehpaaGreat
open Go.RowKit Go.Deep
set_option maxRecDepth 100000 in
set_option maxHeartbeats 1000000 in
theorem setCheckB_t (S : Nat → Prop) (w : World) (v : Value) (l : List Int) (h : IntsAt S w v l) (hn : l.length ≤ 9223372036854775807) :
    Calls Tryz.prog 125 #[v] w fun e w' => e = .returned (.int .i64 (setErr l)) ∧ w = w' := by
  have HF : Hid (setErr l = firstNZ (setBad l) l.length) := rfl
  have HB : Hid (∀ i, setBad l i = if gi l i < 0 ∨ 63 < gi l i then 2 else if 0 < i ∧ gi l i ≤ gi l (i - 1) then 10 else 0) := fun _ => rfl
  obtain ⟨p, cap, rfl, -, -⟩ := SlAt.open h
  have H : Hid (IntsAt S w (.slice p l.length cap) l) := h
  clear h
  go_enter Tryz.func125, Tryz.ntmps125
  go_wp2_with fail
  go_loop [3, 4, 7] (fun _ _ i => ∃ k : Nat, k ≤ l.length ∧ i = .int .i64 k ∧ Hid (∀ j, j < k → setBad l j = 0)) (fun _ _ i => l.length - (intOf i).toNat)
  case atStart => exact ⟨0, Nat.zero_le _, rfl, fun j hj => absurd hj (Nat.not_lt_zero _)⟩
  case round =>
    obtain ⟨k, hk, rfl, hd⟩ := hrel
    by_cases hlt : k < l.length
    · obtain ⟨b, off, rfl, hc⟩ := ints_get H.out hlt
      have HK := Lib.hid (HB.out k)
      have HP : Hid (0 < k → w.cell? ⟨b, off + (k - 1), none⟩ = some (.int .i64 (gi l (k - 1)))) := fun h0 => by
        obtain ⟨b2, off2, e, hc2⟩ := ints_get H.out (k := k - 1) (by omega)
        cases e; exact hc2
      generalize gi l k = x at *
      generalize gi l (k - 1) = y at *
      by_cases h1 : x < 0
      · go_wp2_with fail
        go_ret
        have hr : setBad l k = 2 := by rw [HK.out, if_pos (.inl h1)]
        exact ⟨ret_int (by rw [HF.out, firstNZ_at hlt hd.out (by rw [hr]; decide), hr]), rfl⟩
      by_cases h2 : 63 < x
      · go_wp2_with fail
        go_ret
        have hr : setBad l k = 2 := by rw [HK.out, if_pos (.inr h2)]
        exact ⟨ret_int (by rw [HF.out, firstNZ_at hlt hd.out (by rw [hr]; decide), hr]), rfl⟩
      have HX : Hid (¬ (x < 0 ∨ 63 < x)) := by unfold Hid; omega
      by_cases h0 : k = 0
      · subst h0
        rw [Nat.add_zero] at hc
        go_wp2_with fail
        go_round
        case rel => exact ⟨1, by omega, by go_num, fun j hj => by
          have : j = 0 := by omega
          subst this; rw [HK.out, if_neg HX.out, if_neg (by omega)]⟩
        case measure => simp [intOf]; omega
      · have hcp := HP.out (by omega)
        have i1 : (0 : Int) ≤ (k : Int) - 1 := by omega
        have i2 : (k : Int) - 1 < (l.length : Int) := by omega
        have i3 : ((k : Int) - 1).toNat = k - 1 := by omega
        have i4 : wrap64 ((k : Int) - 1) = (k : Int) - 1 := by unfold wrap64; omega
        have i5 : (0 : Int) < (k : Int) := by omega
        have i6 : 0 < k := by omega
        by_cases h3 : x ≤ y
        · go_wp2_with fail
          go_ret
          have hr : setBad l k = 10 := by rw [HK.out, if_neg HX.out, if_pos ⟨by omega, h3⟩]
          exact ⟨ret_int (by rw [HF.out, firstNZ_at hlt hd.out (by rw [hr]; decide), hr]), rfl⟩
        · have HY := Lib.hid h3
          go_wp2_with fail
          go_round
          case rel => exact ⟨k + 1, by omega, by clear i4; go_num, fun j hj => by
            by_cases e : j = k
            · subst e; rw [HK.out, if_neg HX.out, if_neg (fun q => HY.out q.2)]
            · exact hd.out j (by omega)⟩
          case measure => clear i4; simp [intOf]; omega
    · obtain rfl : k = l.length := by omega
      clear hlt
      go_wp2_with fail
      go_ret
      exact ⟨ret_int (by rw [HF.out, firstNZ_zero hd.out]), rfl⟩
set_option maxRecDepth 100000 in
set_option maxHeartbeats 1000000 in
theorem splCheckB_t (S : Nat → Prop) (w : World) (v : Value) (n : Int) (l : List Int) (h : IntsAt S w v l) (hn : l.length ≤ 9223372036854775807) :
    Calls Tryz.prog 59 #[.int .i64 n, v] w fun e w' => e = .returned (.int .i64 (splErr n l)) ∧ w = w' := by
  have HF : Hid (splErr n l = if n < 1 ∨ 32 < n then 2 else if setErr l ≠ 0 then setErr l else if 0 < l.length ∧ (gi l 0 = 0 ∨ n ≤ gi l (l.length - 1)) then 2 else if (l.length : Int) < 2 ∨ n - 2 < l.length then 8 else 0) := rfl
  have HC := Lib.hid (setCheckB_t S w v l h hn)
  obtain ⟨p, cap, rfl, -, -⟩ := SlAt.open h
  have H : Hid (IntsAt S w (.slice p l.length cap) l) := h
  clear h
  by_cases h1 : n < 1
  · go_enter Tryz.func59, Tryz.ntmps59
    go_wp2_with fail
    go_ret
    exact ⟨ret_int (by rw [HF.out, if_pos (.inl h1)]), rfl⟩
  by_cases h2 : 32 < n
  · go_enter Tryz.func59, Tryz.ntmps59
    go_wp2_with fail
    go_ret
    exact ⟨ret_int (by rw [HF.out, if_pos (.inr h2)]), rfl⟩
  have HN : Hid (¬ (n < 1 ∨ 32 < n)) := by unfold Hid; omega
  generalize hse : setErr l = se at *
  by_cases h3 : se = 0
  · have HSE : Hid (¬ se ≠ 0) := fun e => e h3
    subst h3
    have hm2 : wrap64 (n - 2) = n - 2 := by unfold wrap64; omega
    by_cases h0 : l.length = 0
    · have h00 : ((l.length : Int) < 2) := by omega
      have h01 : ¬ (0 : Int) < (l.length : Int) := by omega
      have h02 : ¬ 0 < l.length := by omega
      clear h0
      go_enter Tryz.func59, Tryz.ntmps59
      go_wp2_with fail
      refine HC.out.mono ?_
      rintro e w' ⟨rfl, rfl⟩
      go_wp2_with fail
      go_ret
      exact ⟨ret_int (by rw [HF.out, if_neg HN.out, if_neg HSE.out, if_neg (by omega), if_pos (.inl h00)]), rfl⟩
    · obtain ⟨b, off, rfl, hc⟩ := ints_get H.out (show 0 < l.length by omega)
      obtain ⟨b2, off2, e2, hd⟩ := ints_get H.out (show l.length - 1 < l.length by omega)
      cases e2
      rw [Nat.add_zero] at hc
      have i0 : 0 < l.length := by omega
      have i00 : (0 : Int) < (l.length : Int) := by omega
      have i1 : (0 : Int) ≤ (l.length : Int) - 1 := by omega
      have i2 : (l.length : Int) - 1 < (l.length : Int) := by omega
      have i3 : ((l.length : Int) - 1).toNat = l.length - 1 := by omega
      have i4 : wrap64 ((l.length : Int) - 1) = (l.length : Int) - 1 := by unfold wrap64; omega
      generalize gi l 0 = x at *
      generalize gi l (l.length - 1) = y at *
      by_cases h4 : x = 0
      · subst h4
        go_enter Tryz.func59, Tryz.ntmps59
        go_wp2_with fail
        refine HC.out.mono ?_
        rintro e w' ⟨rfl, rfl⟩
        go_wp2_with fail
        go_ret
        exact ⟨ret_int (by rw [HF.out, if_neg HN.out, if_neg HSE.out, if_pos ⟨i0, .inl (by simp)⟩]), rfl⟩
      have h4b : (x == 0) = false := by simpa using h4
      by_cases h5 : n ≤ y
      · go_enter Tryz.func59, Tryz.ntmps59
        go_wp2_with fail
        refine HC.out.mono ?_
        rintro e w' ⟨rfl, rfl⟩
        go_wp2_with fail
        go_ret
        exact ⟨ret_int (by rw [HF.out, if_neg HN.out, if_neg HSE.out, if_pos ⟨i0, .inr h5⟩]), rfl⟩
      have HQ : Hid (¬ (0 < l.length ∧ (x = 0 ∨ n ≤ y))) := fun e => by
        rcases e.2 with e | e
        · exact h4 e
        · exact h5 e
      by_cases h6 : (l.length : Int) < 2
      · go_enter Tryz.func59, Tryz.ntmps59
        go_wp2_with fail
        refine HC.out.mono ?_
        rintro e w' ⟨rfl, rfl⟩
        go_wp2_with fail
        go_ret
        exact ⟨ret_int (by rw [HF.out, if_neg HN.out, if_neg HSE.out, if_neg HQ.out, if_pos (.inl h6)]), rfl⟩
      by_cases h7 : n - 2 < (l.length : Int)
      · go_enter Tryz.func59, Tryz.ntmps59
        go_wp2_with fail
        refine HC.out.mono ?_
        rintro e w' ⟨rfl, rfl⟩
        go_wp2_with fail
        go_ret
        exact ⟨ret_int (by rw [HF.out, if_neg HN.out, if_neg HSE.out, if_neg HQ.out, if_pos (.inr h7)]), rfl⟩
      · go_enter Tryz.func59, Tryz.ntmps59
        go_wp2_with fail
        refine HC.out.mono ?_
        rintro e w' ⟨rfl, rfl⟩
        go_wp2_with fail
        go_ret
        exact ⟨ret_int (by rw [HF.out, if_neg HN.out, if_neg HSE.out, if_neg HQ.out, if_neg (by omega)]), rfl⟩
  · have hsb : (se == 0) = false := by simpa using h3
    have hsc : (se != 0) = true := by simpa using h3
    go_enter Tryz.func59, Tryz.ntmps59
    go_wp2_with fail
    refine HC.out.mono ?_
    rintro e w' ⟨rfl, rfl⟩
    go_wp2_with fail
    go_ret
    exact ⟨ret_int (by rw [HF.out, if_neg HN.out, if_pos h3]), rfl⟩
end Go.Proofs.YtcbmbhghmfehpaaGreat
namespace Go.Proofs.YtcbmbhghmfehpaaGreat
open Go.RowKit Go.Shelf Go.Deep
theorem any_memQ (x : Int) (xs : List Int) : ((List.range xs.length).any fun j => decide (x = gi xs j)) = xs.contains x := by
  rw [Bool.eq_iff_iff, List.any_eq_true, List.contains_iff_mem]
  constructor
  · rintro ⟨j, hj, h⟩
    rw [of_decide_eq_true h]; exact gi_mem (List.mem_range.1 hj)
  · intro h
    obtain ⟨j, hj, e⟩ := List.getElem_of_mem h
    exact ⟨j, List.mem_range.2 hj, decide_eq_true (by simp [gi, hj, e])⟩
theorem c4_step (a b : List Int) (i j : Bool) (n : Nat) : c4 a b i j (n + 1) = c4 a b i j n + if (a.contains (n : Int) == i && b.contains (n : Int) == j) then 1 else 0 := rfl
set_option maxRecDepth 100000 in
set_option maxHeartbeats 8000000 in
theorem scomp_law (w : World) (v u : Value) (nq : Int) (a b : List Int) (hq : 0 ≤ nq ∧ nq ≤ 255) (h : IntsAt Any w v a) (h2 : IntsAt Any w u b) (hn : a.length ≤ 9223372036854775807) (hm : b.length ≤ 9223372036854775807) :
    Calls Tryz.prog 7 #[.int .u8 nq, v, u] w fun e w' => e = .returned (.bool true) ∧ Up w w' := by
  have HAW := Lib.hid awake32_t
  obtain ⟨pp, pc, rfl, _, _⟩ := SlAt.open h
  obtain ⟨qp, qc, rfl, _, _⟩ := SlAt.open h2
  have HA := Lib.hid h
  have HB := Lib.hid h2
  obtain ⟨k, hk, hk4⟩ : ∃ k : Nat, 4 + nq % 9 = (k : Int) ∧ 4 ≤ k ∧ k ≤ 12 := ⟨(4 + nq % 9).toNat, by omega, by omega⟩
  have hkt : nq.tmod 9 = (k : Int) - 4 := by rw [Int.tmod_eq_emod_of_nonneg hq.1]; omega
  have hk5 : (4 : Int) + ((k : Int) - 4) = (k : Int) := by omega
  have HKL := Lib.hid hk4
  have HC1 : Hid (∀ W, Up w W → Calls Tryz.prog 59 #[.int .i64 (k : Int), .slice pp a.length pc] W fun e w' => e = .returned (.int .i64 (splErr k a)) ∧ W = w') := fun W hW => splCheckB_t Any W _ k a (IntsAt.keep h (hW.kept _)) hn
  have HC2 : Hid (∀ W, Up w W → Calls Tryz.prog 59 #[.int .i64 (k : Int), .slice qp b.length qc] W fun e w' => e = .returned (.int .i64 (splErr k b)) ∧ W = w') := fun W hW => splCheckB_t Any W _ k b (IntsAt.keep h2 (hW.kept _)) hm
  clear h h2
  by_cases e1 : splErr k a = 0
  case neg =>
    have d1 : (splErr k a != 0) = true := by simpa using e1
    clear e1
    generalize splErr (k : Int) a = z at *
    go_enter Tryz.func7, Tryz.ntmps7
    go_wp2_with fail
    refine (HC1.out w (Up.refl _)).mono ?_
    rintro e w1 ⟨rfl, rfl⟩
    go_wp2_with fail
    refine (HAW.out _).mono ?_
    rintro e w' ⟨rfl, hu⟩
    go_wp2_with fail
    go_ret
    exact ⟨rfl, hu⟩
  by_cases e2 : splErr k b = 0
  case neg =>
    have d2 : (splErr k b != 0) = true := by simpa using e2
    rw [e1] at HC1
    clear e1 e2
    generalize splErr (k : Int) b = z at *
    go_enter Tryz.func7, Tryz.ntmps7
    go_wp2_with fail
    refine (HC1.out w (Up.refl _)).mono ?_
    rintro e w1 ⟨rfl, rfl⟩
    go_wp2_with fail
    refine (HC2.out w (Up.refl _)).mono ?_
    rintro e w1 ⟨rfl, rfl⟩
    go_wp2_with fail
    refine (HAW.out _).mono ?_
    rintro e w' ⟨rfl, hu⟩
    go_wp2_with fail
    go_ret
    exact ⟨rfl, hu⟩
  have oa := splErr_zero.1 e1
  have ob := splErr_zero.1 e2
  have hla : a.length ≤ 12 := by have := oa.len; omega
  have hlb : b.length ≤ 12 := by have := ob.len; omega
  rw [e1] at HC1
  rw [e2] at HC2
  have HCA : Hid (∀ W (x : Int), Up w W → Calls Tryz.prog 60 #[.slice pp a.length pc, .int .i64 x] W fun e w' => e = .returned (.bool (a.contains x)) ∧ W = w') := fun W x hW => by
    have h := contains_int_t Any W _ a x (IntsAt.keep HA.out (hW.kept _)) (by omega)
    rwa [any_memQ] at h
  have HCB : Hid (∀ W (x : Int), Up w W → Calls Tryz.prog 60 #[.slice qp b.length qc, .int .i64 x] W fun e w' => e = .returned (.bool (b.contains x)) ∧ W = w') := fun W x hW => by
    have h := contains_int_t Any W _ b x (IntsAt.keep HB.out (hW.kept _)) (by omega)
    rwa [any_memQ] at h
  have hce : cpErr (k : Int) a b = 0 := by unfold cpErr; rw [e1, e2]; rfl
  have hce2 : cpErr (k : Int) b a = 0 := by unfold cpErr; rw [e1, e2]; rfl
  have hcb : cpB (k : Int) a b = compB a b := by unfold cpB; rw [hce]; rfl
  have hcb2 : cpB (k : Int) b a = compB a b := by unfold cpB; rw [hce2, compB_symm oa.set ob.set]; rfl
  have HP1 : Hid (∀ W, Up w W → Calls Tryz.prog 24 #[.int .i64 (k : Int), .slice pp a.length pc, .slice qp b.length qc] W fun e w' => e = .returned (.tuple #[.bool (compB a b), .int .i64 0]) ∧ Up W w') := fun W hW => by
    have h := compatible_t Any W _ _ (k : Int) a b (IntsAt.keep HA.out (hW.kept _)) (IntsAt.keep HB.out (hW.kept _)) (by omega) (by omega)
    rwa [hce, hcb] at h
  have HP2 : Hid (∀ W, Up w W → Calls Tryz.prog 24 #[.int .i64 (k : Int), .slice qp b.length qc, .slice pp a.length pc] W fun e w' => e = .returned (.tuple #[.bool (compB a b), .int .i64 0]) ∧ Up W w') := fun W hW => by
    have h := compatible_t Any W _ _ (k : Int) b a (IntsAt.keep HB.out (hW.kept _)) (IntsAt.keep HA.out (hW.kept _)) (by omega) (by omega)
    rwa [hce2, hcb2] at h
  have HLAW := Lib.hid (comp_law oa ob)
  have HLE := Lib.hid (c4_le a b)
  have HST := Lib.hid (c4_step a b)
  clear e1 e2 oa ob hla hlb hce hce2 hcb hcb2 HA HB hn hm
  go_enter Tryz.func7, Tryz.ntmps7
  go_wp2_with fail
  refine (HC1.out w (Up.refl _)).mono ?_
  rintro e w1 ⟨rfl, rfl⟩
  go_wp2_with fail
  refine (HC2.out w (Up.refl _)).mono ?_
  rintro e w1 ⟨rfl, rfl⟩
  go_wp2_with fail
  generalize hw1 : w.alloc (Obj.cells #[Value.int .i64 0, Value.int .i64 0, Value.int .i64 0, Value.int .i64 0] _) = w1 at *
  have hu1 : Up w w1 := hw1 ▸ Up.alloc w _
  have hq1 : Sq w1 w.heap.size (.int .i64 0) (.int .i64 0) (.int .i64 0) (.int .i64 0) := ⟨_, by rw [← hw1]; exact World.alloc_heap_new _ _⟩
  have HU1 := Lib.hid hu1
  have HQ1 := Lib.hid hq1
  clear hw1 hu1 hq1 HC1 HC2 hk4 hk hkt hk5
  go_loopw [9, 10, 11, 33] (fun _ _ _ i wr => ∃ x : Nat, x ≤ k ∧ i = .int .i64 x ∧ Hid (Up w wr) ∧ Hid (Sq wr w.heap.size (.int .i64 (c4 a b false false x : Nat)) (.int .i64 (c4 a b false true x : Nat)) (.int .i64 (c4 a b true false x : Nat)) (.int .i64 (c4 a b true true x : Nat)))) (fun _ _ _ i _ => k - (intOf i).toNat)
  case atStart => exact ⟨0, Nat.zero_le _, rfl, HU1.out, HQ1.out⟩
  case round =>
    obtain ⟨x, hx, rfl, hUr, hQ⟩ := hrel
    obtain ⟨wo, rfl⟩ : ∃ wo : World, wo = wr := ⟨_, rfl⟩
    by_cases hlt : x < k
    · have i1 : (0 : Int) ≤ (x : Int) := Int.natCast_nonneg _
      have i2 : (x : Int) < (k : Int) := Int.ofNat_lt.2 hlt
      have i3 : (x : Int) < 64 := by have := HKL.out; omega
      have HLT : Hid (x + 1 ≤ k ∧ k ≤ 12) := ⟨hlt, HKL.out.2⟩
      have HX1 := Lib.hid (HCA.out wo (x : Int) hUr.out)
      have HX2 := Lib.hid (HCB.out wo (x : Int) hUr.out)
      have HS : Hid (∀ i j : Bool, c4 a b i j (x + 1) = c4 a b i j x + if (a.contains (x : Int) == i && b.contains (x : Int) == j) then 1 else 0) := fun i j => HST.out i j x
      have HL : Hid (∀ i j : Bool, c4 a b i j x ≤ 12) := fun i j => Nat.le_trans (HLE.out i j x) (by have := HLT.out; omega)
      clear hlt hx
      generalize a.contains (x : Int) = ca at *
      generalize b.contains (x : Int) = cb at *
      cases ca <;> cases cb
      · have hl : c4 a b false false x ≤ 12 := HL.out _ _
        have S0 : Hid (c4 a b false false (x + 1) = c4 a b false false x + 1) := HS.out _ _
        have S1 : Hid (c4 a b false true (x + 1) = c4 a b false true x) := HS.out _ _
        have S2 : Hid (c4 a b true false (x + 1) = c4 a b true false x) := HS.out _ _
        have S3 : Hid (c4 a b true true (x + 1) = c4 a b true true x) := HS.out _ _
        clear HS HL
        go_wp2_with fail
        refine HX1.out.mono ?_
        rintro e w2 ⟨rfl, rfl⟩
        go_wp2_with fail
        refine HX2.out.mono ?_
        rintro e w2 ⟨rfl, rfl⟩
        obtain ⟨q0, q1, q2, q3⟩ := hQ.out.cells
        have hf := hQ.out.free 0
        go_wp2_with fail
        refine region_tail_p 8 (by kernel_rfl) (by kernel_rfl) ?_
        simp only [List.take_succ_cons, List.take_zero, List.drop_succ_cons, List.drop_zero]
        repeat (go_big_quiet_step (fail))
        refine wpQuiet_nil ?_
        intro _ hw'
        obtain ⟨nd, hw''⟩ := hw'
        subst hw''
        have hc2 : (wo.drewN nd).cell? ⟨w.heap.size, 0, none⟩ = _ := q0
        have hf2 : (wo.drewN nd).frozen? ⟨w.heap.size, 0, none⟩ = false := hf
        go_wp2_with fail
        go_roundw
        case rel => exact ⟨x + 1, HLT.out.1, by have := HLT.out; go_num, (hUr.out.trans (Up.drewN _ nd)).setCell (Nat.le_refl _) _, by rw [S0.out, S1.out, S2.out, S3.out]; exact (hQ.out.same (W' := wo.drewN nd) rfl).set0 _⟩
        case measure => have := HLT.out; simp [intOf]; omega
      · have hl : c4 a b false true x ≤ 12 := HL.out _ _
        have S0 : Hid (c4 a b false false (x + 1) = c4 a b false false x) := HS.out _ _
        have S1 : Hid (c4 a b false true (x + 1) = c4 a b false true x + 1) := HS.out _ _
        have S2 : Hid (c4 a b true false (x + 1) = c4 a b true false x) := HS.out _ _
        have S3 : Hid (c4 a b true true (x + 1) = c4 a b true true x) := HS.out _ _
        clear HS HL
        go_wp2_with fail
        refine HX1.out.mono ?_
        rintro e w2 ⟨rfl, rfl⟩
        go_wp2_with fail
        refine HX2.out.mono ?_
        rintro e w2 ⟨rfl, rfl⟩
        obtain ⟨q0, q1, q2, q3⟩ := hQ.out.cells
        have hf := hQ.out.free 1
        go_wp2_with fail
        refine region_tail_p 8 (by kernel_rfl) (by kernel_rfl) ?_
        simp only [List.take_succ_cons, List.take_zero, List.drop_succ_cons, List.drop_zero]
        repeat (go_big_quiet_step (fail))
        refine wpQuiet_nil ?_
        intro _ hw'
        obtain ⟨nd, hw''⟩ := hw'
        subst hw''
        have hc2 : (wo.drewN nd).cell? ⟨w.heap.size, 1, none⟩ = _ := q1
        have hf2 : (wo.drewN nd).frozen? ⟨w.heap.size, 1, none⟩ = false := hf
        go_wp2_with fail
        go_roundw
        case rel => exact ⟨x + 1, HLT.out.1, by have := HLT.out; go_num, (hUr.out.trans (Up.drewN _ nd)).setCell (Nat.le_refl _) _, by rw [S0.out, S1.out, S2.out, S3.out]; exact (hQ.out.same (W' := wo.drewN nd) rfl).set1 _⟩
        case measure => have := HLT.out; simp [intOf]; omega
      · have hl : c4 a b true false x ≤ 12 := HL.out _ _
        have S0 : Hid (c4 a b false false (x + 1) = c4 a b false false x) := HS.out _ _
        have S1 : Hid (c4 a b false true (x + 1) = c4 a b false true x) := HS.out _ _
        have S2 : Hid (c4 a b true false (x + 1) = c4 a b true false x + 1) := HS.out _ _
        have S3 : Hid (c4 a b true true (x + 1) = c4 a b true true x) := HS.out _ _
        clear HS HL
        go_wp2_with fail
        refine HX1.out.mono ?_
        rintro e w2 ⟨rfl, rfl⟩
        go_wp2_with fail
        refine HX2.out.mono ?_
        rintro e w2 ⟨rfl, rfl⟩
        obtain ⟨q0, q1, q2, q3⟩ := hQ.out.cells
        have hf := hQ.out.free 2
        go_wp2_with fail
        refine region_tail_p 8 (by kernel_rfl) (by kernel_rfl) ?_
        simp only [List.take_succ_cons, List.take_zero, List.drop_succ_cons, List.drop_zero]
        repeat (go_big_quiet_step (fail))
        refine wpQuiet_nil ?_
        intro _ hw'
        obtain ⟨nd, hw''⟩ := hw'
        subst hw''
        have hc2 : (wo.drewN nd).cell? ⟨w.heap.size, 2, none⟩ = _ := q2
        have hf2 : (wo.drewN nd).frozen? ⟨w.heap.size, 2, none⟩ = false := hf
        go_wp2_with fail
        go_roundw
        case rel => exact ⟨x + 1, HLT.out.1, by have := HLT.out; go_num, (hUr.out.trans (Up.drewN _ nd)).setCell (Nat.le_refl _) _, by rw [S0.out, S1.out, S2.out, S3.out]; exact (hQ.out.same (W' := wo.drewN nd) rfl).set2 _⟩
        case measure => have := HLT.out; simp [intOf]; omega
      · have hl : c4 a b true true x ≤ 12 := HL.out _ _
        have S0 : Hid (c4 a b false false (x + 1) = c4 a b false false x) := HS.out _ _
        have S1 : Hid (c4 a b false true (x + 1) = c4 a b false true x) := HS.out _ _
        have S2 : Hid (c4 a b true false (x + 1) = c4 a b true false x) := HS.out _ _
        have S3 : Hid (c4 a b true true (x + 1) = c4 a b true true x + 1) := HS.out _ _
        clear HS HL
        go_wp2_with fail
        refine HX1.out.mono ?_
        rintro e w2 ⟨rfl, rfl⟩
        go_wp2_with fail
        refine HX2.out.mono ?_
        rintro e w2 ⟨rfl, rfl⟩
        obtain ⟨q0, q1, q2, q3⟩ := hQ.out.cells
        have hf := hQ.out.free 3
        go_wp2_with fail
        refine region_tail_p 8 (by kernel_rfl) (by kernel_rfl) ?_
        simp only [List.take_succ_cons, List.take_zero, List.drop_succ_cons, List.drop_zero]
        repeat (go_big_quiet_step (fail))
        refine wpQuiet_nil ?_
        intro _ hw'
        obtain ⟨nd, hw''⟩ := hw'
        subst hw''
        have hc2 : (wo.drewN nd).cell? ⟨w.heap.size, 3, none⟩ = _ := q3
        have hf2 : (wo.drewN nd).frozen? ⟨w.heap.size, 3, none⟩ = false := hf
        go_wp2_with fail
        go_roundw
        case rel => exact ⟨x + 1, HLT.out.1, by have := HLT.out; go_num, (hUr.out.trans (Up.drewN _ nd)).setCell (Nat.le_refl _) _, by rw [S0.out, S1.out, S2.out, S3.out]; exact (hQ.out.same (W' := wo.drewN nd) rfl).set3 _⟩
        case measure => have := HLT.out; simp [intOf]; omega
    · obtain rfl : x = k := by omega
      have HUo := Lib.hid hUr.out
      have HQo := Lib.hid hQ.out
      have HL2 := HLAW.out
      clear hlt hx hQ hUr HLE HST HLAW
      generalize c4 a b false false x = z0 at *
      generalize c4 a b false true x = z1 at *
      generalize c4 a b true false x = z2 at *
      generalize c4 a b true true x = z3 at *
      have eq : ∀ z : Nat, decide (z = 0) = ((z : Int) == 0) := fun z => by rw [Bool.eq_iff_iff, decide_eq_true_eq, beq_iff_eq]; omega
      rw [eq, eq, eq, eq] at HL2
      generalize (z0 : Int) = y0 at *
      generalize (z1 : Int) = y1 at *
      generalize (z2 : Int) = y2 at *
      generalize (z3 : Int) = y3 at *
      rw [HL2] at HP1 HP2
      clear HL2 eq
      go_wp2_with fail
      refine (HP1.out wo HUo.out).mono ?_
      rintro e w2 ⟨rfl, hu2⟩
      have HU2 := Lib.hid (HUo.out.trans hu2)
      have HQ2 := Lib.hid (HQo.out.up hu2)
      clear hu2 HUo HQo HP1
      go_wp2_with fail
      refine (HP2.out w2 HU2.out).mono ?_
      rintro e w3 ⟨rfl, hu3⟩
      have HU3 := Lib.hid (HU2.out.trans hu3)
      obtain ⟨q0, q1, q2, q3⟩ := (HQ2.out.up hu3).cells
      clear hu3 HU2 HQ2 HP2
      cases e0 : (y0 == 0) <;> cases e1 : (y1 == 0) <;> cases e2 : (y2 == 0) <;> cases e3 : (y3 == 0)
      all_goals
        go_wp2_with (go_at_call 47; refine (HAW.out _).mono ?_; rintro e w' ⟨rfl, hu⟩)
        go_ret
        exact ⟨rfl, HU3.out.trans hu⟩
end Go.Proofs.YtcbmbhghmfehpaaGreat
