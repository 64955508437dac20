/- The contracts of parsimony.best, least. -/
import Derived.Test.YthgabkgmkolobaaGreatQ3
import Derived.Test.YthgabkgmkolobaaGreatQ1
set_option maxRecDepth 100000
namespace Go.Proofs.YthgabkgmkolobaaGreat
open Go.RowKit Go.Deep
def xO (x : Int × Int) : Value := .tuple #[.int .i64 x.1, .int .i64 x.2]
set_option maxHeartbeats 800000 in
theorem Xl (S T : Nat → Prop) (w : World) (vc vr : Value) (cs : List (List Int)) (row : List Int) (st : Nat) (hC : aU S w vc cs) (hR : aq T w vr row) (hst : st < cs.length)
  (hrl : row.length ≤ (gl cs st).length) (Xm : row.length ≤ 1000) (hcb : ∀ k, 0 ≤ gi (gl cs st) k ∧ gi (gl cs st) k ≤ 1000) (hrb : ∀ k, gi row k ≤ 1000000000) :
  Calls Tryz.prog 232 #[vc, .int .i64 st, vr] w fun e w' => e = .returned (xO (bh (gi (gl cs st)) (gi row) row.length)) ∧ w = w' := by
 obtain ⟨f, gN, hrow⟩ := hC
 obtain ⟨p, cap, rfl, hcap, H⟩ := aB.open gN
 obtain ⟨q, dw, rfl, sX, HR⟩ := aB.open hR
 obtain ⟨b, off, rfl, hc0⟩ := H st hst
 obtain ⟨q2, cap3, e3, hcap3, HC⟩ := aB.open (hrow st hst)
 rw [e3] at hc0
 have hbd := FT (c := gi (gl cs st)) (row := gi row) (A := 1000000000) (by omega) hcb hrb
 have N9 := aa HR
 have HHC := aa HC
 have jO := aa hbd
 have DR := aa hcb
 have lT := aa hrb
 have kr := lD (gi (gl cs st)) (gi row)
 have rF := aa kr
 clear HR HC gN hrow H hR e3 hbd hcb hrb kr
 generalize gl cs st = Xn at *
 unfold xO
 go_enter Tryz.func232, Tryz.ntmps232
 go_wp2_with fail
 go_loop [8, 9, 10, 11, 12, 15] (fun l o _ _ _ i => ∃ k : Nat, ∃ x y : Int, k ≤ row.length ∧ i = .int .i64 k ∧ l = .int .i64 x ∧ o = .int .i64 y ∧ -1 ≤ x ∧ x ≤ 1000001000 ∧ Hid (bh (gi Xn) (gi row) k = (x, y))) (fun _ _ _ _ _ i => row.length - (intOf i).toNat)
 case atStart => exact ⟨0, -1, 0, by omega, rfl, rfl, rfl, by omega, by omega, rfl⟩
 case round =>
  obtain ⟨k, x, y, hk, rfl, rfl, rfl, fA, hl2, hx⟩ := hrel
  by_cases hlt : k < row.length
  ·obtain ⟨rb, ro, rfl, h1⟩ := N9.out k hlt
   obtain ⟨cb, co, rfl, h2⟩ := HHC.out k (by omega)
   have hb1 := DR.out k
   have hb2 := lT.out k
   have hs := rF.out k
   have HS := aa hs
   clear N9 HHC jO DR lT rF hs
   generalize gi Xn k = c at *
   generalize gi row k = r at *
   obtain ⟨hb1, hb3⟩ := hb1
   by_cases ku : r < 0
   ·go_wp2_with fail
    go_round
    case rel => exact ⟨k + 1, x, y, by omega, by go_num, rfl, rfl, fA, hl2, by unfold Hid; rw [HS.out, if_pos ku, hx.out]⟩
    case measure => simp [intOf]; omega
   ·by_cases hx0 : x < 0
    ·go_wp2_with fail
     go_round
     case rel => exact ⟨k + 1, c + r, k, by omega, by go_num, rfl, rfl, by omega, by omega, by unfold Hid; rw [HS.out, if_neg ku, hx.out, if_pos (.inl hx0)]⟩
     case measure => simp [intOf]; omega
    ·by_cases hlt2 : c + r < x
     ·go_wp2_with fail
      go_round
      case rel => exact ⟨k + 1, c + r, k, by omega, by go_num, rfl, rfl, by omega, by omega, by unfold Hid; rw [HS.out, if_neg ku, hx.out, if_pos (.inr hlt2)]⟩
      case measure => simp [intOf]; omega
     ·go_wp2_with fail
      go_round
      case rel => exact ⟨k + 1, x, y, by omega, by go_num, rfl, rfl, fA, hl2, by unfold Hid; rw [HS.out, if_neg ku, hx.out, if_neg (by simp; omega)]⟩
      case measure => simp [intOf]; omega
  ·obtain rfl : k = row.length := by omega
   clear hlt
   go_wp2_with fail
   go_ret2
   exact ⟨by rw [hx.out]; rfl, rfl⟩
set_option maxHeartbeats 800000 in
theorem VM (T : Nat → Prop) (w : World) (vr : Value) (row : List Int) (hR : aq T w vr row) (Xm : row.length ≤ 1000) :
  Calls Tryz.prog 169 #[vr] w fun e w' => e = .returned (xO (bh (fun _ => 0) (gi row) row.length)) ∧ w = w' := by
 obtain ⟨q, dw, rfl, sX, HR⟩ := aB.open hR
 have N9 := aa HR
 have kr := lD (fun _ => 0) (gi row)
 have rF := aa kr
 clear HR hR kr
 unfold xO
 go_enter Tryz.func169, Tryz.ntmps169
 go_wp2_with fail
 go_loop [4, 5, 6, 7, 10] (fun l o _ _ i => ∃ k : Nat, ∃ x y : Int, k ≤ row.length ∧ i = .int .i64 k ∧ l = .int .i64 x ∧ o = .int .i64 y ∧ Hid (bh (fun _ => 0) (gi row) k = (x, y))) (fun _ _ _ _ i => row.length - (intOf i).toNat)
 case atStart => exact ⟨0, -1, 0, by omega, rfl, rfl, rfl, rfl⟩
 case round =>
  obtain ⟨k, x, y, hk, rfl, rfl, rfl, hx⟩ := hrel
  by_cases hlt : k < row.length
  ·obtain ⟨rb, ro, rfl, h1⟩ := N9.out k hlt
   have hs := rF.out k
   have HS := aa hs
   clear N9 rF hs
   generalize gi row k = r at *
   by_cases ku : r < 0
   ·go_wp2_with fail
    go_round
    case rel => exact ⟨k + 1, x, y, by omega, by go_num, rfl, rfl, by unfold Hid; rw [HS.out, if_pos ku, hx.out]⟩
    case measure => simp [intOf]; omega
   ·by_cases hx0 : x < 0
    ·go_wp2_with fail
     go_round
     case rel => exact ⟨k + 1, r, k, by omega, by go_num, rfl, rfl, by unfold Hid; rw [HS.out, if_neg ku, hx.out, if_pos (.inl hx0), Int.zero_add]⟩
     case measure => simp [intOf]; omega
    ·by_cases hlt2 : r < x
     ·go_wp2_with fail
      go_round
      case rel => exact ⟨k + 1, r, k, by omega, by go_num, rfl, rfl, by unfold Hid; rw [HS.out, if_neg ku, hx.out, if_pos (.inr (by omega)), Int.zero_add]⟩
      case measure => simp [intOf]; omega
     ·go_wp2_with fail
      go_round
      case rel => exact ⟨k + 1, x, y, by omega, by go_num, rfl, rfl, by unfold Hid; rw [HS.out, if_neg ku, hx.out, if_neg (by simp; omega)]⟩
      case measure => simp [intOf]; omega
  ·obtain rfl : k = row.length := by omega
   clear hlt
   go_wp2_with fail
   go_ret2
   exact ⟨by rw [hx.out]; rfl, rfl⟩
end Go.Proofs.YthgabkgmkolobaaGreat
