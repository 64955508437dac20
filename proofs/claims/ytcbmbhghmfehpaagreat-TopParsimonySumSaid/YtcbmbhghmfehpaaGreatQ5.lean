/- The contracts of parsimony.best, least. -/
import Derived.Test.YtcbmbhghmfehpaaGreatQ3
import Derived.Test.YtcbmbhghmfehpaaGreatQ1
namespace Go.Proofs.YtcbmbhghmfehpaaGreat
open Go.RowKit Go.Deep
def pairOf (x : Int × Int) : Value := .tuple #[.int .i64 x.1, .int .i64 x.2]
set_option maxRecDepth 100000 in
set_option maxHeartbeats 800000 in
theorem best_t (S T : Nat → Prop) (w : World) (vc vr : Value) (cs : List (List Int)) (row : List Int) (st : Nat) (hC : RowsAt S w vc cs) (hR : IntsAt T w vr row) (hst : st < cs.length)
    (hrl : row.length ≤ (gl cs st).length) (hrn : row.length ≤ 1000) (hcb : ∀ k, 0 ≤ gi (gl cs st) k ∧ gi (gl cs st) k ≤ 1000) (hrb : ∀ k, gi row k ≤ 1000000000) :
    Calls Tryz.prog 170 #[vc, .int .i64 st, vr] w fun e w' => e = .returned (pairOf (bestK (gi (gl cs st)) (gi row) row.length)) ∧ w = w' := by
  obtain ⟨f, hsl, hrow⟩ := hC
  obtain ⟨p, cap, rfl, hcap, H⟩ := SlAt.open hsl
  obtain ⟨q, cap2, rfl, hcap2, HR⟩ := SlAt.open hR
  obtain ⟨b, off, rfl, hc0⟩ := H st hst
  obtain ⟨q2, cap3, e3, hcap3, HC⟩ := SlAt.open (hrow st hst)
  rw [e3] at hc0
  have hbd := bestK_bd (c := gi (gl cs st)) (row := gi row) (A := 1000000000) (by omega) hcb hrb
  have HHR := Lib.hid HR
  have HHC := Lib.hid HC
  have HBD := Lib.hid hbd
  have HCB := Lib.hid hcb
  have HRB := Lib.hid hrb
  have hsucc := bestK_succ (gi (gl cs st)) (gi row)
  have HSU := Lib.hid hsucc
  clear HR HC hsl hrow H hR e3 hbd hcb hrb hsucc
  generalize gl cs st = crow at *
  unfold pairOf
  go_enter Tryz.func170, Tryz.ntmps170
  go_wp2_with fail
  go_loop [8, 9, 10, 11, 12, 15] (fun l o _ _ _ i => ∃ k : Nat, ∃ x y : Int, k ≤ row.length ∧ i = .int .i64 k ∧ l = .int .i64 x ∧ o = .int .i64 y ∧ -1 ≤ x ∧ x ≤ 1000001000 ∧ Hid (bestK (gi crow) (gi row) k = (x, y))) (fun _ _ _ _ _ i => row.length - (intOf i).toNat)
  case atStart => exact ⟨0, -1, 0, by omega, rfl, rfl, rfl, by omega, by omega, rfl⟩
  case round =>
    obtain ⟨k, x, y, hk, rfl, rfl, rfl, hl1, hl2, hx⟩ := hrel
    by_cases hlt : k < row.length
    · obtain ⟨rb, ro, rfl, h1⟩ := HHR.out k hlt
      obtain ⟨cb, co, rfl, h2⟩ := HHC.out k (by omega)
      have hb1 := HCB.out k
      have hb2 := HRB.out k
      have hs := HSU.out k
      have HS := Lib.hid hs
      clear HHR HHC HBD HCB HRB HSU hs
      generalize gi crow k = c at *
      generalize gi row k = r at *
      obtain ⟨hb1, hb3⟩ := hb1
      by_cases hr0 : r < 0
      · go_wp2_with fail
        go_round
        case rel => exact ⟨k + 1, x, y, by omega, by go_num, rfl, rfl, hl1, hl2, by unfold Hid; rw [HS.out, if_pos hr0, hx.out]⟩
        case measure => simp [intOf]; omega
      · by_cases hx0 : x < 0
        · go_wp2_with fail
          go_round
          case rel => exact ⟨k + 1, c + r, k, by omega, by go_num, rfl, rfl, by omega, by omega, by unfold Hid; rw [HS.out, if_neg hr0, hx.out, if_pos (.inl hx0)]⟩
          case measure => simp [intOf]; omega
        · by_cases hlt2 : c + r < x
          · go_wp2_with fail
            go_round
            case rel => exact ⟨k + 1, c + r, k, by omega, by go_num, rfl, rfl, by omega, by omega, by unfold Hid; rw [HS.out, if_neg hr0, hx.out, if_pos (.inr hlt2)]⟩
            case measure => simp [intOf]; omega
          · go_wp2_with fail
            go_round
            case rel => exact ⟨k + 1, x, y, by omega, by go_num, rfl, rfl, hl1, hl2, by unfold Hid; rw [HS.out, if_neg hr0, hx.out, if_neg (by simp; omega)]⟩
            case measure => simp [intOf]; omega
    · obtain rfl : k = row.length := by omega
      clear hlt
      go_wp2_with fail
      go_ret2
      exact ⟨by rw [hx.out]; rfl, rfl⟩
set_option maxRecDepth 100000 in
set_option maxHeartbeats 800000 in
theorem least_t (T : Nat → Prop) (w : World) (vr : Value) (row : List Int) (hR : IntsAt T w vr row) (hrn : row.length ≤ 1000) :
    Calls Tryz.prog 104 #[vr] w fun e w' => e = .returned (pairOf (bestK (fun _ => 0) (gi row) row.length)) ∧ w = w' := by
  obtain ⟨q, cap2, rfl, hcap2, HR⟩ := SlAt.open hR
  have HHR := Lib.hid HR
  have hsucc := bestK_succ (fun _ => 0) (gi row)
  have HSU := Lib.hid hsucc
  clear HR hR hsucc
  unfold pairOf
  go_enter Tryz.func104, Tryz.ntmps104
  go_wp2_with fail
  go_loop [4, 5, 6, 7, 10] (fun l o _ _ i => ∃ k : Nat, ∃ x y : Int, k ≤ row.length ∧ i = .int .i64 k ∧ l = .int .i64 x ∧ o = .int .i64 y ∧ Hid (bestK (fun _ => 0) (gi row) k = (x, y))) (fun _ _ _ _ i => row.length - (intOf i).toNat)
  case atStart => exact ⟨0, -1, 0, by omega, rfl, rfl, rfl, rfl⟩
  case round =>
    obtain ⟨k, x, y, hk, rfl, rfl, rfl, hx⟩ := hrel
    by_cases hlt : k < row.length
    · obtain ⟨rb, ro, rfl, h1⟩ := HHR.out k hlt
      have hs := HSU.out k
      have HS := Lib.hid hs
      clear HHR HSU hs
      generalize gi row k = r at *
      by_cases hr0 : r < 0
      · go_wp2_with fail
        go_round
        case rel => exact ⟨k + 1, x, y, by omega, by go_num, rfl, rfl, by unfold Hid; rw [HS.out, if_pos hr0, hx.out]⟩
        case measure => simp [intOf]; omega
      · by_cases hx0 : x < 0
        · go_wp2_with fail
          go_round
          case rel => exact ⟨k + 1, r, k, by omega, by go_num, rfl, rfl, by unfold Hid; rw [HS.out, if_neg hr0, hx.out, if_pos (.inl hx0), Int.zero_add]⟩
          case measure => simp [intOf]; omega
        · by_cases hlt2 : r < x
          · go_wp2_with fail
            go_round
            case rel => exact ⟨k + 1, r, k, by omega, by go_num, rfl, rfl, by unfold Hid; rw [HS.out, if_neg hr0, hx.out, if_pos (.inr (by omega)), Int.zero_add]⟩
            case measure => simp [intOf]; omega
          · go_wp2_with fail
            go_round
            case rel => exact ⟨k + 1, x, y, by omega, by go_num, rfl, rfl, by unfold Hid; rw [HS.out, if_neg hr0, hx.out, if_neg (by simp; omega)]⟩
            case measure => simp [intOf]; omega
    · obtain rfl : k = row.length := by omega
      clear hlt
      go_wp2_with fail
      go_ret2
      exact ⟨by rw [hx.out]; rfl, rfl⟩
end Go.Proofs.YtcbmbhghmfehpaaGreat
