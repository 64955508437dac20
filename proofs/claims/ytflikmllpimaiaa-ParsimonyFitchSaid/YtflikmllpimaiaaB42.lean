/- The contract of the reference's least. -/
import Derived.Test.YtflikmllpimaiaaB37
import Derived.Test.YtflikmllpimaiaaB17
namespace Go.Proofs.Ytflikmllpimaiaa
open Go.RowKit Go.Deep
def LqPost (w : World) (n : Int) (e : Ending) (w' : World) : Prop := e = .returned (.int .i64 n) ∧ QD w w'
set_option maxRecDepth 100000 in
set_option maxHeartbeats 1000000 in
theorem leastR_t (S T : Nat → Prop) (w : World) (vr vc : Value) (row c : List Int) (hR : IntsAt S w vr row) (hC : IntsAt T w vc c) (hl : row.length ≤ c.length) (hn : c.length ≤ 1000) (hcb : ∀ k, 0 ≤ gi c k ∧ gi c k ≤ 1000) (hrb : ∀ k, gi row k ≤ 1000000000) :
    Calls Try.prog 60 #[vr, vc] w (LqPost w (bestK (gi c) (gi row) row.length).1) := by
  obtain ⟨q, cap2, rfl, hcap2, _⟩ := SlAt.open hR
  obtain ⟨p, cap, rfl, hcap, _⟩ := SlAt.open hC
  have hR : IntsAt S w (.slice q row.length cap2) row := hR
  have hC : IntsAt T w (.slice p c.length cap) c := hC
  have hsucc := bestK_succ (gi c) (gi row)
  have HSU := Lib.hid hsucc
  have HR := Lib.hid hR
  have HC := Lib.hid hC
  have HCB := Lib.hid hcb
  have HRB := Lib.hid hrb
  clear hR hC hsucc hcb hrb
  go_enter Try.func60, Try.ntmps60
  go_wp2_with fail
  go_loopw [5, 6] (fun b i wr => ∃ k : Nat, ∃ x : Int, k ≤ row.length ∧ i = .int .i64 k ∧ b = .int .i64 x ∧ -1 ≤ x ∧ x ≤ 1000001000 ∧ Hid ((bestK (gi c) (gi row) k).1 = x) ∧ Hid (QD w wr)) (fun _ i _ => row.length - (intOf i).toNat)
  case atStart => exact ⟨0, -1, by omega, rfl, rfl, by omega, by omega, rfl, QD.refl _⟩
  case round =>
    obtain ⟨k, x, hk, rfl, rfl, hx1, hx2, hx, hQ⟩ := hrel
    by_cases hlt : k < row.length
    · obtain ⟨rb, ro, rfl, h1⟩ := ints_get (IntsAt.keep HR.out (hQ.out.kept _)) hlt
      obtain ⟨cb, co, rfl, h2⟩ := ints_get (IntsAt.keep HC.out (hQ.out.kept _)) (k := k) (by omega)
      have hs := HSU.out k
      have HS := Lib.hid hs
      have hb1 := HCB.out k
      have hb2 := HRB.out k
      clear HSU hs
      generalize gi row k = r at *
      generalize gi c k = cc at *
      obtain ⟨hb1, hb3⟩ := hb1
      have i1 : (0 : Int) ≤ (k : Int) := by omega
      have i2 : (k : Int) < (row.length : Int) := by omega
      have i3 : (k : Int) < (c.length : Int) := by omega
      by_cases hr0 : r < 0
      · have d1 : decide (0 ≤ r) = false := by simp; omega
        go_wp2_with fail
        go_quiet (fail)
        go_wp2_with fail
        go_roundw
        case rel => exact ⟨k + 1, x, by omega, by go_num, rfl, hx1, hx2, by unfold Hid; rw [HS.out, if_pos hr0, hx.out], hQ.out.drewN nq⟩
        case measure => simp [intOf]; omega
      · have d1 : decide (0 ≤ r) = true := by simp; omega
        have hsum : IntKind.i64.wrap (r + cc) = r + cc := IntWalk.i64_in _ (by omega)
        by_cases hx0 : x < 0
        · have d2 : decide (x < 0) = true := by simpa using hx0
          go_wp2_with fail
          go_quiet (fail)
          go_wp2_with fail
          go_quiet (fail)
          go_wp2_with fail
          go_roundw
          case rel => exact ⟨k + 1, r + cc, by omega, by go_num, rfl, by omega, by omega, by unfold Hid; rw [HS.out, if_neg (by omega), if_pos (.inl (by rw [hx.out]; exact hx0)), Int.add_comm], hQ.out.drewN _⟩
          case measure => simp [intOf]; omega
        · have d2 : decide (x < 0) = false := by simpa using hx0
          by_cases hlt2 : r + cc < x
          · have d3 : decide (r + cc < x) = true := by simpa using hlt2
            go_wp2_with fail
            go_quiet (fail)
            go_wp2_with fail
            go_quiet (fail)
            go_wp2_with fail
            go_roundw
            case rel => exact ⟨k + 1, r + cc, by omega, by go_num, rfl, by omega, by omega, by unfold Hid; rw [HS.out, if_neg (by omega), if_pos (.inr (by rw [hx.out]; omega)), Int.add_comm], hQ.out.drewN _⟩
            case measure => simp [intOf]; omega
          · have d3 : decide (r + cc < x) = false := by simpa using hlt2
            go_wp2_with fail
            go_quiet (fail)
            go_wp2_with fail
            go_roundw
            case rel => exact ⟨k + 1, x, by omega, by go_num, rfl, hx1, hx2, by unfold Hid; rw [HS.out, if_neg (by omega), if_neg (by rw [hx.out]; omega), hx.out], hQ.out.drewN nq⟩
            case measure => simp [intOf]; omega
    · obtain rfl : k = row.length := by omega
      clear hlt
      go_wp2_with fail
      go_ret
      exact ⟨ret_int (by rw [hx.out]), hQ.out⟩
end Go.Proofs.Ytflikmllpimaiaa
