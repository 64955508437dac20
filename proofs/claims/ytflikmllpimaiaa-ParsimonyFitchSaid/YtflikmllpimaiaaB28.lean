/- The contract of the reference's Great. -/
import Derived.Test.YtflikmllpimaiaaB21
namespace Go.Proofs.Ytflikmllpimaiaa
open Go.RowKit Go.Deep
def greatTail (np nn ns nc : Nat) : Bool := decide (12 < np) || decide (14 < nn) || decide (12 < ns) || (decide (4 < nc) && decide (nc ≤ 16)) || decide (18 < nc)
def rowFar (cs : List (List Int)) : Bool := (List.range cs.length).any fun k => decide (18 < (gl cs k).length)
def nameFar (ns : List ByteArray) : Bool := (List.range ns.length).any fun k => decide (20 < (gs ns k).size)
def greatB (t : Tre) (st : List Int) (cs : List (List Int)) : Bool := rowFar cs || nameFar t.ns || greatTail t.ps.length t.ns.length st.length cs.length
def Big (t : Tre) (st : List Int) (cs : List (List Int)) : Prop :=
  t.ps.length ≤ 9223372036854775807 ∧ t.ns.length ≤ 9223372036854775807 ∧ (∀ k, (gs t.ns k).size ≤ 9223372036854775807) ∧ st.length ≤ 9223372036854775807 ∧ cs.length ≤ 9223372036854775807 ∧ ∀ k, (gl cs k).length ≤ 9223372036854775807
theorem great_sized {t : Tre} {st : List Int} {cs : List (List Int)} (h : greatB t st cs = false) : Sized t st cs ∧ t.ps.length ≤ 12 ∧ t.ns.length ≤ 14 ∧ st.length ≤ 12 ∧ cs.length ≤ 18 ∧ (∀ k, (gs t.ns k).size ≤ 20) ∧ (∀ k, (gl cs k).length ≤ 18) := by
  unfold greatB at h
  simp only [Bool.or_eq_false_iff] at h
  obtain ⟨⟨h1, h2⟩, h3⟩ := h
  unfold greatTail at h3
  simp only [Bool.or_eq_false_iff, Bool.and_eq_false_iff, decide_eq_false_iff_not] at h3
  have a1 : ∀ k, (gl cs k).length ≤ 18 := fun k => by
    by_cases hk : k < cs.length
    · have := any_false h1 hk; simp at this; omega
    · have : gl cs k = [] := by simp [gl, List.getElem?_eq_none (by omega : cs.length ≤ k)]
      rw [this]; simp
  have a2 : ∀ k, (gs t.ns k).size ≤ 20 := fun k => by
    by_cases hk : k < t.ns.length
    · have := any_false h2 hk; simp at this; omega
    · have : gs t.ns k = ByteArray.empty := by simp [gs, List.getElem?_eq_none (by omega : t.ns.length ≤ k)]
      rw [this]; simp
  refine ⟨⟨by omega, by omega, fun k => by have := a2 k; omega, by omega, by omega, fun k => by have := a1 k; omega⟩, by omega, by omega, by omega, by omega, a2, a1⟩
set_option maxRecDepth 100000 in
set_option maxHeartbeats 1000000 in
theorem great_t (S : Nat → Prop) (w : World) (v vs vc : Value) (t : Tre) (st : List Int) (cs : List (List Int)) (hT : TreeAt S w v t) (hS : IntsAt S w vs st) (hC : RowsAt S w vc cs) (hz : Big t st cs) :
    Calls Try.prog 19 #[v, vs, vc] w fun e w' => e = .returned (.bool (greatB t st cs)) ∧ Up w w' := by
  obtain ⟨hz1, hz2, hz3, hz4, hz5, hz6⟩ := hz
  obtain ⟨P, N, rfl, hP, hN⟩ := hT
  obtain ⟨pp, pcap, rfl, hpcap, _⟩ := SlAt.open hP
  obtain ⟨nn, ncap, rfl, hncap, _⟩ := SlAt.open hN
  obtain ⟨qS, capS, rfl, hcapS, _⟩ := SlAt.open hS
  obtain ⟨qC, capC, rfl, hcapC, _⟩ := rows_open hC
  have hN0 : StrsAt S w (.slice nn t.ns.length ncap) t.ns := hN
  have hu := Up.alloc w (.cells #[.slice pp t.ps.length pcap, .slice nn t.ns.length ncap] 25)
  have HU := Lib.hid hu
  have HN := Lib.hid (StrsAt.keep hN0 (hu.kept S))
  have HC := Lib.hid (hC.keep (hu.kept S))
  have hb0 := box2_0 w (.slice pp t.ps.length pcap) (.slice nn t.ns.length ncap) 25
  have hb1 := box2_1 w (.slice pp t.ps.length pcap) (.slice nn t.ns.length ncap) 25
  have HB0 := Lib.hid hb0
  have HB1 := Lib.hid hb1
  have HZ3 := Lib.hid hz3
  have HZ6 := Lib.hid hz6
  have hfin : greatB t st cs = (rowFar cs || nameFar t.ns || greatTail t.ps.length t.ns.length st.length cs.length) := rfl
  have HF := Lib.hid hfin
  clear hu hb0 hb1 hP hN hN0 hS hC hz3 hz6 hfin
  go_enter Try.func19, Try.ntmps19
  go_wp2_with fail
  generalize w.alloc (.cells #[.slice pp t.ps.length pcap, .slice nn t.ns.length ncap] 25) = w1 at *
  go_loop [7] (fun i => ∃ k : Nat, k ≤ cs.length ∧ i = .int .i64 k ∧ Hid (∀ j, j < k → decide (18 < (gl cs j).length) = false)) (fun i => cs.length - (intOf i).toNat)
  case atStart => exact ⟨0, Nat.zero_le _, rfl, fun j hj => absurd hj (Nat.not_lt_zero _)⟩
  case round =>
    obtain ⟨k, hk, rfl, hd⟩ := hrel
    by_cases hlt : k < cs.length
    · obtain ⟨b, off, q, c, rfl, hc, _⟩ := rows_get HC.out hlt
      have hrk := HZ6.out k
      by_cases hl : 18 < (gl cs k).length
      · have HH : Hid (rowFar cs = true) := any_at hlt (by simpa using hl)
        go_wp2_with fail
        go_ret
        exact ⟨ret_bool (by rw [HF.out, HH.out]; rfl), HU.out⟩
      · go_wp2_with fail
        go_round
        case rel => exact ⟨k + 1, by omega, by go_num, fun j hj => if e : j = k then by subst e; simpa using hl else hd.out j (by omega)⟩
        case measure => simp [intOf]; omega
    · obtain rfl : k = cs.length := by omega
      clear hlt hk
      have HH : Hid (rowFar cs = false) := any_none hd.out
      go_wp2_with fail
      go_loop [8] (fun i => ∃ k : Nat, k ≤ t.ns.length ∧ i = .int .i64 k ∧ Hid (∀ j, j < k → decide (20 < (gs t.ns j).size) = false)) (fun i => t.ns.length - (intOf i).toNat)
      case atStart => exact ⟨0, Nat.zero_le _, rfl, fun j hj => absurd hj (Nat.not_lt_zero _)⟩
      case round =>
        obtain ⟨k, hk, rfl, hd⟩ := hrel
        have hb1 := HB1.out
        by_cases hlt : k < t.ns.length
        · obtain ⟨b, off, rfl, hc⟩ := strs_get HN.out hlt
          have hrk := HZ3.out k
          by_cases hl : 20 < (gs t.ns k).size
          · have HH2 : Hid (nameFar t.ns = true) := any_at hlt (by simpa using hl)
            go_wp2_with fail
            go_ret
            exact ⟨ret_bool (by rw [HF.out, HH2.out, Bool.or_true]; rfl), HU.out⟩
          · go_wp2_with fail
            go_round
            case rel => exact ⟨k + 1, by omega, by go_num, fun j hj => if e : j = k then by subst e; simpa using hl else hd.out j (by omega)⟩
            case measure => simp [intOf]; omega
        · obtain rfl : k = t.ns.length := by omega
          clear hlt hk
          have HH2 : Hid (nameFar t.ns = false) := any_none hd.out
          have hb0 := HB0.out
          have hgt : greatB t st cs = greatTail t.ps.length t.ns.length st.length cs.length := by rw [HF.out, HH.out, HH2.out]; rfl
          have HGT := Lib.hid hgt
          clear hgt
          go_wp2
          all_goals
            go_ret
            refine ⟨ret_bool ?_, HU.out⟩
            rw [HGT.out]
            unfold greatTail
            rw [Bool.eq_iff_iff]
            simp at *
            try omega
end Go.Proofs.Ytflikmllpimaiaa
