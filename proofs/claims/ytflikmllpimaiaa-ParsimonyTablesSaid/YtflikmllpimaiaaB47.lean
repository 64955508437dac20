/- The contract of the reference's Cost. -/
import Derived.Test.YtflikmllpimaiaaB46
import Derived.Test.YtflikmllpimaiaaB26
namespace Go.Proofs.Ytflikmllpimaiaa
open Go.RowKit Go.Deep
def costQ (t : Tre) (cs : List (List Int)) (all : List Int) (k : Nat) : Int := sumN (fun c => if c = 0 then 0 else edgeC cs all (gi t.ps c).toNat c) k
theorem costQ_succ {t : Tre} {cs : List (List Int)} {all : List Int} {k : Nat} (hk : k ≠ 0) : costQ t cs all (k + 1) = costQ t cs all k + edgeC cs all (gi t.ps k).toNat k := by
  unfold costQ; rw [sumN_succ, if_neg hk]
theorem costK_swap (t : Tre) (cs : List (List Int)) (all : List Int) : ∀ k, costK t cs all k = sumN (fun c => if 0 ≤ gi t.ps c ∧ gi t.ps c < k ∧ gi t.ps c < c then edgeC cs all (gi t.ps c).toNat c else 0) t.ps.length
  | 0 => by
    exact (sumN_zero t.ps.length).symm.trans (sumN_congr fun c _ => by rw [if_neg (by omega)])
  | k + 1 => by
    show costK t cs all k + nodeC t cs all k = _
    rw [costK_swap t cs all k, nodeC_sum, ← sumN_add]
    refine sumN_congr fun c _ => ?_
    by_cases e : gi t.ps c = k
    · by_cases h : k < c
      · rw [if_neg (by omega), if_pos ⟨h, e⟩, if_pos (by omega), e]; simp
      · rw [if_neg (by omega), if_neg (by omega), if_neg (by omega)]; rfl
    · by_cases h : 0 ≤ gi t.ps c ∧ gi t.ps c < k ∧ gi t.ps c < c
      · rw [if_pos h, if_neg (fun h2 => e h2.2), if_pos (by omega)]; omega
      · rw [if_neg h, if_neg (fun h2 => e h2.2), if_neg (by omega)]; rfl
theorem costQ_all {t : Tre} (ht : treeErr t = 0) (cs : List (List Int)) (all : List Int) : costQ t cs all t.ps.length = costL t cs all := by
  unfold costL
  rw [costK_swap]
  refine sumN_congr fun c hc => ?_
  have h := par_ok (treeErr_zero ht).2.2.2.1 hc
  by_cases e : c = 0
  · rw [if_pos e, if_neg (by have := h.2.2 e; omega)]
  · have := h.2.1 (by omega)
    rw [if_neg e, if_pos ⟨this, by omega, by omega⟩]
theorem costQ_bd {t : Tre} {cs : List (List Int)} (hcb : ∀ a k, 0 ≤ gi (gl cs a) k ∧ gi (gl cs a) k ≤ 1000) (all : List Int) : ∀ k, 0 ≤ costQ t cs all k ∧ costQ t cs all k ≤ 1000 * k
  | 0 => by unfold costQ; simp [sumN]
  | k + 1 => by
    have ih := costQ_bd hcb (t := t) all k
    by_cases e : k = 0
    · subst e; unfold costQ; simp [sumN]
    · rw [costQ_succ e]
      have := edgeC_bd hcb all (gi t.ps k).toNat k
      omega
set_option maxRecDepth 100000 in
set_option maxHeartbeats 2000000 in
theorem pcostR_t (S : Nat → Prop) (w : World) (v va vc : Value) (t : Tre) (all : List Int) (cs : List (List Int)) (hT : TreeAt S w v t) (hA : IntsAt S w va all) (hC : RowsAt S w vc cs) (hz : Sized t all cs) :
    Calls Try.prog 25 #[v, va, vc] w (CoPost w t all cs) := by
  obtain ⟨hz1, hz2, hz3, hz4, hz5, hz6⟩ := hz
  have hfin : costErr t all cs = if treeErr t ≠ 0 then 1 else if matErr cs ≠ 0 then matErr cs else knownErr all t.ps.length 0 cs.length := rfl
  have HF := Lib.hid hfin
  obtain ⟨P, N, rfl, hP, hN⟩ := hT
  obtain ⟨pp, pcap, rfl, hpcap, _⟩ := SlAt.open hP
  have hP0 : IntsAt S w (.slice pp t.ps.length pcap) t.ps := hP
  obtain ⟨qA, capA, rfl, hcapA, _⟩ := SlAt.open hA
  have hA : IntsAt S w (.slice qA all.length capA) all := hA
  obtain ⟨qC, capC, rfl, hcapC, _⟩ := rows_open hC
  have hu := Up.alloc w (.cells #[.slice pp t.ps.length pcap, N] 25)
  have hT1 : TreeAt S (w.alloc (.cells #[.slice pp t.ps.length pcap, N] 25)) (.agg #[.slice pp t.ps.length pcap, N]) t := TreeAt.keep ⟨_, N, rfl, hP0, hN⟩ (hu.kept S)
  have HK := Lib.hid (costsR_t S _ _ _ t cs hT1 (hC.keep (hu.kept S)) hz1 hz2 hz3 hz5 hz6)
  have HU := Lib.hid hu
  have HB0 := Lib.hid (box2_0 w (.slice pp t.ps.length pcap) N 25)
  have HB1 := Lib.hid (box2_1 w (.slice pp t.ps.length pcap) N 25)
  have HP := Lib.hid (IntsAt.keep hP0 (hu.kept S))
  have HA := Lib.hid (IntsAt.keep hA (hu.kept S))
  have HC := Lib.hid (hC.keep (hu.kept S))
  clear hu hT1 hA hC hP hP0 hN hfin hz3 hz6
  go_enter Try.func25, Try.ntmps25
  go_wp2_with fail
  generalize w.alloc (.cells #[.slice pp t.ps.length pcap, N] 25) = w1 at *
  refine HK.out.mono ?_
  rintro e w2 ⟨rfl, hb⟩
  have hu2 : Up w1 w2 := hb
  have hc0 := hu2.cell HB0.out
  have hc1 := hu2.cell HB1.out
  have HU2 := Lib.hid (HU.out.trans hu2)
  have HP2 := Lib.hid (IntsAt.keep HP.out (hu2.kept S))
  have HA2 := Lib.hid (IntsAt.keep HA.out (hu2.kept S))
  have HC2 := Lib.hid (HC.out.keep (hu2.kept S))
  clear hb hu2 HK HU HB0 HB1 HP HA HC
  by_cases he : costsErr t cs = 0
  · have he1 : (costsErr t cs != 0) = false := by simpa using he
    have HE : Hid (costErr t all cs = knownErr all t.ps.length 0 cs.length ∧ treeErr t = 0 ∧ matErr cs = 0) := by
      unfold costsErr at he
      by_cases h1 : treeErr t = 0
      · rw [if_neg (fun h => h h1)] at he
        exact ⟨by rw [HF.out, if_neg (fun h => h h1), if_neg (fun h => h he)], h1, he⟩
      · rw [if_pos h1] at he; cases he
    clear he HF
    by_cases hl : all.length = t.ps.length
    · have hl1 : ((all.length : Int) != (t.ps.length : Int)) = false := by simp [hl]
      have HL := Lib.hid hl
      clear hl
      go_wp2_with fail
      go_loop [9] (fun i => ∃ k : Nat, k ≤ all.length ∧ i = .int .i64 k ∧ Hid (∀ j, j < k → (decide (gi all j < 0) || decide ((cs.length : Int) ≤ gi all j)) = false)) (fun i => all.length - (intOf i).toNat)
      case atStart => exact ⟨0, Nat.zero_le _, rfl, fun j hj => absurd hj (Nat.not_lt_zero _)⟩
      case round =>
        obtain ⟨k, hk, rfl, hd⟩ := hrel
        by_cases hlt : k < all.length
        · obtain ⟨b, off, rfl, hc⟩ := ints_get HA2.out hlt
          generalize hx : gi all k = x at *
          have HX := Lib.hid hx
          clear hx
          by_cases h1 : x < 0
          · have hb : Hid (stBad all 0 cs.length = true) := any_at hlt (by rw [HX.out]; simp [h1])
            go_wp2_with fail
            go_ret2
            have hke : costErr t all cs = 2 := by rw [HE.out.1]; unfold knownErr; rw [if_neg (fun h => h HL.out), if_pos hb.out]
            exact ⟨HU2.out, by unfold costN; rw [hke]; rfl⟩
          · by_cases h2 : (cs.length : Int) ≤ x
            · have hb : Hid (stBad all 0 cs.length = true) := any_at hlt (by rw [HX.out]; simp [h2])
              go_wp2_with fail
              go_ret2
              have hke : costErr t all cs = 2 := by rw [HE.out.1]; unfold knownErr; rw [if_neg (fun h => h HL.out), if_pos hb.out]
              exact ⟨HU2.out, by unfold costN; rw [hke]; rfl⟩
            · have hg : Hid ((decide (x < 0) || decide ((cs.length : Int) ≤ x)) = false) := by unfold Hid; simp; omega
              go_wp2_with fail
              go_round
              case rel => exact ⟨k + 1, by omega, by go_num, fun j hj => if e : j = k then by subst e; rw [HX.out]; exact hg.out else hd.out j (by omega)⟩
              case measure => simp [intOf]; omega
        · obtain rfl : k = all.length := by omega
          have hb : Hid (stBad all 0 cs.length = false) := any_none fun j hj => hd.out j hj
          have HE0 : Hid (costErr t all cs = 0) := by unfold Hid; rw [HE.out.1]; unfold knownErr; rw [if_neg (fun h => h HL.out), hb.out]; simp
          have HOK := Lib.hid (costErr_zero HE0.out).2.2
          have HCB := Lib.hid (matErr_zero HE.out.2.2).2.2.2.1
          have HRL := Lib.hid (matErr_zero HE.out.2.2).2.2.1
          have HPK := Lib.hid (treeErr_zero HE.out.2.1).2.2.2.1
          have HQB := Lib.hid (costQ_bd HCB.out (t := t) all)
          have hps1 := (treeErr_zero HE.out.2.1).1
          have hps2 := (treeErr_zero HE.out.2.1).2.1
          have hla := HL.out
          clear hlt hk hd hb
          go_wp2_with fail
          go_loopw [10, 11] (fun s i wr => ∃ k : Nat, ∃ x : Int, 1 ≤ k ∧ k ≤ all.length ∧ i = .int .i64 k ∧ s = .int .i64 x ∧ Hid (costQ t cs all k = x) ∧ Hid (QD w2 wr)) (fun _ i _ => all.length - (intOf i).toNat)
          case atStart => exact ⟨1, 0, by omega, by omega, rfl, rfl, by unfold Hid costQ; simp [sumN], QD.refl _⟩
          case round =>
            obtain ⟨k, x, hk1, hk, rfl, rfl, hx, hQ⟩ := hrel
            have hc0 := hQ.out.up.cell hc0
            have hc1 := hQ.out.up.cell hc1
            by_cases hlt : k < all.length
            · have hpar := par_ok HPK.out (c := k) (by omega)
              obtain ⟨p, hp⟩ : ∃ p : Nat, gi t.ps k = p := Int.eq_ofNat_of_zero_le (hpar.2.1 (by omega))
              have hpk : p < k := by have := hpar.1; omega
              obtain ⟨pb, po, rfl, h1⟩ := ints_get (IntsAt.keep HP2.out (hQ.out.kept _)) (k := k) (by omega)
              rw [hp] at h1
              obtain ⟨q, hq⟩ : ∃ q : Nat, gi all p = q := Int.eq_ofNat_of_zero_le (HOK.out.2 p (by omega)).1
              obtain ⟨r, hr⟩ : ∃ r : Nat, gi all k = r := Int.eq_ofNat_of_zero_le (HOK.out.2 k (by omega)).1
              have hqm : q < cs.length := by have := (HOK.out.2 p (by omega)).2; omega
              have hrm : r < cs.length := by have := (HOK.out.2 k (by omega)).2; omega
              obtain ⟨ab, ao, rfl, h2⟩ := ints_get (IntsAt.keep HA2.out (hQ.out.kept _)) (k := p) (by omega)
              have h3 := ints_get' (IntsAt.keep HA2.out (hQ.out.kept _)) (k := k) hlt
              rw [hq] at h2
              rw [hr] at h3
              obtain ⟨cb, co, cq, cc, rfl, h4, h5⟩ := rows_get (HC2.out.keep (hQ.out.kept _)) hqm
              rw [HRL.out q hqm] at h4 h5
              obtain ⟨rb, ro, rfl, h6⟩ := ints_get h5 (k := r) (by rw [HRL.out q hqm]; exact hrm)
              have hstep : Hid (costQ t cs all (k + 1) = x + gi (gl cs q) r) := by
                unfold Hid
                rw [costQ_succ (by omega), hx.out, hp]
                show x + costF cs (gi all p).toNat (gi all k).toNat = _
                rw [hq, hr]; rfl
              have hbd := HCB.out q r
              have hbx := HQB.out k
              rw [hx.out] at hbx
              generalize gi (gl cs q) r = c at *
              have hsum : IntKind.i64.wrap (x + c) = x + c := IntWalk.i64_in _ (by omega)
              have i1 : (0 : Int) ≤ (p : Int) := by omega
              have i2 : (p : Int) < (all.length : Int) := by omega
              have i3 : (q : Int) < (cs.length : Int) := by omega
              have i4 : (r : Int) < (cs.length : Int) := by omega
              have i5 : (0 : Int) ≤ (q : Int) := by omega
              have i6 : (0 : Int) ≤ (r : Int) := by omega
              have i7 : (k : Int) < (t.ps.length : Int) := by omega
              clear h5 hp hq hr hpar hbd hbx
              go_wp2_with fail
              go_quiet (fail)
              go_wp2_with fail
              go_roundw
              case rel => exact ⟨k + 1, x + c, by omega, by omega, by go_num, rfl, hstep, hQ.out.drewN _⟩
              case measure => simp [intOf]; omega
            · obtain rfl : k = all.length := by omega
              have HFI : Hid (costN t all cs = x) := by unfold Hid costN; rw [if_pos HE0.out, ← costQ_all HE.out.2.1, ← HL.out]; exact hx.out
              clear hlt hk
              go_wp2_with fail
              go_ret2
              exact ⟨HU2.out.trans hQ.out.up, by rw [HFI.out, HE0.out]; rfl⟩
    · have hl1 : ((all.length : Int) != (t.ps.length : Int)) = true := by simp; omega
      have HL := Lib.hid hl
      clear hl
      go_wp2_with fail
      go_ret2
      have hke : costErr t all cs = 9 := by rw [HE.out.1]; unfold knownErr; rw [if_pos HL.out]
      exact ⟨HU2.out, by unfold costN; rw [hke]; rfl⟩
  · have he1 : (costsErr t cs != 0) = true := by simpa using he
    have HE : Hid (costErr t all cs = costsErr t cs) := by
      unfold Hid; rw [HF.out]
      by_cases h1 : treeErr t = 0
      · have h2 : costsErr t cs = matErr cs := by unfold costsErr; rw [if_neg (fun h => h h1)]
        rw [h2] at he ⊢
        rw [if_neg (fun h => h h1), if_pos he]
      · have h2 : costsErr t cs = 1 := by unfold costsErr; rw [if_pos h1]
        rw [h2, if_pos h1]
    have HN := Lib.hid he
    clear he
    go_wp2_with fail
    go_ret2
    exact ⟨HU2.out, by unfold costN; rw [HE.out, if_neg HN.out]; rfl⟩
end Go.Proofs.Ytflikmllpimaiaa
