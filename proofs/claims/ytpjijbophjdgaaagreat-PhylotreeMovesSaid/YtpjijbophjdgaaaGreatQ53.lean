/- The contract of layer 31's reference's Restrict. The contract of phylotree.Ancestor. The contracts of layer 31's reference's Leaves, below and Ancestor. The contract of layer 31's reference's Parse. The walk of PhylotreeReads. -/
import Derived.Test.YtpjijbophjdgaaaGreatQ52
import Derived.Test.YtpjijbophjdgaaaGreatQ34
import Derived.Test.YtpjijbophjdgaaaGreatQ29
import Derived.Test.YtpjijbophjdgaaaGreatQ2
import Derived.Test.YtpjijbophjdgaaaGreatQ3
import Derived.Test.YtpjijbophjdgaaaGreatQ24
import Derived.Lib.MinMax
import Derived.Test.YtpjijbophjdgaaaGreatQ23
import Derived.Test.YtpjijbophjdgaaaGreatQ44
import Derived.Test.YtpjijbophjdgaaaGreatQ49
import Derived.Test.YtpjijbophjdgaaaGreatQ51
import Derived.Test.YtpjijbophjdgaaaGreatQ4
import Derived.Deep.RegionHeld3
namespace Go.Proofs.YtpjijbophjdgaaaGreat
open Go.RowKit Go.Deep
def kpL (t : Tre) (L : List Int) : List ByteArray := L.map fun x => gs t.ns x.toNat
theorem kpL_at {t : Tre} {L : List Int} {k : Nat} (h : k < L.length) : gs (kpL t L) k = gs t.ns (gi L k).toNat := by simp [kpL, gs, gi, h]
theorem kpL_in (t : Tre) (L : List Int) (s : ByteArray) : inNm (kpL t L) L.length s = rsN t L s := by
  unfold inNm rsN
  rw [Bool.eq_iff_iff, List.any_eq_true, List.any_eq_true]
  constructor
  · rintro ⟨j, hj, e⟩
    have hj := List.mem_range.1 hj
    rw [kpL_at hj] at e
    exact ⟨gi L j, gi_mem hj, e⟩
  · rintro ⟨x, hx, e⟩
    obtain ⟨j, hj, rfl⟩ := in_gi hx
    exact ⟨j, List.mem_range.2 hj, by rw [kpL_at hj]; exact e⟩
theorem rs_fin {w W : World} {B : Nat} {t T : Tre} {L : List Int} {p q : Value} (hB : w.heap.size ≤ B) (hu : Up w W) (hb : W.heap[B]? = some (Obj.cells #[.slice none 0 0, .slice none 0 0] 45 (0, 0))) (h0 : rsErr t L = 0) (hT : T = rsT t L) (h : TreeAt (fun b => b ≠ B) W (.agg #[p, q]) (lmT T)) :
    ((W.setCell ⟨B, 0, none⟩ p).setCell ⟨B, 1, none⟩ q).cell? ⟨B, 0, none⟩ = some p ∧ ((W.setCell ⟨B, 0, none⟩ p).setCell ⟨B, 1, none⟩ q).cell? ⟨B, 1, none⟩ = some q ∧
      RsPost w t L (.returned (.tuple #[.agg #[p, q], .int .i64 (lmC T)])) ((W.setCell ⟨B, 0, none⟩ p).setCell ⟨B, 1, none⟩ q) := by
  obtain ⟨s1, s2, s3, s4⟩ := store_two (p := p) (q := q) hb hB hu
  have h64 : T.ps.length ≤ 64 := by
    have := (rs_facts h0).2.2.2
    rw [hT]
    unfold rsT
    rw [if_neg (by simp [h0])]
    exact this
  have e1 : lmC T = 0 := by unfold lmC; rw [if_neg (by omega)]
  have e2 : lmT T = T := by unfold lmT; rw [if_neg (by omega)]
  refine ⟨s2, s3, s1, _, by rw [e1, h0], ?_⟩
  rw [← hT, ← e2]
  exact (TreeAt.keep h fun b hb _ => s4 b hb).sub fun _ _ _ => trivial
set_option maxRecDepth 100000 in
set_option maxHeartbeats 8000000 in
theorem restrict31R_t (S : Nat → Prop) (w : World) (v vl : Value) (t : Tre) (L : List Int) (hT : TreeAt S w v t) (hL : IntsAt S w vl L) (hp : t.ps.length ≤ 1000000) (hn : t.ns.length ≤ 1000000) (hz : ∀ k, (gs t.ns k).size ≤ 70000) (hll : L.length ≤ 1000) :
    Calls Tryz.prog 36 #[v, vl] w (RsPost w t L) := by
  obtain ⟨P, N, rfl, hP, hN⟩ := hT
  obtain ⟨pp, pc, rfl, -, -⟩ := SlAt.open hP
  obtain ⟨pn, pm, rfl, -, -⟩ := SlAt.open hN
  obtain ⟨lp, lc, rfl, -, -⟩ := SlAt.open hL
  have hP : IntsAt S w (.slice pp t.ps.length pc) t.ps := hP
  have hN : StrsAt S w (.slice pn t.ns.length pm) t.ns := hN
  have hL : IntsAt S w (.slice lp L.length lc) L := hL
  have ha := Up.alloc w (.cells #[.slice pp t.ps.length pc, .slice pn t.ns.length pm] 45)
  have hc := Up.alloc (w.alloc (.cells #[.slice pp t.ps.length pc, .slice pn t.ns.length pm] 45)) (.cells #[.slice none 0 0, .slice none 0 0] 45)
  have HC0 := Lib.hid (hc.cell (box2_0 w (.slice pp t.ps.length pc) (.slice pn t.ns.length pm) 45))
  have HC1 := Lib.hid (hc.cell (box2_1 w (.slice pp t.ps.length pc) (.slice pn t.ns.length pm) 45))
  have hrb := box_at (w := w.alloc (.cells #[.slice pp t.ps.length pc, .slice pn t.ns.length pm] 45)) (P := .slice none 0 0) (N := .slice none 0 0) (T := 45)
  have hsz : ((w.alloc (.cells #[.slice pp t.ps.length pc, .slice pn t.ns.length pm] 45)).alloc (.cells #[.slice none 0 0, .slice none 0 0] 45)).heap.size = w.heap.size + 2 := by simp
  rw [World.size_alloc] at hrb
  have hu := ha.trans hc
  have HU := Lib.hid hu
  have HT1 : Hid (TreeAt S _ _ t) := TreeAt.keep ⟨_, _, rfl, hP, hN⟩ (hu.kept S)
  have HN1 := Lib.hid (StrsAt.keep hN (hu.kept S))
  have HL1 := Lib.hid (IntsAt.keep hL (hu.kept S))
  have HRB := Lib.hid hrb
  have HSZ := Lib.hid hsz
  have HLL := Lib.hid hll
  have HRE : Hid (rsErr t L = if treeErr t ≠ 0 then 1 else if L.length = 0 then 5 else firstNZ (rsE t L) L.length) := rfl
  have hc0 := HC0.out
  have hc1 := HC1.out
  have HCK := Lib.hid (checkR_t S _ _ t HT1.out hp hn hz)
  clear ha hc hu hP hN hL hrb hsz hz hll
  go_enter Tryz.func36, Tryz.ntmps36
  go_wp2_with fail
  generalize (w.alloc (.cells #[.slice pp t.ps.length pc, .slice pn t.ns.length pm] 45)).alloc (.cells #[.slice none 0 0, .slice none 0 0] 45) = w1 at *
  refine HCK.out.mono ?_
  rintro e w2 ⟨rfl, hb2⟩
  have hu2 : Up w1 w2 := hb2
  have HUo := Lib.hid (HU.out.trans hu2)
  have hc0 := hu2.cell HC0.out
  have hc1 := hu2.cell HC1.out
  have HC02 := Lib.hid hc0
  have HC12 := Lib.hid hc1
  have HRBo := Lib.hid ((Below.block hu2 (w.heap.size + 1) (by rw [HSZ.out]; omega)).trans HRB.out)
  have HT2 := Lib.hid (HT1.out.keep (hu2.kept S))
  have HN2 := Lib.hid (HN1.out.keep (hu2.kept S))
  have HL2 := Lib.hid (HL1.out.keep (hu2.kept S))
  have HS2 : Hid (w.heap.size + 2 ≤ w2.heap.size) := by have := hu2.size; rw [HSZ.out] at this; exact this
  obtain ⟨q0, q1, q2, q3⟩ := boxed HRBo.out
  clear hb2 hu2 HCK HT1 HN1 HL1 HU HRB HSZ HC0 HC1
  by_cases he : treeErr t = 0
  · obtain ⟨hp0, -, hnl, -, -⟩ := treeErr_zero he
    have HTE := Lib.hid he
    have HP0 := Lib.hid hp0
    rw [he]
    have HRE2 : Hid (rsErr t L = if L.length = 0 then 5 else firstNZ (rsE t L) L.length) := by rw [Hid, HRE.out, if_neg (by simp [he])]
    have HNL := Lib.hid hnl
    clear he HRE hnl hp0 hp hn
    by_cases h0 : L.length = 0
    · have d0 : ((L.length : Int) == 0) = true := by rw [h0]; rfl
      have HEE : Hid (rsErr t L = 5) := by unfold Hid; rw [HRE2.out, if_pos h0]
      clear h0
      have HST := Lib.hid (rs_err (c := 5) (Nat.le_succ _) HUo.out HRBo.out (HEE.out) (by decide))
      go_wp2_with fail
      obtain ⟨s2, s3, hp⟩ := HST.out
      exact ⟨rfl, .tuple #[.agg #[.slice none 0 0, .slice none 0 0], .int .i64 5], by simp [results, Tryz.results36, go_sem, s2, s3], hp⟩
    · have d0 : ((L.length : Int) == 0) = false := beq_eq_false_iff_ne.2 (by omega)
      have HRE3 : Hid (rsErr t L = firstNZ (rsE t L) L.length) := by rw [Hid, HRE2.out, if_neg h0]
      have HNE : Hid (∀ k c, k < L.length → (∀ j, j < k → rsE t L j = 0) → rsE t L k = c → c ≠ 0 → rsErr t L = c) := fun k c hk hj hc h0 => by
        rw [HRE3.out, firstNZ_at hk hj (by rw [hc]; exact h0), hc]
      have HEK : Hid (∀ k, rsE t L k = if gi L k < 0 ∨ (t.ps.length : Int) ≤ gi L k then 2 else if (gs t.ns (gi L k).toNat).size = 0 then 8 else if 0 < k ∧ gi L k ≤ gi L (k - 1) then 10 else 0) := fun _ => rfl
      have HUW := Lib.hid HUo.out
      have HRB2 := Lib.hid HRBo.out
      clear h0 HRE2 HUo HRBo
      have hmm := fun W => run_makeMap (P := Tryz.prog) 96 W
      go_wp2_with fail
      clear hmm d0 q0 q1 q2 q3
      go_loopw [7, 8] (fun i _ wr => ∃ k : Nat, k ≤ L.length ∧ i = .int .i64 k ∧ Hid (∀ j, j < k → rsE t L j = 0) ∧ Hid (SMap wr w2.heap.size (smK (kpL t L) k)) ∧ Hid (Up w2 wr)) (fun i _ _ => L.length - (intOf i).toNat)
      case atStart => exact ⟨0, Nat.zero_le _, rfl, fun j hj => absurd hj (Nat.not_lt_zero _), SMap.made w2, Up.alloc _ _⟩
      case round =>
        obtain ⟨k, hk, rfl, hd, hM, hUr⟩ := hrel
        obtain ⟨wo, rfl⟩ : ∃ wo : World, wo = wr := ⟨_, rfl⟩
        have HUo := Lib.hid (HUW.out.trans hUr.out)
        have HRBo := Lib.hid ((Below.block hUr.out (w.heap.size + 1) (by have := HS2.out; omega)).trans HRB2.out)
        have hc0 := hUr.out.cell HC02.out
        have hc1 := hUr.out.cell HC12.out
        obtain ⟨q0, q1, q2, q3⟩ := boxed HRBo.out
        have HUR := Lib.hid hUr.out
        have HM := Lib.hid hM.out
        clear hUr hM
        by_cases hlt : k < L.length
        · obtain ⟨lb, lo, rfl, hx⟩ := ints_get (IntsAt.keep HL2.out (HUR.out.kept S)) hlt
          have k1 : (0 : Int) ≤ (k : Int) := by omega
          have k2 : (k : Int) < (L.length : Int) := by omega
          have k3 : (k : Int) < 1000 := by have := HLL.out; omega
          have HK := Lib.hid (HEK.out k)
          have HER := Lib.hid (fun c => HNE.out k c hlt hd.out)
          have HLT := Lib.hid hlt
          have HD := Lib.hid hd.out
          have hprev : ∀ h : 0 < k, wo.cell? ⟨lb, lo + (k - 1), none⟩ = some (.int .i64 (gi L (k - 1))) := fun h => ints_get' (IntsAt.keep HL2.out (HUR.out.kept S)) (by omega)
          have HP := Lib.hid hprev
          clear hprev hd hk hlt
          by_cases c1 : gi L k < 0
          · have e1 : decide (gi L k < 0) = true := decide_eq_true c1
            have HEE : Hid (rsErr t L = 2) := HER.out 2 (by rw [HK.out, if_pos (.inl c1)]) (by decide)
            have HST := Lib.hid (rs_err (c := 2) (Nat.le_succ _) HUo.out HRBo.out (HEE.out) (by decide))
            go_wp2_with fail
            obtain ⟨s2, s3, hp⟩ := HST.out
            exact ⟨rfl, .tuple #[.agg #[.slice none 0 0, .slice none 0 0], .int .i64 2], by simp [results, Tryz.results36, go_sem, s2, s3], hp⟩
          · have e1 : decide (gi L k < 0) = false := decide_eq_false c1
            by_cases c2 : (t.ps.length : Int) ≤ gi L k
            · have e2 : decide ((t.ps.length : Int) ≤ gi L k) = true := decide_eq_true c2
              have HEE : Hid (rsErr t L = 2) := HER.out 2 (by rw [HK.out, if_pos (.inr c2)]) (by decide)
              have HST := Lib.hid (rs_err (c := 2) (Nat.le_succ _) HUo.out HRBo.out (HEE.out) (by decide))
              go_wp2_with fail
              obtain ⟨s2, s3, hp⟩ := HST.out
              exact ⟨rfl, .tuple #[.agg #[.slice none 0 0, .slice none 0 0], .int .i64 2], by simp [results, Tryz.results36, go_sem, s2, s3], hp⟩
            · obtain ⟨q, hq⟩ : ∃ q : Nat, gi L k = q := ⟨(gi L k).toNat, by omega⟩
              have hqn : q < t.ns.length := by have := HNL.out; omega
              obtain ⟨nb, no, rfl, hxn⟩ := strs_get (StrsAt.keep HN2.out (HUR.out.kept S)) hqn
              have n1 : (0 : Int) ≤ (q : Int) := by omega
              have n2 : (q : Int) < (t.ns.length : Int) := by omega
              have HK2 : Hid (rsE t L k = if (gs t.ns q).size = 0 then 8 else if 0 < k ∧ (q : Int) ≤ gi L (k - 1) then 10 else 0) := by
                rw [Hid, HK.out, if_neg (by omega), hq]; rfl
              have HNM : Hid (gs (kpL t L) k = gs t.ns q) := by unfold Hid; rw [kpL_at HLT.out, hq, Int.toNat_natCast]
              rw [hq] at e1 hx c1
              have e2 : decide ((t.ps.length : Int) ≤ (q : Int)) = false := decide_eq_false (by omega)
              have e2n : decide (t.ps.length ≤ q) = false := decide_eq_false (by omega)
              have e2p : ¬ t.ps.length ≤ q := by omega
              clear c1 c2 hq HK hqn
              by_cases c3 : (gs t.ns q).size = 0
              · have e3 : (gs t.ns q).toList = [] := (toList_nil _).2 c3
                have HEE : Hid (rsErr t L = 8) := HER.out 8 (by rw [HK2.out, if_pos c3]) (by decide)
                clear c3
                have HST := Lib.hid (rs_err (c := 8) (Nat.le_succ _) HUo.out HRBo.out (HEE.out) (by decide))
                go_wp2_with fail
                obtain ⟨s2, s3, hp⟩ := HST.out
                exact ⟨rfl, .tuple #[.agg #[.slice none 0 0, .slice none 0 0], .int .i64 8], by simp [results, Tryz.results36, go_sem, s2, s3], hp⟩
              · have e3 : ((gs t.ns q).toList == []) = false := by
                  rw [beq_eq_false_iff_ne]
                  exact fun h => c3 ((toList_nil _).1 h)
                by_cases c4 : 0 < k
                · have hx2 := HP.out c4
                  have e4 : decide ((0 : Int) < (k : Int)) = true := decide_eq_true (by omega)
                  have p1 : (0 : Int) ≤ (k : Int) - 1 := by omega
                  have p2 : (k : Int) - 1 < (L.length : Int) := by omega
                  have p3 : ((k : Int) - 1).toNat = k - 1 := by omega
                  by_cases c5 : (q : Int) ≤ gi L (k - 1)
                  · have e5 : decide ((q : Int) ≤ gi L (k - 1)) = true := decide_eq_true c5
                    have HEE : Hid (rsErr t L = 10) := HER.out 10 (by rw [HK2.out, if_neg c3, if_pos ⟨c4, c5⟩]) (by decide)
                    clear c3
                    have HST := Lib.hid (rs_err (c := 10) (Nat.le_succ _) HUo.out HRBo.out (HEE.out) (by decide))
                    go_wp2_with fail
                    obtain ⟨s2, s3, hp⟩ := HST.out
                    exact ⟨rfl, .tuple #[.agg #[.slice none 0 0, .slice none 0 0], .int .i64 10], by simp [results, Tryz.results36, go_sem, s2, s3], hp⟩
                  · have e5 : decide ((q : Int) ≤ gi L (k - 1)) = false := decide_eq_false c5
                    have HZ : Hid (rsE t L k = 0) := by unfold Hid; rw [HK2.out, if_neg c3, if_neg (fun h => c5 h.2)]
                    clear c3
                    have HD2 : Hid (∀ j, j < k + 1 → rsE t L j = 0) := fun j hj => by
                      by_cases e : j = k
                      · rw [e]; exact HZ.out
                      · exact HD.out j (by omega)
                    obtain ⟨w5, hrun, hm5, hs5, ho5, ht5, hou5, hb5⟩ := run_sset (P := Tryz.prog) Tryz.underlying96 Tryz.underlying9 HM.out (smK_uniq (kpL t L) k) (gs t.ns q) (.bool true)
                    have HM5 : Hid (SMap w5 w2.heap.size (smK (kpL t L) (k + 1))) := by unfold Hid; rw [smK, HNM.out]; exact hm5
                    have HU5 : Hid (Up w2 w5) := ⟨ho5.trans HUR.out.os, ht5.trans HUR.out.tape, hou5.trans HUR.out.output, by rw [hs5]; exact HUR.out.size, fun b hb => (hb5 b (by omega)).trans (HUR.out.block b hb)⟩
                    clear hm5 hs5 ho5 ht5 hou5 hb5 HM
                    generalize gs t.ns q = nm at *
                    go_wp2_with fail
                    go_roundw
                    case rel => exact ⟨k + 1, HLT.out, by go_num, HD2.out, HM5.out, HU5.out⟩
                    case measure => have := HLT.out; simp [intOf]; omega
                · have e4 : decide ((0 : Int) < (k : Int)) = false := decide_eq_false (by omega)
                  have e4n : ¬ (0 : Int) < (k : Int) := by omega
                  have HZ : Hid (rsE t L k = 0) := by unfold Hid; rw [HK2.out, if_neg c3, if_neg (fun h => c4 h.1)]
                  clear c3
                  have HD2 : Hid (∀ j, j < k + 1 → rsE t L j = 0) := fun j hj => by
                    by_cases e : j = k
                    · rw [e]; exact HZ.out
                    · exact HD.out j (by omega)
                  obtain ⟨w5, hrun, hm5, hs5, ho5, ht5, hou5, hb5⟩ := run_sset (P := Tryz.prog) Tryz.underlying96 Tryz.underlying9 HM.out (smK_uniq (kpL t L) k) (gs t.ns q) (.bool true)
                  have HM5 : Hid (SMap w5 w2.heap.size (smK (kpL t L) (k + 1))) := by unfold Hid; rw [smK, HNM.out]; exact hm5
                  have HU5 : Hid (Up w2 w5) := ⟨ho5.trans HUR.out.os, ht5.trans HUR.out.tape, hou5.trans HUR.out.output, by rw [hs5]; exact HUR.out.size, fun b hb => (hb5 b (by omega)).trans (HUR.out.block b hb)⟩
                  clear hm5 hs5 ho5 ht5 hou5 hb5 HM
                  generalize gs t.ns q = nm at *
                  go_wp2_with fail
                  go_roundw
                  case rel => exact ⟨k + 1, HLT.out, by go_num, HD2.out, HM5.out, HU5.out⟩
                  case measure => have := HLT.out; simp [intOf]; omega
        · obtain rfl : k = L.length := by omega
          have HE0 : Hid (rsErr t L = 0) := by unfold Hid; rw [HRE3.out, firstNZ_zero hd.out]
          have HGR := Lib.hid (growR_t S t HTE.out (rkT t 0) 0 (Nat.le_refl _) HP0.out wo _ (HT2.out.keep (HUR.out.kept S)))
          clear hk hlt hd
          go_wp2_with fail
          refine HGR.out.mono ?_
          rintro e w3 ⟨hu3, v3, rfl, hr3⟩
          have hr3 : RAt (fun b => wo.heap.size ≤ b) w3 (toR t) v3 := hr3
          obtain ⟨b3, rfl⟩ := rat_ptr hr3
          have hsr : sizeR (toR t) ≤ 64 := sizeR_toR HTE.out
          have HWI := Lib.hid (without31_t (fun b => wo.heap.size ≤ b ∧ b < w3.heap.size) (kpL t L) L.length w2.heap.size 64 (toR t) hsr (by omega) w3 _ (fun b hb => hb.2) (RAt.sub (fun b hb hl => ⟨hb, hl⟩) _ hr3) (HM.out.same (Below.block hu3 _ HM.out.lt)))
          have HWR : Hid (wiR (inNm (kpL t L) L.length) (toR t) = some (rsR t L)) := by
            unfold Hid
            have e : inNm (kpL t L) L.length = rsN t L := funext fun s => kpL_in t L s
            rw [e]; exact wi_rsR HE0.out
          have HU3 := Lib.hid hu3
          clear hu3 hr3 HGR hsr q0 q1 q2 q3
          go_wp2_with fail
          refine HWI.out.mono ?_
          rintro e w4 ⟨hu4, hm4⟩
          rw [HWR.out] at hm4
          obtain ⟨b4, rfl, hr4⟩ := hm4
          have hr4 : RAt (fun b => wo.heap.size ≤ b) w4 (rsR t L) (.pointer (some ⟨b4, 0, none⟩)) := RAt.sub (fun b hb _ => by
            rcases hb with hb | hb
            · exact hb.1
            · have := HU3.out.size; omega) _ hr4
          have HLM := Lib.hid (limited31_t _ _ _ _ hr4 (by have := (rs_facts HE0.out).2.2.1; omega))
          have HUX := Lib.hid (HU3.out.trans hu4)
          have HTT : Hid (flat (ordR (contrR (rsR t L))) = rsT t L) := rs_tree HE0.out
          clear hu4 hr4 HWI
          generalize flat (ordR (contrR (rsR t L))) = T2 at *
          go_wp2_with fail
          refine HLM.out.mono ?_
          rintro e w6 ⟨hu6, lp2, lpc, lq, lqc, rfl, hT6⟩
          have HU6 := Lib.hid ((HUo.out.trans HUX.out).trans hu6)
          have HRB6 := Lib.hid ((Below.block (HUX.out.trans hu6) (w.heap.size + 1) (by have := HUR.out.size; have := HS2.out; omega)).trans HRBo.out)
          have HRT := Lib.hid (rs_fin (w := w) (B := w.heap.size + 1) (Nat.le_succ _) HU6.out HRB6.out HE0.out HTT.out (hT6.sub fun b hb _ => by have := HUX.out.size; have := HUR.out.size; have := HS2.out; omega))
          obtain ⟨q0, q1, q2, q3⟩ := boxed HRB6.out
          clear hu6 hT6 HLM
          generalize (lmT T2).ps.length = lx at *
          generalize (lmT T2).ns.length = ly at *
          generalize lmC T2 = lcc at *
          go_wp2_with fail
          obtain ⟨s1, s2, s3⟩ := HRT.out
          exact ⟨rfl, .tuple #[.agg #[.slice lp2 lx lpc, .slice lq ly lqc], .int .i64 lcc], by simp [results, Tryz.results36, go_sem, s1, s2], s3⟩
  · have he1 : (treeErr t != 0) = true := by simpa using he
    have HEE : Hid (rsErr t L = 1) := by unfold Hid; rw [HRE.out, if_pos he]
    clear he
    generalize treeErr t = te at he1 ⊢
    have HST := Lib.hid (rs_err (c := 1) (Nat.le_succ _) HUo.out HRBo.out (HEE.out) (by decide))
    go_wp2_with fail
    obtain ⟨s2, s3, hp⟩ := HST.out
    exact ⟨rfl, .tuple #[.agg #[.slice none 0 0, .slice none 0 0], .int .i64 1], by simp [results, Tryz.results36, go_sem, s2, s3], hp⟩
end Go.Proofs.YtpjijbophjdgaaaGreat
namespace Go.Proofs.YtpjijbophjdgaaaGreat
open Go.RowKit Go.Deep
end Go.Proofs.YtpjijbophjdgaaaGreat
namespace Go.Proofs.YtpjijbophjdgaaaGreat
open Go.RowKit Go.Deep
end Go.Proofs.YtpjijbophjdgaaaGreat
namespace Go.Proofs.YtpjijbophjdgaaaGreat
open Go.RowKit Go.Deep
end Go.Proofs.YtpjijbophjdgaaaGreat
namespace Go.Proofs.YtpjijbophjdgaaaGreat
open Go.RowKit Go.Deep
theorem rd_small31 {t : Tre} (h : gt31B t 16 = false) : t.ps.length ≤ 66 ∧ t.ns.length ≤ 68 ∧ ∀ k, (gs t.ns k).size ≤ 20 := by
  unfold gt31B at h
  simp only [Bool.or_eq_false_iff, Bool.and_eq_false_iff, decide_eq_false_iff_not] at h
  refine ⟨by omega, by omega, fun k => ?_⟩
  by_cases hk : k < t.ns.length
  · have h2 := any_false h.2 hk
    have := of_decide_eq_false h2
    omega
  · have : gs t.ns k = ByteArray.empty := by simp [gs, show t.ns.length ≤ k by omega]
    rw [this]; exact Nat.zero_le _
end Go.Proofs.YtpjijbophjdgaaaGreat
