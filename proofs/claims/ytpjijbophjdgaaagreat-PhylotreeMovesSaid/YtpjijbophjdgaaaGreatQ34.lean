/- The walk of phylotree.Restrict. The walk of phylotree.Reroot. -/
import Derived.Test.YtpjijbophjdgaaaGreatQ33
import Derived.Test.YtpjijbophjdgaaaGreatQ24
import Derived.Test.YtpjijbophjdgaaaGreatQ30
namespace Go.Proofs.YtpjijbophjdgaaaGreat
open Go.RowKit Go.Deep
theorem rs_err {w W : World} {B : Nat} {t : Tre} {L : List Int} {c : Int} (hB : w.heap.size ≤ B) (hu : Up w W) (hb : W.heap[B]? = some (Obj.cells #[.slice none 0 0, .slice none 0 0] 45 (0, 0))) (hc : rsErr t L = c) (h0 : c ≠ 0) :
    ((W.setCell ⟨B, 0, none⟩ (.slice none 0 0)).setCell ⟨B, 1, none⟩ (.slice none 0 0)).cell? ⟨B, 0, none⟩ = some (.slice none 0 0) ∧ ((W.setCell ⟨B, 0, none⟩ (.slice none 0 0)).setCell ⟨B, 1, none⟩ (.slice none 0 0)).cell? ⟨B, 1, none⟩ = some (.slice none 0 0) ∧
      RsPost w t L (.returned (.tuple #[.agg #[.slice none 0 0, .slice none 0 0], .int .i64 c])) ((W.setCell ⟨B, 0, none⟩ (.slice none 0 0)).setCell ⟨B, 1, none⟩ (.slice none 0 0)) := by
  obtain ⟨s1, s2, s3, s4⟩ := store_two (p := .slice none 0 0) (q := .slice none 0 0) hb hB hu
  refine ⟨s2, s3, s1, .agg #[.slice none 0 0, .slice none 0 0], by rw [hc], ?_⟩
  unfold rsT; rw [if_pos (by rw [hc]; exact h0)]; exact nil_tree _
set_option maxRecDepth 100000 in
set_option maxHeartbeats 8000000 in
theorem restrict_t (S : Nat → Prop) (w : World) (v vl : Value) (t : Tre) (L : List Int) (hT : TreeAt S w v t) (hL : IntsAt S w vl L) (hp : t.ps.length ≤ 1000000) (hn : t.ns.length ≤ 1000000) (hz : ∀ k, (gs t.ns k).size ≤ 70000) (hll : L.length ≤ 1000000) :
    Calls Tryz.prog 35 #[v, vl] w (RsPost w t L) := by
  obtain ⟨P, N, rfl, hP, hN⟩ := hT
  obtain ⟨pp, pc, rfl, _, _⟩ := SlAt.open hP
  obtain ⟨pn, pm, rfl, _, _⟩ := SlAt.open hN
  obtain ⟨lp, lc, rfl, _, _⟩ := SlAt.open hL
  have hP : IntsAt S w (.slice pp t.ps.length pc) t.ps := hP
  have hN : StrsAt S w (.slice pn t.ns.length pm) t.ns := hN
  have hL : IntsAt S w (.slice lp L.length lc) L := hL
  have ha := Up.alloc w (.cells #[.slice pp t.ps.length pc, .slice pn t.ns.length pm] 45)
  have hb := Up.alloc (w.alloc (.cells #[.slice pp t.ps.length pc, .slice pn t.ns.length pm] 45)) (.cells #[.slice lp L.length lc] 26)
  have hc := Up.alloc ((w.alloc (.cells #[.slice pp t.ps.length pc, .slice pn t.ns.length pm] 45)).alloc (.cells #[.slice lp L.length lc] 26)) (.cells #[.slice none 0 0, .slice none 0 0] 45)
  have HC0 := Lib.hid ((hb.trans hc).cell (box2_0 w (.slice pp t.ps.length pc) (.slice pn t.ns.length pm) 45))
  have HC1 := Lib.hid ((hb.trans hc).cell (box2_1 w (.slice pp t.ps.length pc) (.slice pn t.ns.length pm) 45))
  have hlc := hc.cell (box1_0 (w.alloc (.cells #[.slice pp t.ps.length pc, .slice pn t.ns.length pm] 45)) (.slice lp L.length lc) 26)
  have hrb := box_at (w := (w.alloc (.cells #[.slice pp t.ps.length pc, .slice pn t.ns.length pm] 45)).alloc (.cells #[.slice lp L.length lc] 26)) (P := .slice none 0 0) (N := .slice none 0 0) (T := 45)
  have hsz : (((w.alloc (.cells #[.slice pp t.ps.length pc, .slice pn t.ns.length pm] 45)).alloc (.cells #[.slice lp L.length lc] 26)).alloc (.cells #[.slice none 0 0, .slice none 0 0] 45)).heap.size = w.heap.size + 3 := by simp
  rw [World.size_alloc, World.size_alloc] at hrb
  rw [World.size_alloc] at hlc
  have hu := (ha.trans hb).trans hc
  have HU := Lib.hid hu
  have HT1 : Hid (TreeAt S _ _ t) := TreeAt.keep ⟨_, _, rfl, hP, hN⟩ (hu.kept S)
  have HL1 := Lib.hid (IntsAt.keep hL (hu.kept S))
  have HN1 := Lib.hid (StrsAt.keep hN (hu.kept S))
  have HRB := Lib.hid hrb
  have HLC := Lib.hid hlc
  have HSZ := Lib.hid hsz
  have HZ := Lib.hid hz
  have HRE : Hid (rsErr t L = if treeErr t ≠ 0 then 1 else if L.length = 0 then 5 else firstNZ (rsE t L) L.length) := rfl
  have hc0 := HC0.out
  have hc1 := HC1.out
  have HCK := Lib.hid (check_t S _ _ t HT1.out hp hn hz)
  clear ha hb hc hu hP hN hL hrb hsz hlc hz
  go_enter Tryz.func35, Tryz.ntmps35
  go_wp2_with fail
  generalize ((w.alloc (.cells #[.slice pp t.ps.length pc, .slice pn t.ns.length pm] 45)).alloc (.cells #[.slice lp L.length lc] 26)).alloc (.cells #[.slice none 0 0, .slice none 0 0] 45) = w1 at *
  refine HCK.out.mono ?_
  rintro e w2 ⟨rfl, hu2⟩
  have hu2 : Up w1 w2 := hu2
  have HU2 := Lib.hid hu2
  have HUW := Lib.hid (HU.out.trans hu2)
  have hc0 := hu2.cell HC0.out
  have hc1 := hu2.cell HC1.out
  have hlc := hu2.cell HLC.out
  have hrb2 := (Below.block hu2 (w.heap.size + 2) (by rw [HSZ.out]; omega)).trans HRB.out
  obtain ⟨q0, q1, q2, q3⟩ := boxed hrb2
  have HRB2 := Lib.hid hrb2
  clear hu2 hrb2 HCK
  by_cases he : treeErr t = 0
  · obtain ⟨hp0, hp64, hnl, hok, _⟩ := treeErr_zero he
    have HTE := Lib.hid he
    rw [he]
    have HRE2 : Hid (rsErr t L = if L.length = 0 then 5 else firstNZ (rsE t L) L.length) := by rw [Hid, HRE.out, if_neg (by simp [he])]
    have HNL := Lib.hid hnl
    clear he HRE hnl hok
    by_cases h0 : L.length = 0
    · have d0 : ((L.length : Int) == 0) = true := by rw [h0]; rfl
      have HST := Lib.hid (rs_err (c := 5) (by omega) HUW.out HRB2.out (by rw [HRE2.out, if_pos h0]) (by decide))
      clear h0
      go_wp2_with fail
      obtain ⟨s2, s3, hp⟩ := HST.out
      exact ⟨rfl, .tuple #[.agg #[.slice none 0 0, .slice none 0 0], .int .i64 5], by simp [results, Tryz.results35, go_sem, s2, s3], hp⟩
    · have d0 : ((L.length : Int) == 0) = false := beq_eq_false_iff_ne.2 (by omega)
      have HRE3 : Hid (rsErr t L = firstNZ (rsE t L) L.length) := by rw [Hid, HRE2.out, if_neg h0]
      have HNE : Hid (∀ k c, k < L.length → (∀ j, j < k → rsE t L j = 0) → rsE t L k = c → c ≠ 0 → rsErr t L = c) := fun k c hk hj hc h0 => by
        rw [HRE3.out, firstNZ_at hk hj (by rw [hc]; exact h0), hc]
      have HL0 := Lib.hid h0
      have HL2 := Lib.hid (IntsAt.keep HL1.out (HU2.out.kept S))
      have HN2 := Lib.hid (StrsAt.keep HN1.out (HU2.out.kept S))
      have HEK : Hid (∀ k, rsE t L k = if gi L k < 0 ∨ (t.ps.length : Int) ≤ gi L k then 2 else if (gs t.ns (gi L k).toNat).size = 0 then 8 else if 0 < k ∧ gi L k ≤ gi L (k - 1) then 10 else 0) := fun _ => rfl
      clear h0 HRE2
      go_wp2_with fail
      go_loop [6, 7, 18, 23, 34, 42] (fun _ _ x _ _ _ => ∃ k : Nat, k ≤ L.length ∧ x = .int .i64 k ∧ Hid (∀ j, j < k → rsE t L j = 0)) (fun _ _ x _ _ _ => L.length - (intOf x).toNat)
      case atStart => exact ⟨0, Nat.zero_le _, rfl, fun j hj => absurd hj (Nat.not_lt_zero _)⟩
      case round =>
        obtain ⟨k, hk, rfl, hd⟩ := hrel
        by_cases hlt : k < L.length
        · obtain ⟨lb, lo, rfl, hx⟩ := ints_get HL2.out hlt
          have k1 : (0 : Int) ≤ (k : Int) := by omega
          have k2 : (k : Int) < (L.length : Int) := by omega
          have HK := Lib.hid (HEK.out k)
          have HER := Lib.hid (fun c => HNE.out k c hlt hd.out)
          have HLT := Lib.hid hlt
          have hprev : ∀ h : 0 < k, w2.cell? ⟨lb, lo + (k - 1), none⟩ = some (.int .i64 (gi L (k - 1))) := fun h => ints_get' HL2.out (by omega)
          have HP := Lib.hid hprev
          clear hprev
          by_cases c1 : gi L k < 0
          · have e1 : decide (gi L k < 0) = true := decide_eq_true c1
            have HST := Lib.hid (rs_err (c := 2) (by omega) HUW.out HRB2.out (HER.out 2 (by rw [HK.out, if_pos (.inl c1)]) (by decide)) (by decide))
            clear c1
            go_wp2_with fail
            obtain ⟨s2, s3, hp⟩ := HST.out
            exact ⟨rfl, .tuple #[.agg #[.slice none 0 0, .slice none 0 0], .int .i64 2], by simp [results, Tryz.results35, go_sem, s2, s3], hp⟩
          · have e1 : decide (gi L k < 0) = false := decide_eq_false c1
            by_cases c2 : (t.ps.length : Int) ≤ gi L k
            · have e2 : decide ((t.ps.length : Int) ≤ gi L k) = true := decide_eq_true c2
              have HST := Lib.hid (rs_err (c := 2) (by omega) HUW.out HRB2.out (HER.out 2 (by rw [HK.out, if_pos (.inr c2)]) (by decide)) (by decide))
              clear c1 c2
              go_wp2_with fail
              obtain ⟨s2, s3, hp⟩ := HST.out
              exact ⟨rfl, .tuple #[.agg #[.slice none 0 0, .slice none 0 0], .int .i64 2], by simp [results, Tryz.results35, go_sem, s2, s3], hp⟩
            · have e2 : decide ((t.ps.length : Int) ≤ gi L k) = false := decide_eq_false c2
              obtain ⟨q, hq⟩ : ∃ q : Nat, gi L k = q := ⟨(gi L k).toNat, by omega⟩
              have hqn : q < t.ns.length := by have := HNL.out; omega
              obtain ⟨nb, no, hnb, hxn⟩ := strs_get HN2.out hqn
              have n1 : (0 : Int) ≤ (q : Int) := by omega
              have n2 : (q : Int) < (t.ns.length : Int) := by omega
              have HK2 : Hid (rsE t L k = if (gs t.ns q).size = 0 then 8 else if 0 < k ∧ (q : Int) ≤ gi L (k - 1) then 10 else 0) := by
                rw [Hid, HK.out, if_neg (by omega), hq]; rfl
              rw [hq] at e1 e2 hx
              have e2n : decide (t.ps.length ≤ q) = false := decide_eq_false (by omega)
              have e2p : ¬ t.ps.length ≤ q := by omega
              subst hnb
              clear c1 c2 hq HK
              by_cases c3 : (gs t.ns q).size = 0
              · have e3 : ((gs t.ns q).toList == []) = true := by
                  rw [(toList_nil _).2 c3]; rfl
                have HST := Lib.hid (rs_err (c := 8) (by omega) HUW.out HRB2.out (HER.out 8 (by rw [HK2.out, if_pos c3]) (by decide)) (by decide))
                clear c3
                generalize gs t.ns q = nm at *
                go_wp2_with fail
                obtain ⟨s2, s3, hp⟩ := HST.out
                exact ⟨rfl, .tuple #[.agg #[.slice none 0 0, .slice none 0 0], .int .i64 8], by simp [results, Tryz.results35, go_sem, s2, s3], hp⟩
              · have e3 : ((gs t.ns q).toList == []) = false := by
                  rw [beq_eq_false_iff_ne]
                  exact fun h => c3 ((toList_nil _).1 h)
                by_cases c4 : 0 < k
                · have hx2 := HP.out c4
                  have e4 : decide ((0 : Int) < (k : Int)) = true := decide_eq_true (by omega)
                  have p1 : (0 : Int) ≤ (k : Int) - 1 := by omega
                  have p2 : (k : Int) - 1 < (L.length : Int) := by omega
                  have p3 : ((k : Int) - 1).toNat = k - 1 := by omega
                  by_cases c5 : (q : Int) ≤ gi L (k - 1)
                  · have e5 : decide ((q : Int) ≤ gi L (k - 1)) = true := decide_eq_true c5
                    have HST := Lib.hid (rs_err (c := 10) (by omega) HUW.out HRB2.out (HER.out 10 (by rw [HK2.out, if_neg c3, if_pos ⟨c4, c5⟩]) (by decide)) (by decide))
                    clear c3 c5
                    generalize gs t.ns q = nm at *
                    generalize gi L (k - 1) = pv at *
                    go_wp2_with fail
                    obtain ⟨s2, s3, hp⟩ := HST.out
                    exact ⟨rfl, .tuple #[.agg #[.slice none 0 0, .slice none 0 0], .int .i64 10], by simp [results, Tryz.results35, go_sem, s2, s3], hp⟩
                  · have e5 : decide ((q : Int) ≤ gi L (k - 1)) = false := decide_eq_false c5
                    have HN0 : Hid (∀ j, j < k + 1 → rsE t L j = 0) := fun j hj => if c : j = k then by subst c; rw [HK2.out, if_neg c3, if_neg (by omega)] else hd.out j (by omega)
                    clear c3 c5
                    generalize gs t.ns q = nm at *
                    generalize gi L (k - 1) = pv at *
                    go_wp2_with fail
                    go_round
                    case rel => exact ⟨k + 1, HLT.out, by go_num, HN0⟩
                    case measure => have := HLT.out; simp [intOf]; omega
                · have e4 : decide ((0 : Int) < (k : Int)) = false := decide_eq_false (by omega)
                  have HN0 : Hid (∀ j, j < k + 1 → rsE t L j = 0) := fun j hj => if c : j = k then by subst c; rw [HK2.out, if_neg c3, if_neg (by omega)] else hd.out j (by omega)
                  clear c3
                  generalize gs t.ns q = nm at *
                  go_wp2_with fail
                  go_round
                  case rel => exact ⟨k + 1, HLT.out, by go_num, HN0⟩
                  case measure => have := HLT.out; simp [intOf]; omega
        · obtain rfl : k = L.length := by omega
          have HR0 : Hid (rsErr t L = 0) := by rw [Hid, HRE3.out]; exact firstNZ_zero hd.out
          clear hlt hk hd HNE HRE3
          have HT2 : Hid (TreeAt S w2 (.agg #[.slice pp t.ps.length pc, .slice pn t.ns.length pm]) t) := HT1.out.keep (HU2.out.kept S)
          obtain ⟨_, _, hnl, hok, _⟩ := treeErr_zero HTE.out
          have HND := Lib.hid (nodes_t S w2 _ t HT2.out (by omega) hnl hok HZ.out)
          have HFX := Lib.hid (rs_facts HR0.out)
          clear hnl hok
          go_wp2_with fail
          refine HND.out.mono ?_
          rintro e w3 ⟨hu3, g, A, kv, rfl, hF, hrow⟩
          have hi0 := hrow.cell (i := 0) hp0
          simp only [nptr] at hi0
          have HF3 := Lib.hid hF
          have HU3 := Lib.hid hu3
          have HB3 : Hid (Below w2.heap.size w2 w3) := hu3
          have hpos : (0 : Int) < (t.ps.length : Int) := by omega
          have hlc3 := hu3.cell hlc
          have HLC3 := Lib.hid hlc3
          have HL3 := Lib.hid (IntsAt.keep HL2.out (hu3.kept S))
          have HA := Lib.hid (frT_arb HTE.out)
          have HS2 : Hid (w.heap.size + 3 ≤ w2.heap.size) := by have := HU2.out.size; rw [HSZ.out] at this; exact this
          have HLB : Hid (∀ W, Below w2.heap.size w2 W → W.cell? ⟨w.heap.size + 1, 0, none⟩ = some (.slice lp L.length lc) ∧ IntsAt S W (.slice lp L.length lc) L) := fun W hW => ⟨(show Up w2 W from hW).cell hlc, IntsAt.keep HL2.out ((show Up w2 W from hW).kept S)⟩
          have HPR := Lib.hid (pruned_t 102 #[.pointer (some ⟨w.heap.size + 1, 0, none⟩)] (enters_of Tryz.func102 (by kernel_rfl) rfl) (base := w2.heap.size) (n := t.ps.length) (A := A) (w0 := w2) (m := (frT t).nm) (o := fun j => (j : Int)) (P := rsP L) (rk := rkT t)
            (fun j W hj hB _ ho => keep_t S W (A j) (w.heap.size + 1) j _ L hll (HLB.out W hB).1 (HLB.out W hB).2 ho) (rkT t 0) (frT t) 0 kv w3 rfl rfl HA.out.wf (HA.out.dis (fun i _ => rkT_le t i) 0) (fun z hz => by have := frT_kids_len t z; omega) hp0 (Nat.le_refl _) HB3.out hu3.size hF)
          clear hu3 hF hrow hc0 hc1 hlc hlc3 q0 q1 q2 q3 HND
          have HAL := Lib.hid HFX.out.1
          unfold PrPost at HPR
          rw [HAL.out, if_pos rfl] at HPR
          unfold nptr at HPR
          go_wp2_with fail
          refine HPR.out.mono ?_
          rintro e w4 ⟨rfl, kv4, h4⟩
          have HB4 := Lib.hid (HB3.out.trans (h4.up.below HF3.out.lo HU3.out.size))
          have HZ4 : Hid (w2.heap.size ≤ w4.heap.size) := Nat.le_trans HU3.out.size h4.up.size
          have HMD := Lib.hid (made_t (pr_wf HA.out.wf 0) (pr_dis HA.out.wf hp0 (HA.out.dis (fun i _ => rkT_le t i) 0)) (pr_len (fun z hz => by have := frT_kids_len t z; omega) 0) (pr_out HA.out.wf hp0 fun z hz => all_below HTE.out z z (Nat.le_refl _) hz) hp0 HFX.out.2.1
            (Nat.le_trans (size_contr _) (Nat.le_trans HFX.out.2.2.1 (by decide))) HZ4.out h4.fr)
          have HT64 : Hid (¬ 64 < (flat (sortR (contrR (rsR t L)))).ps.length) := by have := HFX.out.2.2.2; unfold Hid; omega
          have HRS : Hid (rsT t L = flat (sortR (contrR (rsR t L)))) := by unfold Hid rsT; rw [if_neg (by simp [HR0.out])]
          have HRR : Hid (toRF ((frT t).sub (rkT t) (prQ (frT t) (rsP L) (rkT t)) 0) (rkT t) 0 = rsR t L) := rfl
          unfold MdPost at HMD
          rw [HRR.out, if_neg HT64.out, if_neg HT64.out] at HMD
          clear h4 HPR hi0
          generalize flat (sortR (contrR (rsR t L))) = T at *
          go_wp2_with fail
          refine HMD.out.mono ?_
          rintro e w5 ⟨hb5, hz5, _, rfl, P5, N5, rfl, hP5, hN5⟩
          obtain ⟨p5, c5, rfl, _, _⟩ := SlAt.open hP5
          obtain ⟨n5, d5, rfl, _, _⟩ := SlAt.open hN5
          have hu5 : Up w2 w5 := HB4.out.trans hb5
          have hrb5 := (Below.block hu5 (w.heap.size + 2) (by have := HS2.out; omega)).trans HRB2.out
          obtain ⟨q0, q1, q2, q3⟩ := boxed hrb5
          have HST := Lib.hid (store_two (w := w) (p := .slice p5 T.ps.length c5) (q := .slice n5 T.ns.length d5) hrb5 (by omega) (HUW.out.trans hu5))
          have HP5 := Lib.hid hP5
          have HN5 := Lib.hid hN5
          clear hb5 hrb5 hu5 hP5 hN5 HMD
          go_wp2_with fail
          obtain ⟨s1, s2, s3, s4⟩ := HST.out
          refine ⟨rfl, .tuple #[.agg #[.slice p5 T.ps.length c5, .slice n5 T.ns.length d5], .int .i64 0], by simp [results, Tryz.results35, go_sem, s2, s3], s1, _, by rw [HR0.out], ?_⟩
          rw [HRS.out]
          have hs2 := HS2.out
          have hz4 := HZ4.out
          exact ⟨_, _, rfl, (IntsAt.keep HP5.out fun b hb _ => s4 b (by omega)).sub fun _ _ _ => trivial, (StrsAt.keep HN5.out fun b hb _ => s4 b (by omega)).sub fun _ _ _ => trivial⟩
  · have he1 : (treeErr t != 0) = true := by simpa using he
    have HST := Lib.hid (rs_err (c := 1) (by omega) HUW.out HRB2.out (by rw [HRE.out, if_pos he]) (by decide))
    clear he HRE
    generalize treeErr t = te at *
    go_wp2_with fail
    obtain ⟨s2, s3, hp⟩ := HST.out
    exact ⟨rfl, .tuple #[.agg #[.slice none 0 0, .slice none 0 0], .int .i64 1], by simp [results, Tryz.results35, go_sem, s2, s3], hp⟩
end Go.Proofs.YtpjijbophjdgaaaGreat
namespace Go.Proofs.YtpjijbophjdgaaaGreat
open Go.RowKit Go.Deep
set_option maxRecDepth 100000 in
set_option maxHeartbeats 1000000 in
theorem from_t (W : World) (aj bx : Nat) (x f : Int) (hb : W.cell? ⟨bx, 0, none⟩ = some (.int .i64 f)) (ho : W.cell? ⟨aj, 2, none⟩ = some (.int .i64 x)) :
    Calls Tryz.prog 96 (#[.pointer (some ⟨aj, 0, none⟩)] ++ #[.pointer (some ⟨bx, 0, none⟩)]) W fun e W' => e = .returned (.bool (decide (x = f))) ∧ ∃ m, W' = W.drewN m := by
  have d1 : (x == f) = decide (x = f) := by rw [Bool.eq_iff_iff, beq_iff_eq, decide_eq_true_eq]
  have D1 := Lib.hid d1
  clear d1
  go_enter Tryz.func96, Tryz.ntmps96
  go_wp2_with fail
  go_big_quiet (fail)
  go_wp2_with fail
  go_ret
  exact ⟨by rw [← D1.out]; rfl, _, rfl⟩
set_option maxRecDepth 100000 in
set_option maxHeartbeats 1000000 in
theorem named_leaf_t (W : World) (aj : Nat) (s : ByteArray) (ho : W.cell? ⟨aj, 0, none⟩ = some (.string s)) :
    Calls Tryz.prog 99 (#[.pointer (some ⟨aj, 0, none⟩)] ++ #[]) W fun e W' => e = .returned (.bool (decide (s.size ≠ 0))) ∧ Up W W' := by
  by_cases h : s.size = 0
  · have e3 : (s.toList == []) = true := by rw [(toList_nil _).2 h]; rfl
    have HD : Hid (decide (s.size ≠ 0) = false) := by rw [Hid, h]; rfl
    clear h
    go_enter Tryz.func99, Tryz.ntmps99
    go_wp2_with fail
    go_ret
    exact ⟨by rw [HD.out]; rfl, Up.refl _⟩
  · have e3 : (s.toList == []) = false := by
      rw [beq_eq_false_iff_ne]; exact fun q => h ((toList_nil _).1 q)
    have HD : Hid (decide (s.size ≠ 0) = true) := decide_eq_true h
    clear h
    go_enter Tryz.func99, Tryz.ntmps99
    go_wp2_with fail
    go_ret
    exact ⟨by rw [HD.out]; rfl, Up.refl _⟩
end Go.Proofs.YtpjijbophjdgaaaGreat
