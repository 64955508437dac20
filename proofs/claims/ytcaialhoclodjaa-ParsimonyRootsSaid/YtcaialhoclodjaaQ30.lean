/- The contracts of the reference's checkStates, Check. The contract of the reference's Great. The law's fine. The closures of ParsimonyRoots; slices.IndexFunc with a function that draws. The walk of PhylotreeRerooted. -/
import Derived.Test.YtcaialhoclodjaaQ29
import Derived.Test.YtcaialhoclodjaaQ6
import Derived.Test.YtcaialhoclodjaaQ2
import Derived.Test.YtcaialhoclodjaaQ28
import Derived.Test.YtcaialhoclodjaaQ3
namespace Go.Proofs.Ytcaialhoclodjaa
open Go.RowKit Go.Deep
set_option maxRecDepth 100000 in
set_option maxHeartbeats 1000000 in
theorem statesR_t (S : Nat → Prop) (w : World) (v vs : Value) (t : Tre) (st : List Int) (hi : Int) (hT : TreeAt S w v t) (hS : IntsAt S w vs st) (he : treeErr t = 0)
    (hp : t.ps.length ≤ 1000000) (hn : t.ns.length ≤ 1000000) (hz : ∀ k, (gs t.ns k).size ≤ 70000) (hst : st.length ≤ 1000000) :
    Calls Try.prog 64 #[v, vs, .int .i64 hi] w fun e w' => StI e w' w (knownErr st (leavesL t.ns).length (-1) hi) := by
  have hfin : knownErr st (leavesL t.ns).length (-1) hi = if st.length ≠ (leavesL t.ns).length then 9 else if stBad st (-1) hi then 2 else 0 := rfl
  have HF := Lib.hid hfin
  obtain ⟨P, N, rfl, hP, hN⟩ := hT
  obtain ⟨qS, capS, rfl, hcapS, _⟩ := SlAt.open hS
  have hS : IntsAt S w (.slice qS st.length capS) st := hS
  have hu := Up.alloc w (.cells #[P, N] 25)
  have hT1 : TreeAt S (w.alloc (.cells #[P, N] 25)) (.agg #[P, N]) t := TreeAt.keep ⟨_, N, rfl, hP, hN⟩ (hu.kept S)
  have hk := leavesR_t S _ _ t hT1 hp hn hz
  have HK := Lib.hid hk
  have HU := Lib.hid hu
  have HS := Lib.hid (IntsAt.keep hS (hu.kept S))
  have HE := Lib.hid he
  clear hk hu hT1 hS hP hN hfin hz he
  go_enter Try.func64, Try.ntmps64
  go_wp2_with fail
  generalize w.alloc (.cells #[P, N] 25) = w1 at *
  refine HK.out.mono ?_
  rintro e w2 ⟨hb, ⟨h1, _⟩ | ⟨_, lv, rfl, hlv⟩⟩
  · exact absurd HE.out h1
  obtain ⟨lp, lc, rfl, _, _⟩ := SlAt.open hlv
  have HU2 := Lib.hid (HU.out.trans (show Up w1 w2 from hb))
  have HS2 := Lib.hid (IntsAt.keep HS.out (Up.kept (show Up w1 w2 from hb) S))
  clear hb HK HU HS hlv
  by_cases hl : st.length = (leavesL t.ns).length
  · have hl1 : ((st.length : Int) != (leavesL t.ns).length) = false := by simp [hl]
    have HL := Lib.hid hl
    clear hl
    go_wp2_with fail
    go_loop [9] (fun i => ∃ k : Nat, k ≤ st.length ∧ i = .int .i64 k ∧ Hid (∀ j, j < k → (decide (gi st j < -1) || decide (hi ≤ gi st j)) = false)) (fun i => st.length - (intOf i).toNat)
    case atStart => exact ⟨0, Nat.zero_le _, rfl, fun j hj => absurd hj (Nat.not_lt_zero _)⟩
    case round =>
      obtain ⟨k, hk, rfl, hd⟩ := hrel
      by_cases hlt : k < st.length
      · obtain ⟨b, off, rfl, hc⟩ := ints_get HS2.out hlt
        generalize hx : gi st k = x at *
        have HX := Lib.hid hx
        clear hx
        by_cases h1 : x < -1
        · have hb : Hid (stBad st (-1) hi = true) := any_at hlt (by rw [HX.out]; simp [h1])
          go_wp2_with fail
          go_ret
          exact ⟨ret_int (by rw [HF.out, if_neg (fun h => h HL.out), if_pos hb.out]), HU2.out⟩
        · by_cases h2 : hi ≤ x
          · have hb : Hid (stBad st (-1) hi = true) := any_at hlt (by rw [HX.out]; simp [h2])
            go_wp2_with fail
            go_ret
            exact ⟨ret_int (by rw [HF.out, if_neg (fun h => h HL.out), if_pos hb.out]), HU2.out⟩
          · have hg : Hid ((decide (x < -1) || decide (hi ≤ x)) = false) := by unfold Hid; simp; omega
            go_wp2_with fail
            go_round
            case rel => exact ⟨k + 1, by omega, by go_num, fun j hj => if e : j = k then by subst e; rw [HX.out]; exact hg.out else hd.out j (by omega)⟩
            case measure => simp [intOf]; omega
      · have hb : Hid (stBad st (-1) hi = false) := any_none fun j hj => hd.out j (by omega)
        go_wp2_with fail
        go_ret
        exact ⟨ret_int (by rw [HF.out, if_neg (fun h => h HL.out), hb.out]; simp), HU2.out⟩
  · have hl1 : ((st.length : Int) != (leavesL t.ns).length) = true := by simp; omega
    have HL := Lib.hid hl
    clear hl
    go_wp2_with fail
    go_ret
    exact ⟨ret_int (by rw [HF.out, if_pos HL.out]), HU2.out⟩
set_option maxRecDepth 100000 in
set_option maxHeartbeats 800000 in
theorem checkRP_t (S : Nat → Prop) (w : World) (v vs vc : Value) (t : Tre) (st : List Int) (cs : List (List Int)) (hT : TreeAt S w v t) (hS : IntsAt S w vs st) (hC : RowsAt S w vc cs) (hz : Sized t st cs) :
    Calls Try.prog 34 #[v, vs, vc] w fun e w' => StI e w' w (parErr t st cs) := by
  obtain ⟨hz1, hz2, hz3, hz4, hz5, hz6⟩ := hz
  have hfin : parErr t st cs = if treeErr t ≠ 0 then 1 else if matErr cs ≠ 0 then matErr cs else knownErr st (leavesL t.ns).length (-1) cs.length := rfl
  have HF := Lib.hid hfin
  obtain ⟨P, N, rfl, hP, hN⟩ := hT
  obtain ⟨qC, capC, rfl, hcapC, _⟩ := rows_open hC
  have hu := Up.alloc w (.cells #[P, N] 25)
  have hT1 : TreeAt S (w.alloc (.cells #[P, N] 25)) (.agg #[P, N]) t := TreeAt.keep ⟨_, N, rfl, hP, hN⟩ (hu.kept S)
  have hk := costsR_t S _ _ _ t cs hT1 (hC.keep (hu.kept S)) hz1 hz2 hz3 hz5 hz6
  have HK := Lib.hid hk
  have HU := Lib.hid hu
  have HT := Lib.hid hT1
  have HS := Lib.hid (IntsAt.keep hS (hu.kept S))
  have HB0 := Lib.hid (box2_0 w P N 25)
  have HB1 := Lib.hid (box2_1 w P N 25)
  have HZ3 := Lib.hid hz3
  clear hk hu hT1 hS hC hP hN hfin hz3 hz6
  go_enter Try.func34, Try.ntmps34
  go_wp2_with fail
  generalize w.alloc (.cells #[P, N] 25) = w1 at *
  refine HK.out.mono ?_
  rintro e w2 ⟨rfl, hb⟩
  have hu2 : Up w1 w2 := hb
  have hc0 := hu2.cell HB0.out
  have hc1 := hu2.cell HB1.out
  have HU2 := Lib.hid (HU.out.trans hu2)
  have HT2 := Lib.hid (HT.out.keep (hu2.kept S))
  have HS2 := Lib.hid (IntsAt.keep HS.out (hu2.kept S))
  have hce : costsErr t cs = if treeErr t ≠ 0 then 1 else matErr cs := rfl
  have HCE := Lib.hid hce
  clear hb hu2 HK HU HB0 HB1 HT HS hce
  by_cases hc : costsErr t cs = 0
  · have hc2 : (costsErr t cs != 0) = false := by simpa using hc
    have ht : treeErr t = 0 := by
      rw [HCE.out] at hc
      by_cases h : treeErr t = 0
      · exact h
      · rw [if_pos h] at hc; cases hc
    have hm : matErr cs = 0 := by rw [HCE.out, if_neg (fun h => h ht)] at hc; exact hc
    have HH : Hid (parErr t st cs = knownErr st (leavesL t.ns).length (-1) cs.length) := by unfold Hid; rw [HF.out, if_neg (fun h => h ht), if_neg (fun h => h hm)]
    have HST := Lib.hid (statesR_t S w2 _ _ t st cs.length HT2.out HS2.out ht hz1 hz2 HZ3.out hz4)
    clear hc ht hm HCE HF
    go_wp2_with fail
    refine HST.out.mono ?_
    rintro e w3 ⟨rfl, hb⟩
    have HU3 := Lib.hid (HU2.out.trans (show Up w2 w3 from hb))
    clear hb
    go_wp2_with fail
    go_ret
    exact ⟨ret_int (by rw [HH.out]), HU3.out⟩
  · have hc2 : (costsErr t cs != 0) = true := by simpa using hc
    have HH : Hid (parErr t st cs = costsErr t cs) := by
      unfold Hid; rw [HF.out, HCE.out]
      rw [HCE.out] at hc
      by_cases h : treeErr t = 0
      · rw [if_neg (fun e => e h)] at hc ⊢; rw [if_pos hc, if_neg (fun e => e h)]
      · rw [if_pos h, if_pos h]
    clear hc HCE HF
    go_wp2_with fail
    go_ret
    exact ⟨ret_int (by rw [HH.out]), HU2.out⟩
end Go.Proofs.Ytcaialhoclodjaa
namespace Go.Proofs.Ytcaialhoclodjaa
open Go.RowKit Go.Deep
def greatTail (np nn ns nc : Nat) : Bool := decide (12 < np) || decide (14 < nn) || decide (12 < ns) || (decide (4 < nc) && decide (nc ≤ 16)) || decide (18 < nc)
def rowFar (cs : List (List Int)) : Bool := (List.range cs.length).any fun k => decide (18 < (gl cs k).length)
def nameFar (ns : List ByteArray) : Bool := (List.range ns.length).any fun k => decide (20 < (gs ns k).size)
def greatB (t : Tre) (st : List Int) (cs : List (List Int)) : Bool := rowFar cs || nameFar t.ns || greatTail t.ps.length t.ns.length st.length cs.length
def Big (t : Tre) (st : List Int) (cs : List (List Int)) : Prop :=
  t.ps.length ≤ 9223372036854775807 ∧ t.ns.length ≤ 9223372036854775807 ∧ (∀ k, (gs t.ns k).size ≤ 9223372036854775807) ∧ st.length ≤ 9223372036854775807 ∧ cs.length ≤ 9223372036854775807 ∧ ∀ k, (gl cs k).length ≤ 9223372036854775807
theorem great_sized {t : Tre} {st : List Int} {cs : List (List Int)} (h : greatB t st cs = false) : Sized t st cs ∧ t.ps.length ≤ 12 ∧ t.ns.length ≤ 14 ∧ st.length ≤ 12 ∧ cs.length ≤ 18 ∧ (∀ k, (gs t.ns k).size ≤ 20) ∧ (∀ k, (gl cs k).length ≤ 18) := by
  unfold greatB at h
  simp only [Bool.or_eq_false_iff] at h
  obtain ⟨⟨h1, h2⟩, h3⟩ := h
  unfold greatTail at h3
  simp only [Bool.or_eq_false_iff, Bool.and_eq_false_iff, decide_eq_false_iff_not] at h3
  have a1 : ∀ k, (gl cs k).length ≤ 18 := fun k => by
    by_cases hk : k < cs.length
    · have := any_false h1 hk; simp at this; omega
    · have : gl cs k = [] := by simp [gl, List.getElem?_eq_none (by omega : cs.length ≤ k)]
      rw [this]; simp
  have a2 : ∀ k, (gs t.ns k).size ≤ 20 := fun k => by
    by_cases hk : k < t.ns.length
    · have := any_false h2 hk; simp at this; omega
    · have : gs t.ns k = ByteArray.empty := by simp [gs, List.getElem?_eq_none (by omega : t.ns.length ≤ k)]
      rw [this]; simp
  refine ⟨⟨by omega, by omega, fun k => by have := a2 k; omega, by omega, by omega, fun k => by have := a1 k; omega⟩, by omega, by omega, by omega, by omega, a2, a1⟩
set_option maxRecDepth 100000 in
set_option maxHeartbeats 1000000 in
theorem great_t (S : Nat → Prop) (w : World) (v vs vc : Value) (t : Tre) (st : List Int) (cs : List (List Int)) (hT : TreeAt S w v t) (hS : IntsAt S w vs st) (hC : RowsAt S w vc cs) (hz : Big t st cs) :
    Calls Try.prog 33 #[v, vs, vc] w fun e w' => e = .returned (.bool (greatB t st cs)) ∧ Up w w' := by
  obtain ⟨hz1, hz2, hz3, hz4, hz5, hz6⟩ := hz
  obtain ⟨P, N, rfl, hP, hN⟩ := hT
  obtain ⟨pp, pcap, rfl, hpcap, _⟩ := SlAt.open hP
  obtain ⟨nn, ncap, rfl, hncap, _⟩ := SlAt.open hN
  obtain ⟨qS, capS, rfl, hcapS, _⟩ := SlAt.open hS
  obtain ⟨qC, capC, rfl, hcapC, _⟩ := rows_open hC
  have hN0 : StrsAt S w (.slice nn t.ns.length ncap) t.ns := hN
  have hu := Up.alloc w (.cells #[.slice pp t.ps.length pcap, .slice nn t.ns.length ncap] 25)
  have HU := Lib.hid hu
  have HN := Lib.hid (StrsAt.keep hN0 (hu.kept S))
  have HC := Lib.hid (hC.keep (hu.kept S))
  have hb0 := box2_0 w (.slice pp t.ps.length pcap) (.slice nn t.ns.length ncap) 25
  have hb1 := box2_1 w (.slice pp t.ps.length pcap) (.slice nn t.ns.length ncap) 25
  have HB0 := Lib.hid hb0
  have HB1 := Lib.hid hb1
  have HZ3 := Lib.hid hz3
  have HZ6 := Lib.hid hz6
  have hfin : greatB t st cs = (rowFar cs || nameFar t.ns || greatTail t.ps.length t.ns.length st.length cs.length) := rfl
  have HF := Lib.hid hfin
  clear hu hb0 hb1 hP hN hN0 hS hC hz3 hz6 hfin
  go_enter Try.func33, Try.ntmps33
  go_wp2_with fail
  generalize w.alloc (.cells #[.slice pp t.ps.length pcap, .slice nn t.ns.length ncap] 25) = w1 at *
  go_loop [7] (fun i => ∃ k : Nat, k ≤ cs.length ∧ i = .int .i64 k ∧ Hid (∀ j, j < k → decide (18 < (gl cs j).length) = false)) (fun i => cs.length - (intOf i).toNat)
  case atStart => exact ⟨0, Nat.zero_le _, rfl, fun j hj => absurd hj (Nat.not_lt_zero _)⟩
  case round =>
    obtain ⟨k, hk, rfl, hd⟩ := hrel
    by_cases hlt : k < cs.length
    · obtain ⟨b, off, q, c, rfl, hc, _⟩ := rows_get HC.out hlt
      have hrk := HZ6.out k
      by_cases hl : 18 < (gl cs k).length
      · have HH : Hid (rowFar cs = true) := any_at hlt (by simpa using hl)
        go_wp2_with fail
        go_ret
        exact ⟨ret_bool (by rw [HF.out, HH.out]; rfl), HU.out⟩
      · go_wp2_with fail
        go_round
        case rel => exact ⟨k + 1, by omega, by go_num, fun j hj => if e : j = k then by subst e; simpa using hl else hd.out j (by omega)⟩
        case measure => simp [intOf]; omega
    · obtain rfl : k = cs.length := by omega
      clear hlt hk
      have HH : Hid (rowFar cs = false) := any_none hd.out
      go_wp2_with fail
      go_loop [8] (fun i => ∃ k : Nat, k ≤ t.ns.length ∧ i = .int .i64 k ∧ Hid (∀ j, j < k → decide (20 < (gs t.ns j).size) = false)) (fun i => t.ns.length - (intOf i).toNat)
      case atStart => exact ⟨0, Nat.zero_le _, rfl, fun j hj => absurd hj (Nat.not_lt_zero _)⟩
      case round =>
        obtain ⟨k, hk, rfl, hd⟩ := hrel
        have hb1 := HB1.out
        by_cases hlt : k < t.ns.length
        · obtain ⟨b, off, rfl, hc⟩ := strs_get HN.out hlt
          have hrk := HZ3.out k
          by_cases hl : 20 < (gs t.ns k).size
          · have HH2 : Hid (nameFar t.ns = true) := any_at hlt (by simpa using hl)
            go_wp2_with fail
            go_ret
            exact ⟨ret_bool (by rw [HF.out, HH2.out, Bool.or_true]; rfl), HU.out⟩
          · go_wp2_with fail
            go_round
            case rel => exact ⟨k + 1, by omega, by go_num, fun j hj => if e : j = k then by subst e; simpa using hl else hd.out j (by omega)⟩
            case measure => simp [intOf]; omega
        · obtain rfl : k = t.ns.length := by omega
          clear hlt hk
          have HH2 : Hid (nameFar t.ns = false) := any_none hd.out
          have hb0 := HB0.out
          have hgt : greatB t st cs = greatTail t.ps.length t.ns.length st.length cs.length := by rw [HF.out, HH.out, HH2.out]; rfl
          have HGT := Lib.hid hgt
          clear hgt
          go_wp2
          all_goals
            go_ret
            refine ⟨ret_bool ?_, HU.out⟩
            rw [HGT.out]
            unfold greatTail
            rw [Bool.eq_iff_iff]
            simp at *
            try omega
end Go.Proofs.Ytcaialhoclodjaa
namespace Go.Proofs.Ytcaialhoclodjaa
open Go.RowKit Go.Deep
def fineB (t : Tre) (st : List Int) (cs : List (List Int)) : Bool := !greatB t st cs && decide (parErr t st cs = 0)
theorem fine_sized {t : Tre} {st : List Int} {cs : List (List Int)} (h : fineB t st cs = true) : greatB t st cs = false ∧ Valid t st cs := by
  unfold fineB at h
  simp only [Bool.and_eq_true, Bool.not_eq_true', decide_eq_true_eq] at h
  exact ⟨h.1, parErr_valid h.2⟩
def BoPost (w : World) (b : Bool) (e : Ending) (w' : World) : Prop := e = .returned (.bool b) ∧ Up w w'
set_option maxRecDepth 100000 in
set_option maxHeartbeats 800000 in
theorem fine_t (S : Nat → Prop) (w : World) (v vs vc : Value) (t : Tre) (st : List Int) (cs : List (List Int)) (hT : TreeAt S w v t) (hS : IntsAt S w vs st) (hC : RowsAt S w vc cs) (hz : Big t st cs) :
    Calls Try.prog 9 #[v, vs, vc] w (BoPost w (fineB t st cs)) := by
  obtain ⟨P, N, rfl, hP, hN⟩ := hT
  have hu := Up.alloc w (.cells #[P, N] 25)
  have hT1 : TreeAt S (w.alloc (.cells #[P, N] 25)) (.agg #[P, N]) t := TreeAt.keep ⟨P, N, rfl, hP, hN⟩ (hu.kept S)
  have HT := Lib.hid hT1
  have HS := Lib.hid (IntsAt.keep hS (hu.kept S))
  have HC := Lib.hid (hC.keep (hu.kept S))
  have HU := Lib.hid hu
  have HB0 := Lib.hid (box2_0 w P N 25)
  have HB1 := Lib.hid (box2_1 w P N 25)
  have HG := Lib.hid (great_t S _ _ _ _ t st cs HT.out HS.out HC.out hz)
  clear hu hT1 hP hN hS hC hz
  go_enter Try.func9, Try.ntmps9
  go_wp2_with fail
  generalize w.alloc (.cells #[P, N] 25) = w1 at *
  refine HG.out.mono ?_
  rintro e w2 ⟨rfl, hu2⟩
  have HU2 := Lib.hid (HU.out.trans hu2)
  have hc0 := hu2.cell HB0.out
  have hc1 := hu2.cell HB1.out
  have HT2 := Lib.hid (HT.out.keep (hu2.kept S))
  have HS2 := Lib.hid (IntsAt.keep HS.out (hu2.kept S))
  have HC2 := Lib.hid (HC.out.keep (hu2.kept S))
  have hfin : fineB t st cs = (!greatB t st cs && decide (parErr t st cs = 0)) := rfl
  have HF := Lib.hid hfin
  clear HU HB0 HB1 HT HS HC hu2 hfin
  cases hg : greatB t st cs
  · have HCK := Lib.hid (checkRP_t S w2 _ _ _ t st cs HT2.out HS2.out HC2.out (great_sized hg).1)
    have HG2 := Lib.hid hg
    clear hg
    go_wp2_with fail
    refine HCK.out.mono ?_
    rintro e w3 ⟨rfl, hb3⟩
    have HU3 := Lib.hid (HU2.out.trans (show Up w2 w3 from hb3))
    clear hb3
    go_wp2_with fail
    go_ret
    refine ⟨ret_bool ?_, HU3.out⟩
    rw [HF.out, HG2.out, Bool.eq_iff_iff]; simp
  · have HG2 := Lib.hid hg
    clear hg
    go_wp2_with fail
    go_ret
    exact ⟨ret_bool (by rw [HF.out, HG2.out]; rfl), HU2.out⟩
end Go.Proofs.Ytcaialhoclodjaa
namespace Go.Proofs.Ytcaialhoclodjaa
open Go.RowKit Go.Deep
def FnD (g : Nat) (lb args : Array Value) (res : Value) (w : World) : Prop := ∀ m, Calls Try.prog g (args ++ lb) (w.drewN m) fun e w' => e = .returned res ∧ ∃ q, w' = w.drewN q
set_option maxHeartbeats 400000 in
theorem ints_ix_d (g : Nat) (lb : Array Value) (eg : ∀ args w, (callFunc g args).run Try.prog w = .ok (.enter g args) w) (S : Nat → Prop) (w : World) (v : Value) (n : Nat) (f : Nat → Value) (p : Nat → Bool)
    (h : SlAt S w v n f) (hn : n ≤ 1000000) (hp : ∀ k, k < n → FnD g lb #[f k] (.bool (p k)) w) :
    Calls Try.prog 16 #[v, .func (.func g) #[] lb] w fun e w' => e = .returned (.int .i64 (firstIx p n)) ∧ ∃ q, w' = w.drewN q := by
  obtain ⟨q, cap, rfl, hcap, H⟩ := h.open
  have HP := Lib.hid hp
  clear h hp
  go_enter Try.func16, Try.ntmps16
  go_wp2_with fail
  go_loopw [5, 8] (fun _ i wr => ∃ k : Nat, k ≤ n ∧ i = .int .i64 k ∧ Hid (∀ j, j < k → p j = false) ∧ Hid (∃ m, wr = w.drewN m)) (fun _ i _ => n - (intOf i).toNat)
  case atStart => exact ⟨0, Nat.zero_le _, rfl, fun j hj => absurd hj (Nat.not_lt_zero _), 0, rfl⟩
  case round =>
    obtain ⟨k, hk, rfl, hd, hm⟩ := hrel
    obtain ⟨m, rfl⟩ := hm.out
    clear hm
    by_cases hlt : k < n
    · obtain ⟨b, off, rfl, hc⟩ := H k hlt
      have hc := (Up.drewN w m).cell hc
      clear H
      have hpk := HP.out k hlt
      unfold FnD at hpk
      have HPK := Lib.hid (hpk m)
      clear hpk HP
      generalize hv : p k = pk at *
      have HV := Lib.hid hv
      clear hv
      cases pk
      · go_wp2_with fail
        refine HPK.out.mono ?_
        rintro e w' ⟨rfl, m2, rfl⟩
        go_wp2_with fail
        go_roundw
        case rel => exact ⟨k + 1, by omega, by go_num, fun j hj => if e : j = k then by subst e; exact HV.out else hd.out j (by omega), m2, rfl⟩
        case measure => simp [intOf]; omega
      · go_wp2_with fail
        refine HPK.out.mono ?_
        rintro e w' ⟨rfl, m2, rfl⟩
        go_wp2_with fail
        go_ret
        exact ⟨ret_int (firstIx_at hlt hd.out HV.out).symm, m2, rfl⟩
    · clear H
      go_wp2_with fail
      go_ret
      exact ⟨ret_int (firstIx_none fun j hj => hd.out j (by omega)).symm, m, rfl⟩
set_option maxHeartbeats 400000 in
theorem out11_t (w : World) (bx : Nat) (np : Option Addr) (n nc : Nat) (k : Int) (hc : w.cell? ⟨bx, 1, none⟩ = some (.slice np n nc)) :
    FnIs 14 #[.pointer (some ⟨bx, 0, none⟩)] #[.int .i64 k] (.bool (decide (k < 0) || decide ((n : Int) ≤ k))) w := by
  unfold FnIs
  show Calls Try.prog 14 #[.int .i64 k, .pointer (some ⟨bx, 0, none⟩)] w _
  go_enter Try.func14, Try.ntmps14
  cases h1 : decide (k < 0)
  · cases h2 : decide ((n : Int) ≤ k)
    · go_wp2_with fail
      go_ret
      exact ⟨rfl, rfl⟩
    · go_wp2_with fail
      go_ret
      exact ⟨rfl, rfl⟩
  · go_wp2_with fail
    go_ret
    exact ⟨by simp, rfl⟩
set_option maxHeartbeats 400000 in
theorem out1_t (w : World) (P N : Value) : Calls Try.prog 13 #[.agg #[P, N]] w fun e w' => e = .returned (.func (.func 14) #[] #[.pointer (some ⟨w.heap.size, 0, none⟩)]) ∧ w' = w.alloc (.cells #[P, N] 25) := by
  go_enter Try.func13, Try.ntmps13
  go_wp2_with fail
  go_ret
  exact ⟨rfl, rfl⟩
set_option maxHeartbeats 1000000 in
/-- The names of two leaves are compared. -/
theorem mv2_t (w : World) (S T : Nat → Prop) (bt bu bk : Nat) (np mp : Option Addr) (nc mc : Nat) (t u : Tre) (i j : Nat) (h1 : w.cell? ⟨bt, 1, none⟩ = some (.slice np t.ns.length nc)) (h2 : w.cell? ⟨bu, 1, none⟩ = some (.slice mp u.ns.length mc)) (h3 : w.cell? ⟨bk, 0, none⟩ = some (.int .i64 (i : Int)))
    (hN : StrsAt S w (.slice np t.ns.length nc) t.ns) (hM : StrsAt T w (.slice mp u.ns.length mc) u.ns) (hj : j < t.ns.length) (hi : i < u.ns.length) :
    FnD 17 #[.pointer (some ⟨bt, 0, none⟩), .pointer (some ⟨bu, 0, none⟩), .pointer (some ⟨bk, 0, none⟩)] #[.int .i64 (j : Int)] (.bool (decide (gs t.ns j = gs u.ns i))) w := by
  intro m
  show Calls Try.prog 17 #[.int .i64 (j : Int), .pointer (some ⟨bt, 0, none⟩), .pointer (some ⟨bu, 0, none⟩), .pointer (some ⟨bk, 0, none⟩)] (w.drewN m) _
  have hd := Up.drewN w m
  obtain ⟨nb, no, rfl, c4⟩ := strs_get hN hj
  obtain ⟨mb, mo, rfl, c5⟩ := strs_get hM hi
  have c1 := hd.cell h1
  have c2 := hd.cell h2
  have c3 := hd.cell h3
  have c4 := hd.cell c4
  have c5 := hd.cell c5
  have k1 : (0 : Int) ≤ (j : Int) := Int.natCast_nonneg _
  have k2 : (j : Int) < (t.ns.length : Int) := Int.ofNat_lt.2 hj
  have k3 : (0 : Int) ≤ (i : Int) := Int.natCast_nonneg _
  have k4 : (i : Int) < (u.ns.length : Int) := Int.ofNat_lt.2 hi
  have hb : ((gs t.ns j).toList == (gs u.ns i).toList) = decide (gs t.ns j = gs u.ns i) := by
    by_cases e : gs t.ns j = gs u.ns i
    · rw [e, decide_eq_true rfl]; simp
    · rw [decide_eq_false e]
      refine beq_eq_false_iff_ne.2 fun h => e ?_
      rw [toList_data, toList_data] at h
      exact ba_ext h
  have HB := Lib.hid hb
  obtain ⟨W, hW⟩ : ∃ W, W = w.drewN m := ⟨_, rfl⟩
  have HW := Lib.hid hW
  rw [← hW] at c1 c2 c3 c4 c5 ⊢
  clear hd h1 h2 h3 hN hM hj hi hb hW
  generalize gs t.ns j = a at *
  generalize gs u.ns i = b at *
  cases hab : (a.toList == b.toList)
  · go_enter Try.func17, Try.ntmps17
    go_wp2_with fail
    go_big_quiet (fail)
    go_wp2_with fail
    go_ret
    exact ⟨by rw [← HB.out, hab]; rfl, m + nq, by rw [HW.out, World.drewN_drewN]⟩
  · go_enter Try.func17, Try.ntmps17
    go_wp2_with fail
    go_big_quiet (fail)
    go_wp2_with fail
    go_ret
    exact ⟨by rw [← HB.out, hab]; rfl, m + nq, by rw [HW.out, World.drewN_drewN]⟩
end Go.Proofs.Ytcaialhoclodjaa
namespace Go.Proofs.Ytcaialhoclodjaa
open Go.RowKit Go.Deep
theorem off_box {S : Nat → Prop} {W : World} {b : Nat} {T : TypeId} {v : Value} {n : Nat} {f : Nat → Value} (hb : W.heap[b]? = some (Obj.cells #[.slice none 0 0, .slice none 0 0] T (0, 0))) (h : SlAt S W v n f) (hf : ∀ k, f k ≠ .slice none 0 0) : SlAt (fun g => g ≠ b) W v n f := by
  obtain ⟨p, cap, rfl, hn, h⟩ := h
  refine ⟨p, cap, rfl, hn, ?_⟩
  by_cases h0 : n = 0
  · exact .inl h0
  · rcases h with h | ⟨g, off, rfl, _, hc⟩
    · exact absurd h h0
    · refine .inr ⟨g, off, rfl, ?_, hc⟩
      intro e
      have e : g = b := e
      subst e
      have h1 := hc 0 (by omega)
      rw [Nat.add_zero] at h1
      have h2 : W.cell? ⟨g, off, none⟩ = (#[Value.slice none 0 0, .slice none 0 0] : Array Value)[off]? := by simp [World.cell?, hb]
      rw [h2] at h1
      match off, h1 with
      | 0, h1 => exact hf 0 (Option.some.inj h1).symm
      | 1, h1 => exact hf 0 (Option.some.inj h1).symm
      | off + 2, h1 => simp at h1
theorem rr_fin {W0 y : World} {T : TypeId} {b : Nat} {P N : Value} {x : Tre} (hu : Up W0 y) (hb : y.heap[b]? = some (Obj.cells #[.slice none 0 0, .slice none 0 0] T (0, 0))) (ho : W0.heap.size ≤ b) (hP : IntsAt Any y P x.ps) (hN : StrsAt Any y N x.ns) :
    Up W0 ((y.setCell ⟨b, 0, none⟩ P).setCell ⟨b, 1, none⟩ N) ∧ ((y.setCell ⟨b, 0, none⟩ P).setCell ⟨b, 1, none⟩ N).heap[b]? = some (Obj.cells #[P, N] T (0, 0)) ∧ IntsAt Any ((y.setCell ⟨b, 0, none⟩ P).setCell ⟨b, 1, none⟩ N) P x.ps ∧ StrsAt Any ((y.setCell ⟨b, 0, none⟩ P).setCell ⟨b, 1, none⟩ N) N x.ns := by
  obtain ⟨u1, u2, u3, u4⟩ := store_two (w := W0) (p := P) (q := N) hb ho hu
  refine ⟨u1, by simp [World.setCell, Array.getElem?_modify, hb], ?_, ?_⟩
  · exact (SlAt.keep (off_box hb hP (fun k e => by cases e)) fun g hg _ => u4 g hg).sub fun _ _ _ => trivial
  · exact (SlAt.keep (off_box hb hN (fun k e => by cases e)) fun g hg _ => u4 g hg).sub fun _ _ _ => trivial
end Go.Proofs.Ytcaialhoclodjaa
