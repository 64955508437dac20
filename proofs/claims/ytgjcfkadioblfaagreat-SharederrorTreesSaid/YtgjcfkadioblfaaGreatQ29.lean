/- The contract of layer 35's reference's Consistent. -/
import Derived.Test.YtgjcfkadioblfaaGreatQ27
import Derived.Test.YtgjcfkadioblfaaGreatQ26
import Derived.Test.YtgjcfkadioblfaaGreatQ28
namespace Go.Proofs.YtgjcfkadioblfaaGreat
open Go.RowKit Go.Deep
/-- The reference's loops of Consistent. -/
def isK (own : List ByteArray) (s : ByteArray) : Nat → Bool
  | 0 => false
  | y + 1 => isK own s y || decide (gs own y = s)
def smK (names own : List ByteArray) (src : List Int) : Nat → Bool
  | 0 => true
  | j + 1 => smK names own src j && isK own (gs names (gi src j).toNat) own.length
def fdK (t : Tre) (names : List ByteArray) (src : List Int) : Nat → Bool
  | 0 => false
  | n + 1 => fdK t names src n || (decide ((bwL t n).length = src.length) && smK names (bwL t n) src src.length)
theorem isK_iff {own : List ByteArray} {s : ByteArray} : ∀ y, isK own s y = true ↔ ∃ j, j < y ∧ gs own j = s
  | 0 => by simp [isK]
  | y + 1 => by
    rw [isK, Bool.or_eq_true, decide_eq_true_eq, isK_iff y]
    constructor
    · rintro (⟨j, h, e⟩ | e)
      · exact ⟨j, by omega, e⟩
      · exact ⟨y, by omega, e⟩
    · rintro ⟨j, h, e⟩
      by_cases c : j = y
      · subst c; exact .inr e
      · exact .inl ⟨j, by omega, e⟩
theorem isK_mem {own : List ByteArray} {s : ByteArray} : isK own s own.length = true ↔ s ∈ own := by
  rw [isK_iff]
  constructor
  · rintro ⟨j, h, e⟩; rw [← e]; simp [gs, h]
  · intro h; obtain ⟨j, hj, e⟩ := List.getElem_of_mem h; exact ⟨j, hj, by simp [gs, hj, e]⟩
theorem smK_iff {names own : List ByteArray} {src : List Int} : ∀ q, smK names own src q = true ↔ ∀ j, j < q → gs names (gi src j).toNat ∈ own
  | 0 => by simp [smK]
  | q + 1 => by
    rw [smK, Bool.and_eq_true, smK_iff q, isK_mem]
    constructor
    · rintro ⟨h1, h2⟩ j hj
      by_cases c : j = q
      · subst c; exact h2
      · exact h1 j (by omega)
    · intro h; exact ⟨fun j hj => h j (by omega), h q (by omega)⟩
theorem fdK_iff {t : Tre} {names : List ByteArray} {src : List Int} : ∀ m, fdK t names src m = true ↔ ∃ n, n < m ∧ (bwL t n).length = src.length ∧ ∀ x ∈ src, gs names x.toNat ∈ bwL t n
  | 0 => by simp [fdK]
  | m + 1 => by
    rw [fdK, Bool.or_eq_true, Bool.and_eq_true, decide_eq_true_eq, fdK_iff m, smK_iff]
    have h0 : ∀ n, (∀ j, j < src.length → gs names (gi src j).toNat ∈ bwL t n) ↔ ∀ x ∈ src, gs names x.toNat ∈ bwL t n := fun n =>
      ⟨fun h x hx => by
        obtain ⟨j, hj, e⟩ := List.getElem_of_mem hx
        have := h j hj
        rw [show gi src j = x by simp [gi, hj, e]] at this
        exact this, fun h j hj => h _ (gi_mem hj)⟩
    rw [h0]
    constructor
    · rintro (⟨n, h, h1, h2⟩ | ⟨h1, h2⟩)
      · exact ⟨n, by omega, h1, h2⟩
      · exact ⟨m, by omega, h1, h2⟩
    · rintro ⟨n, h, h1, h2⟩
      by_cases c : n = m
      · subst c; exact .inr ⟨h1, h2⟩
      · exact .inl ⟨n, by omega, h1, h2⟩
theorem far_all {l : List Grp} {n k : Nat} (hf : farB l n = false) (hk : k < l.length) : ∀ x ∈ (gg l k).src, x < n := by
  intro x hx
  have h7 := any_false hf hk
  have h8 := mxL_ge hx
  have h9 : ¬ ((n : Int) ≤ mxL (gg l k).src) := by simpa using h7
  omega
theorem cs_nodup {t : Tre} {names : List ByteArray} (hb : ∀ j, j < names.length → csBad t names j = false) : names.Nodup := by
  rw [List.Nodup, List.pairwise_iff_getElem]
  intro a b ha hb' hab e3
  have h0 := hb a ha
  unfold csBad at h0
  simp only [Bool.or_eq_false_iff, decide_eq_false_iff_not] at h0
  have hmp : (mpL names).length = names.length := Classical.not_not.1 h0.2
  exact mpK_nodup.1 hmp a b hab hb' (by simp [gs, ha, hb', e3])
theorem fd_own {t : Tre} {names : List ByteArray} {l : List Grp} {k : Nat} (h : treeErr t = 0) (hlen : (leavesL t.ns).length = names.length) (hb : ∀ j, j < names.length → csBad t names j = false)
    (hs : srcOk (gg l k).src = true) (hf : farB l names.length = false) (hk : k < l.length) : fdK t names (gg l k).src t.ps.length = decide (ofS (gg l k).src ∈ ownF t names) := by
  rw [Bool.eq_iff_iff, fdK_iff, decide_eq_true_eq]
  exact found_iff h hlen hb (cs_nodup hb) hs (far_all hf hk)
set_option maxRecDepth 100000 in
set_option maxHeartbeats 20000000 in
theorem consistR_t (S : Nat → Prop) (w : World) (v vn vl : Value) (t : Tre) (names : List ByteArray) (l : List Grp) (hT : TreeAt S w v t) (hN : StrsAt S w vn names) (hG : GrpsAt S w vl l)
    (hp : t.ps.length ≤ 1000000) (hnl : t.ns.length ≤ 1000000) (hz : ∀ k, (gs t.ns k).size ≤ 70000) (hnn : names.length ≤ 1000000) (hn : l.length ≤ 1000000) (hr : ∀ k, (gg l k).src.length ≤ 1000000) :
    Calls Tryz.prog 17 #[v, vn, vl] w (ConPost w t names l) := by
  obtain ⟨P, N, rfl, hP, hN0⟩ := hT
  obtain ⟨qp, qc, rfl, _, _⟩ := SlAt.open hP
  obtain ⟨qn, qm, rfl, _, _⟩ := SlAt.open hN0
  have hP : IntsAt S w (.slice qp t.ps.length qc) t.ps := hP
  have hN0 : StrsAt S w (.slice qn t.ns.length qm) t.ns := hN0
  have hu := Up.alloc w (.cells #[.slice qp t.ps.length qc, .slice qn t.ns.length qm] 25)
  have hT1 : TreeAt S (w.alloc (.cells #[.slice qp t.ps.length qc, .slice qn t.ns.length qm] 25)) (.agg #[.slice qp t.ps.length qc, .slice qn t.ns.length qm]) t := TreeAt.keep ⟨_, _, rfl, hP, hN0⟩ (hu.kept S)
  have HCK := Lib.hid (checkR_t S _ _ t hT1 hp hnl hz)
  have HT := Lib.hid hT1
  have HU := Lib.hid hu
  have HN := Lib.hid (StrsAt.keep hN (hu.kept S))
  have HG := Lib.hid (hG.keep (hu.kept S))
  obtain ⟨np, nc, rfl, _, _⟩ := SlAt.open hN
  obtain ⟨lp, lc, rfl, _⟩ := grps_open hG
  have HB0 := Lib.hid (box2_0 w (.slice qp t.ps.length qc) (.slice qn t.ns.length qm) 25)
  have HB1 := Lib.hid (box2_1 w (.slice qp t.ps.length qc) (.slice qn t.ns.length qm) 25)
  have hc0 := HB0.out
  have hc1 := HB1.out
  have HR := Lib.hid hr
  have HZ := Lib.hid hz
  clear hu hT1 hP hN0 hN hG hr hz
  go_enter Tryz.func17, Tryz.ntmps17
  go_wp2_with fail
  generalize w.alloc (.cells #[.slice qp t.ps.length qc, .slice qn t.ns.length qm] 25) = w1 at *
  refine HCK.out.mono ?_
  rintro e w2 ⟨rfl, hb2⟩
  have hu2 : Up w1 w2 := hb2
  have hc0 := hu2.cell HB0.out
  have hc1 := hu2.cell HB1.out
  have HB0' := Lib.hid hc0
  have HB1' := Lib.hid hc1
  have HT2 := Lib.hid (HT.out.keep (hu2.kept S))
  have HN2 := Lib.hid (StrsAt.keep HN.out (hu2.kept S))
  have HG2 := Lib.hid (HG.out.keep (hu2.kept S))
  have HU2 := Lib.hid (HU.out.trans hu2)
  clear hb2 hu2 HCK HT HN HG HU HB0 HB1
  by_cases he : treeErr t = 0
  · obtain ⟨hp0, hp64, hl, hok, _⟩ := treeErr_zero he
    have HE := Lib.hid he
    rw [he]
    have HBL := Lib.hid (belowR_t S w2 _ t 0 HT2.out hok hl (Nat.zero_le _) hp HZ.out)
    have HLV : Hid ((bwL t 0).length = (leavesL t.ns).length) := by rw [Hid, bwL_zero he, lvs_count]
    clear he hok hl
    go_wp2_with fail
    refine HBL.out.mono ?_
    rintro e w3 ⟨hu3, vb, rfl, hb3⟩
    obtain ⟨bp, bc, rfl, _⟩ := hb3.form (n := (bwL t 0).length) (List.length_map _)
    have HB3 := Lib.hid hb3
    have hc0 := hu3.cell HB0'.out
    have hc1 := hu3.cell HB1'.out
    have HU3 := Lib.hid (HU2.out.trans hu3)
    have HT3 := Lib.hid (HT2.out.keep (hu3.kept S))
    have HN3 := Lib.hid (StrsAt.keep HN2.out (hu3.kept S))
    have HG3 := Lib.hid (HG2.out.keep (hu3.kept S))
    clear hb3 hu3 HBL HB0' HB1'
    by_cases h1 : (bwL t 0).length = names.length
    · have HL1 := Lib.hid h1
      have d1 : (((bwL t 0).length : Int) != (names.length : Int)) = false := by simp [h1]
      have HSB := Lib.hid HB3.out.strs
      have HEK : Hid (∀ s k, eqK names s (k + 1) = eqK names s k + if gs names k = s then 1 else 0) := fun _ _ => rfl
      have HEL := Lib.hid (eqK_le names)
      have hbl : (bwL t 0).length ≤ 1000000 := by omega
      have H9 : Hid (∀ j, j < (bwL t 0).length → eqK names (gs (bwL t 0) j) names.length ≠ 1 → conErr t names l = 9) := fun j hj hne => by
        have hlv : (leavesL t.ns).length = names.length := by rw [← HLV.out]; exact h1
        have hnot : ¬ ∀ j, j < names.length → csBad t names j = false := fun q => by
          have := (rn_iff HE.out hlv).2 q (gs (bwL t 0) j) (by rw [← bwL_zero HE.out]; simp [gs, hj])
          exact hne this
        unfold conErr
        rw [if_neg (by simp [HE.out]), if_neg (by simp [hlv]), if_pos]
        rw [List.any_eq_true]
        apply Classical.byContradiction
        intro hex
        apply hnot
        intro i hi
        cases hc : csBad t names i with
        | false => rfl
        | true => exact absurd ⟨i, List.mem_range.2 (by omega), hc⟩ hex
      clear h1
      generalize hB : bwL t 0 = B at *
      go_wp2_with fail
      go_loopw [9, 10, 11] (fun i _ _ wr => ∃ k : Nat, k ≤ B.length ∧ i = .int .i64 k ∧ Hid (QD w3 wr) ∧ Hid (∀ j, j < k → eqK names (gs B j) names.length = 1)) (fun i _ _ _ => B.length - (intOf i).toNat)
      case atStart => exact ⟨0, Nat.zero_le _, rfl, QD.refl _, fun j hj => absurd hj (Nat.not_lt_zero _)⟩
      case round =>
        obtain ⟨k, hk, rfl, hQ, hd⟩ := hrel
        obtain ⟨wo, rfl⟩ : ∃ wo : World, wo = wr := ⟨_, rfl⟩
        by_cases hlt : k < B.length
        · have i1 : (0 : Int) ≤ (k : Int) := by omega
          have i2 : (k : Int) < (B.length : Int) := by omega
          have HK9 := Lib.hid (H9.out k hlt)
          have HLT := Lib.hid hlt
          go_wp2_with fail
          go_loopw [10, 11] (fun n q wr => ∃ m : Nat, m ≤ names.length ∧ q = .int .i64 m ∧ n = .int .i64 (eqK names (gs B k) m : Nat) ∧ Hid (QD w3 wr)) (fun _ q _ => names.length - (intOf q).toNat)
          case atStart => exact ⟨0, Nat.zero_le _, rfl, rfl, hQ⟩
          case round =>
            obtain ⟨m, hm, rfl, rfl, hQ2⟩ := hrel
            obtain ⟨wi, rfl⟩ : ∃ wo : World, wo = wr := ⟨_, rfl⟩
            by_cases hmt : m < names.length
            · obtain ⟨b1, o1, rfl, hk1⟩ := strs_get (StrsAt.keep HN3.out (hQ2.out.kept S)) hmt
              obtain ⟨b2, o2, rfl, hk2⟩ := strs_get (StrsAt.keep HSB.out (hQ2.out.kept _)) HLT.out
              have j1 : (0 : Int) ≤ (m : Int) := by omega
              have j2 : (m : Int) < (names.length : Int) := by omega
              have HM := Lib.hid (HEK.out (gs B k) m)
              have hel := HEL.out (gs B k) m
              generalize eqK names (gs B k) m = c at *
              by_cases e : gs names m = gs B k
              · have d4 : ((gs names m).toList == (gs B k).toList) = true := by rw [e]; simp
                have HM2 : Hid (eqK names (gs B k) (m + 1) = c + 1) := by rw [Hid, HM.out, if_pos e]
                clear e
                generalize gs names m = x at *
                generalize gs B k = y at *
                go_wp2_with fail
                go_big_quiet (fail)
                go_wp2_with fail
                go_roundw
                case rel => exact ⟨m + 1, by omega, by go_num, by rw [HM2.out]; go_num, hQ2.out.drewN nq⟩
                case measure => simp [intOf]; omega
              · have d4 : ((gs names m).toList == (gs B k).toList) = false := by
                  rw [beq_eq_false_iff_ne]; intro q; exact e (ba_ext (by rw [← Lib.toList_data, ← Lib.toList_data, q]))
                have HM2 : Hid (eqK names (gs B k) (m + 1) = c) := by rw [Hid, HM.out, if_neg e]; rfl
                clear e
                generalize gs names m = x at *
                generalize gs B k = y at *
                go_wp2_with fail
                go_big_quiet (fail)
                go_wp2_with fail
                go_roundw
                case rel => exact ⟨m + 1, by omega, by go_num, by rw [HM2.out], hQ2.out.drewN nq⟩
                case measure => simp [intOf]; omega
            · obtain rfl : m = names.length := by omega
              have HDK : Hid (eqK names (gs B k) names.length = 1 → ∀ j, j < k + 1 → eqK names (gs B j) names.length = 1) := fun hx j hj => if e : j = k then by subst e; exact hx else hd.out j (by omega)
              have hel := HEL.out (gs B k) names.length
              generalize eqK names (gs B k) names.length = c at *
              by_cases e : c = 1
              · have d4 : ((c : Int) != 1) = false := by simp [e]
                have HD2 := Lib.hid (HDK.out e)
                clear e hmt hm
                go_wp2_with fail
                go_roundw
                case rel => exact ⟨k + 1, by omega, by go_num, hQ2, HD2⟩
                case measure => simp [intOf]; omega
              · have d4 : ((c : Int) != 1) = true := by simp; omega
                have HCE := Lib.hid (HK9.out e)
                clear e hmt hm
                go_wp2_with fail
                go_ret2
                exact con_err HCE.out (by decide) (HU3.out.trans hQ2.out.up)
        · obtain rfl : k = B.length := by omega
          have HALL : Hid (∀ j, j < names.length → csBad t names j = false) := (rn_iff HE.out (by rw [← HLV.out, HL1.out])).1 fun s hs => by
            rw [← bwL_zero HE.out, hB] at hs
            obtain ⟨j, hj, e⟩ := List.getElem_of_mem hs
            have := hd.out j hj
            rw [show gs B j = s by simp [gs, hj, e]] at this
            exact this
          have HCT := Lib.hid (con_tail (l := l) HE.out (by rw [← HLV.out, HL1.out]) HALL.out)
          have HG4 := Lib.hid (HG3.out.keep (hQ.out.kept S))
          have HN4 := Lib.hid (StrsAt.keep HN3.out (hQ.out.kept S))
          have hc0 := hQ.out.up.cell hc0
          have hc1 := hQ.out.up.cell hc1
          have HU4 := Lib.hid (HU3.out.trans hQ.out.up)
          have HT4 := Lib.hid (HT3.out.keep (hQ.out.kept S))
          have HGC := Lib.hid (gcheckR_t S wo _ l HG4.out hn HR.out)
          clear hd hQ hlt hk HEK HEL H9
          go_wp2_with fail
          refine HGC.out.mono ?_
          rintro e w5 ⟨rfl, hq5⟩
          have HQ5 := Lib.hid hq5
          have HG5 := Lib.hid (HG4.out.keep (hq5.kept S))
          have HN5 := Lib.hid (StrsAt.keep HN4.out (hq5.kept S))
          have hc0 := hq5.up.cell hc0
          have hc1 := hq5.up.cell hc1
          have HU5 := Lib.hid (HU4.out.trans hq5.up)
          have HT5 := Lib.hid (HT4.out.keep (hq5.kept S))
          clear hq5 HGC HQ5
          by_cases g0 : gcErr l = 0
          · rw [g0]
            have HGO := Lib.hid (gcErr_zero g0).2
            have HFB : Hid (byB names.length l = farB l names.length) := by rw [Hid, far_last g0]; rfl
            have HBY := Lib.hid (beyond_t S S w5 _ _ names l HN5.out HG5.out hn (fun k hk => (srcOk_small (HGO.out k hk).2.2.2).2.1) HR.out)
            have HCT2 : Hid (conErr t names l = if farB l names.length then 2 else 0) := by rw [Hid, HCT.out, if_neg (by simp [g0])]
            clear g0
            go_wp2_with fail
            refine HBY.out.mono ?_
            rintro e w6 ⟨rfl, hq6⟩
            have HU6 := Lib.hid (HU5.out.trans hq6.up)
            have HT6 := Lib.hid (HT5.out.keep (hq6.kept S))
            have HG6 := Lib.hid (HG5.out.keep (hq6.kept S))
            have HN6 := Lib.hid (StrsAt.keep HN5.out (hq6.kept S))
            have hc0 := hq6.up.cell hc0
            have hc1 := hq6.up.cell hc1
            clear hq6 HBY
            rw [HFB.out]
            cases hf : farB l names.length with
            | true =>
              have HCE : Hid (conErr t names l = 2) := by rw [Hid, HCT2.out, hf]; rfl
              go_wp2_with fail
              go_ret2
              exact con_err HCE.out (by decide) HU6.out
            | false =>
              have HCE : Hid (conErr t names l = 0) := by rw [Hid, HCT2.out, hf]; rfl
              have HCL : Hid (conL t names l = conK t names l l.length) := by unfold Hid conL; rw [if_neg (by simp [HCE.out])]
              have HC0 := Lib.hid hc0
              have HC1 := Lib.hid hc1
              clear hc0 hc1
              go_wp2_with fail
              go_loopw [13, 14, 15, 16, 17, 18, 19, 20, 21] (fun d i _ _ _ _ _ _ _ wr => ∃ k : Nat, k ≤ l.length ∧ i = .int .i64 k ∧ Hid (Owns w6.heap.size 3 wr d ((conK t names l k).map (Value.int .i64))) ∧ Hid (Up w6 wr)) (fun _ i _ _ _ _ _ _ _ _ => l.length - (intOf i).toNat)
              case atStart => exact ⟨0, Nat.zero_le _, rfl, Owns.nil _ _ _, Up.refl _⟩
              case round =>
                obtain ⟨k, hk, rfl, hD, hUr⟩ := hrel
                obtain ⟨wo, rfl⟩ : ∃ wo : World, wo = wr := ⟨_, rfl⟩
                by_cases hlt : k < l.length
                · have HLT := Lib.hid hlt
                  obtain ⟨d, rfl⟩ : ∃ d : Value, d = u13 := ⟨_, rfl⟩
                  obtain ⟨_, _, hln, hok, _⟩ := treeErr_zero HE.out
                  have HOK := Lib.hid hok
                  have HLN := Lib.hid hln
                  have HSO := Lib.hid (HGO.out k hlt).2.2.2
                  have HSL := Lib.hid (HR.out k)
                  have HFD := Lib.hid (fd_own (l := l) HE.out (by rw [← HLV.out, HL1.out]) HALL.out HSO.out hf hlt)
                  have HNAT : Hid (∀ j, j < (gg l k).src.length → ∃ x : Nat, gi (gg l k).src j = x ∧ x < names.length) := fun j hj => by
                    obtain ⟨x, hx, _⟩ := small_mem (srcOk_small HSO.out).1 (gi_mem hj)
                    have := far_all hf hlt _ (gi_mem hj)
                    exact ⟨x, hx, by omega⟩
                  have HCK : Hid (conK t names l (k + 1) = conK t names l k ++ if ofS (gg l k).src ∈ ownF t names then [] else [(k : Int)]) := rfl
                  have HCKL := Lib.hid (conK_len t names l k)
                  have HFS : Hid (∀ m, fdK t names (gg l k).src (m + 1) = (fdK t names (gg l k).src m || (decide ((bwL t m).length = (gg l k).src.length) && smK names (bwL t m) (gg l k).src (gg l k).src.length))) := fun _ => rfl
                  have HSS : Hid (∀ own j, smK names own (gg l k).src (j + 1) = (smK names own (gg l k).src j && isK own (gs names (gi (gg l k).src j).toNat) own.length)) := fun _ _ => rfl
                  obtain ⟨gb, go, rq, rc, rfl, hg0, hg1, hg2, hri⟩ := grps_get HG6.out hlt
                  have HRI := Lib.hid hri
                  have HG2C := Lib.hid hg2
                  have kk1 : (0 : Int) ≤ (k : Int) := by omega
                  have kk2 : (k : Int) < (l.length : Int) := by omega
                  have hsl := HSL.out
                  clear hri hg0 hg1 hg2 hln hok
                  generalize (gg l k).src = src at *
                  go_wp2_with fail
                  go_loopw [15, 16, 17, 18, 19, 20, 21] (fun f n _ _ _ _ _ wr => ∃ m : Nat, m ≤ t.ps.length ∧ n = .int .i64 m ∧ f = .bool (fdK t names src m) ∧ Hid (Owns w6.heap.size 3 wr d ((conK t names l k).map (Value.int .i64))) ∧ Hid (Up w6 wr)) (fun _ n _ _ _ _ _ _ => t.ps.length - (intOf n).toNat)
                  case atStart => exact ⟨0, Nat.zero_le _, rfl, rfl, hD, hUr⟩
                  case round =>
                    obtain ⟨m, hm, rfl, rfl, hD2, hU2⟩ := hrel
                    obtain ⟨wi, rfl⟩ : ∃ wo : World, wo = wr := ⟨_, rfl⟩
                    have hc0 := hU2.out.cell HC0.out
                    have hc1 := hU2.out.cell HC1.out
                    by_cases hmt : m < t.ps.length
                    · have HBN := Lib.hid (belowR_t S wi _ t m (HT6.out.keep (hU2.out.kept S)) HOK.out HLN.out (by omega) hp HZ.out)
                      have i1 : (0 : Int) ≤ (m : Int) := by omega
                      have i2 : (m : Int) < (t.ps.length : Int) := by omega
                      have HFM := Lib.hid (HFS.out m)
                      have HMT := Lib.hid hmt
                      go_wp2_with fail
                      refine HBN.out.mono ?_
                      rintro e w7 ⟨hu7, vo, rfl, hb7⟩
                      obtain ⟨op, oc, rfl, _⟩ := hb7.form (n := (bwL t m).length) (List.length_map _)
                      have hol : (bwL t m).length ≤ 1000000 := Nat.le_trans (bwK_len t m _) (by omega)
                      have HU7 := Lib.hid (hU2.out.trans hu7)
                      have HB7 := Lib.hid hb7.strs
                      have HD7 := Lib.hid (hD2.out.kept fun b _ hb => Below.block hu7 b hb)
                      have hg2 := HU7.out.cell HG2C.out
                      have HG7 := Lib.hid hg2
                      clear hu7 hb7 hU2 hD2 HBN hc0 hc1
                      generalize bwL t m = own at *
                      generalize fdK t names src m = fm at *
                      by_cases hle : own.length = src.length
                      · have d1 : ((own.length : Int) != (src.length : Int)) = false := by simp [hle]
                        have HF2 : Hid (fdK t names src (m + 1) = (fm || smK names own src src.length)) := by rw [Hid, HFM.out, decide_eq_true hle, Bool.true_and]
                        clear hle
                        go_wp2_with fail
                        go_loopw [18, 19, 20, 21] (fun sv q _ _ wr => ∃ j : Nat, j ≤ src.length ∧ q = .int .i64 j ∧ sv = .bool (smK names own src j) ∧ Hid (QD w7 wr)) (fun _ q _ _ _ => src.length - (intOf q).toNat)
                        case atStart => exact ⟨0, Nat.zero_le _, rfl, rfl, QD.refl _⟩
                        case round =>
                          obtain ⟨j, hj, rfl, rfl, hQ⟩ := hrel
                          obtain ⟨wj, rfl⟩ : ∃ wo : World, wo = wr := ⟨_, rfl⟩
                          have hg2 := hQ.out.up.cell HG7.out
                          by_cases hjt : j < src.length
                          · obtain ⟨x, hx, hxl⟩ := HNAT.out j hjt
                            have HXL := Lib.hid hxl
                            have HX := Lib.hid hx
                            have HJT := Lib.hid hjt
                            have HS1 := Lib.hid (HSS.out own j)
                            rw [hx, show ((x : Nat) : Int).toNat = x by omega] at HS1
                            have j1 : (0 : Int) ≤ (j : Int) := by omega
                            have j2 : (j : Int) < (src.length : Int) := by omega
                            clear hx hxl
                            go_wp2_with fail
                            go_loopw [20, 21] (fun b r wr => ∃ y : Nat, y ≤ own.length ∧ r = .int .i64 y ∧ b = .bool (isK own (gs names x) y) ∧ Hid (QD w7 wr)) (fun _ r _ => own.length - (intOf r).toNat)
                            case atStart => exact ⟨0, Nat.zero_le _, rfl, rfl, hQ⟩
                            case round =>
                              obtain ⟨y, hy, rfl, rfl, hQ2⟩ := hrel
                              obtain ⟨wk, rfl⟩ : ∃ wo : World, wo = wr := ⟨_, rfl⟩
                              by_cases hyt : y < own.length
                              · obtain ⟨b1, o1, rfl, hk1⟩ := strs_get (StrsAt.keep HN6.out ((HU7.out.trans hQ2.out.up).kept S)) HXL.out
                                obtain ⟨b2, o2, rfl, hk2⟩ := strs_get (StrsAt.keep HB7.out (hQ2.out.kept _)) hyt
                                obtain ⟨b3, o3, rfl, hk3⟩ := ints_get (IntsAt.keep HRI.out ((HU7.out.trans hQ2.out.up).kept S)) HJT.out
                                rw [HX.out] at hk3
                                have hg2 := hQ2.out.up.cell HG7.out
                                have y1 : (0 : Int) ≤ (y : Int) := by omega
                                have y2 : (y : Int) < (own.length : Int) := by omega
                                have x1 : (0 : Int) ≤ (x : Int) := by omega
                                have x2 : (x : Int) < (names.length : Int) := by have := HXL.out; omega
                                have HI1 : Hid (isK own (gs names x) (y + 1) = (isK own (gs names x) y || decide (gs own y = gs names x))) := rfl
                                by_cases e : gs own y = gs names x
                                · have d4 : ((gs own y).toList == (gs names x).toList) = true := by rw [e]; simp
                                  rw [decide_eq_true e, Bool.or_true] at HI1
                                  generalize isK own (gs names x) y = bi at *
                                  clear e
                                  generalize gs own y = ob at *
                                  cases bi <;> (
                                    go_wp2_with fail
                                    go_big_quiet (fail)
                                    go_wp2_with fail
                                    go_roundw
                                    case rel => exact ⟨y + 1, by omega, by go_num, by rw [HI1.out], hQ2.out.drewN nq⟩
                                    case measure => simp [intOf]; omega)
                                · have d4 : ((gs own y).toList == (gs names x).toList) = false := by
                                    rw [beq_eq_false_iff_ne]; intro q; exact e (ba_ext (by rw [← Lib.toList_data, ← Lib.toList_data, q]))
                                  rw [decide_eq_false e, Bool.or_false] at HI1
                                  generalize isK own (gs names x) y = bi at *
                                  clear e
                                  generalize gs own y = ob at *
                                  cases bi <;> (
                                    go_wp2_with fail
                                    go_big_quiet (fail)
                                    go_wp2_with fail
                                    go_roundw
                                    case rel => exact ⟨y + 1, by omega, by go_num, by rw [HI1.out], hQ2.out.drewN nq⟩
                                    case measure => simp [intOf]; omega)
                              · obtain rfl : y = own.length := by omega
                                clear hyt hy hQ
                                generalize isK own (gs names x) own.length = bi at *
                                generalize smK names own src j = sm at *
                                cases sm <;> cases bi <;> (
                                  go_wp2_with fail
                                  go_roundw
                                  case rel => exact ⟨j + 1, HJT.out, by go_num, by rw [HS1.out]; rfl, hQ2⟩
                                  case measure => simp [intOf]; omega)
                          · obtain rfl : j = src.length := by omega
                            clear hjt hj
                            have HU8 := Lib.hid (HU7.out.trans hQ.out.up)
                            have HD8 := Lib.hid (HD7.out.kept fun b _ hb => Below.block hQ.out.up b hb)
                            clear hQ
                            generalize smK names own src src.length = sm at *
                            cases fm <;> cases sm <;> (
                              go_wp2_with fail
                              go_roundw
                              case rel => exact ⟨m + 1, HMT.out, by go_num, by rw [HF2.out]; rfl, HD8, HU8⟩
                              case measure => have := HMT.out; simp [intOf]; omega)
                      · have d1 : ((own.length : Int) != (src.length : Int)) = true := by simpa using fun q : (own.length : Int) = (src.length : Int) => hle (by omega)
                        have HF2 : Hid (fdK t names src (m + 1) = fm) := by rw [Hid, HFM.out, decide_eq_false hle, Bool.false_and, Bool.or_false]
                        clear hle
                        go_wp2_with fail
                        go_roundw
                        case rel => exact ⟨m + 1, HMT.out, by go_num, by rw [HF2.out], HD7, HU7⟩
                        case measure => have := HMT.out; simp [intOf]; omega
                    · obtain rfl : m = t.ps.length := by omega
                      clear hmt hm
                      rw [HFD.out]
                      by_cases hin : ofS src ∈ ownF t names
                      · rw [decide_eq_true hin]
                        have HF : Hid (conK t names l (k + 1) = conK t names l k) := by unfold Hid; rw [HCK.out, if_pos hin, List.append_nil]
                        clear hin
                        go_wp2_with fail
                        go_roundw
                        case rel => exact ⟨k + 1, HLT.out, by go_num, by unfold Hid; rw [HF.out]; exact hD2.out, hU2⟩
                        case measure => have := HLT.out; simp [intOf]; omega
                      · rw [decide_eq_false hin]
                        have HF : Hid (conK t names l (k + 1) = conK t names l k ++ [(k : Int)]) := by unfold Hid; rw [HCK.out, if_neg hin]
                        have HLM : Hid (((conK t names l k).map (Value.int .i64)).length = (conK t names l k).length) := List.length_map _
                        have HL6 : Hid ((conK t names l k).length ≤ 1000000) := by have := HCKL.out; have := HLT.out; unfold Hid; omega
                        have hwz : w6.heap.size ≤ wi.heap.size := hU2.out.size
                        clear hin
                        go_wp2_with (first | (at_builtin; refine wpList_appM wi rfl _ _ 22 rfl w6.heap.size 3 (.int .i64 0) 8 Tryz.underlying22 Tryz.infoI rfl (by decide) hD2.out rfl (.int .i64 k) _ rfl rfl rfl _ HLM.out HL6.out hwz ?_; intro g8 cap8 w8 hown1 hgr1 hbe1))
                        go_roundw
                        case rel => exact ⟨k + 1, HLT.out, by go_num, by unfold Hid; rw [HF.out, List.map_append]; exact hown1, Below.trans hU2.out hbe1⟩
                        case measure => have := HLT.out; simp [intOf]; omega
                · obtain rfl : k = l.length := by omega
                  clear hlt hk
                  go_wp2_with fail
                  go_ret2
                  exact ⟨HU6.out.trans hUr.out, _, by rw [HCE.out]; rfl, by rw [HCL.out]; exact hD.out.ints.sub fun _ _ _ => trivial⟩
          · have g1 : (gcErr l != 0) = true := by simpa using g0
            have HCE : Hid (conErr t names l = gcErr l) := by rw [Hid, HCT.out, if_pos g0]
            have HG0 := Lib.hid g0
            clear g0
            generalize gcErr l = ge at *
            go_wp2_with fail
            go_ret2
            exact con_err HCE.out HG0.out HU5.out
    · have d1 : (((bwL t 0).length : Int) != (names.length : Int)) = true := by simpa using fun q : ((bwL t 0).length : Int) = (names.length : Int) => h1 (by omega)
      have hce : conErr t names l = 9 := by unfold conErr; rw [if_neg (by simp [HE.out]), if_pos (by rw [← HLV.out]; exact h1)]
      have HCE := Lib.hid hce
      clear h1 hce
      go_wp2_with fail
      go_ret2
      exact con_err HCE.out (by decide) HU3.out
  · have he1 : (treeErr t != 0) = true := by simpa using he
    have hce : conErr t names l = 1 := by unfold conErr; rw [if_pos he]
    have HCE := Lib.hid hce
    clear he hce
    generalize treeErr t = te at he1 ⊢
    go_wp2_with fail
    go_ret2
    exact con_err HCE.out (by decide) HU2.out
end Go.Proofs.YtgjcfkadioblfaaGreat
