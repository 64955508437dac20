/- The contract of layer 35's reference's Tree: the same as the program's. -/
import Derived.Test.YtgjcfkadioblfaaGreatQ36
import Derived.Test.YtgjcfkadioblfaaGreatQ20
import Derived.Test.YtgjcfkadioblfaaGreatQ14
import Derived.Test.YtgjcfkadioblfaaGreatQ28
import Derived.Test.YtgjcfkadioblfaaGreatQ34
import Derived.Test.YtgjcfkadioblfaaGreatQ5
namespace Go.Proofs.YtgjcfkadioblfaaGreat
open Go.RowKit Go.Deep
theorem st_errR {w W : World} {B : Nat} {names : List ByteArray} {l : List Grp} {c : Int} (hB : B = w.heap.size) (hu : Up w W) (hb : W.heap[B]? = some (Obj.cells #[.slice none 0 0, .slice none 0 0] 25 (0, 0))) (hc : shErr names l = c) (h0 : c ≠ 0) :
    ((W.setCell ⟨B, 0, none⟩ (.slice none 0 0)).setCell ⟨B, 1, none⟩ (.slice none 0 0)).cell? ⟨B, 0, none⟩ = some (.slice none 0 0) ∧ ((W.setCell ⟨B, 0, none⟩ (.slice none 0 0)).setCell ⟨B, 1, none⟩ (.slice none 0 0)).cell? ⟨B, 1, none⟩ = some (.slice none 0 0) ∧
      StPost w names l (.returned (.tuple #[.agg #[.slice none 0 0, .slice none 0 0], .int .i64 c])) ((W.setCell ⟨B, 0, none⟩ (.slice none 0 0)).setCell ⟨B, 1, none⟩ (.slice none 0 0)) := by
  obtain ⟨s1, s2, s3, s4⟩ := store_two (p := .slice none 0 0) (q := .slice none 0 0) hb (by omega) hu
  refine ⟨s2, s3, s1, .agg #[.slice none 0 0, .slice none 0 0], ?_, ?_⟩
  · unfold shRes; rw [if_pos (by rw [hc]; exact h0), hc]
  · unfold shTree; rw [if_pos (by rw [hc]; exact h0)]; exact nil_tree _
theorem single_at (W : World) (a : Int) (S : Nat → Prop) (hS : S W.heap.size) : IntsAt S (W.alloc (.cells #[.int .i64 a] 3)) (.slice (some ⟨W.heap.size, 0, none⟩) 1 1) [a] := by
  refine ⟨_, 1, rfl, Nat.le_refl _, .inr ⟨_, 0, rfl, hS, fun k hk => ?_⟩⟩
  match k with
  | 0 => simp [World.cell?_alloc_new, gi]
  | k + 1 => exact absurd hk (by simp)
theorem allI_succ (k : Nat) : allI (k + 1) = allI k ++ [(k : Int)] := by unfold allI; rw [List.range_succ, List.map_append]; rfl
def sgK (k : Nat) : List (List Int) := (List.range k).map fun (i : Nat) => [(i : Int)]
theorem sgK_succ (k : Nat) : sgK (k + 1) = sgK k ++ [[(k : Int)]] := by unfold sgK; rw [List.range_succ, List.map_append]; rfl
theorem sgK_len (k : Nat) : (sgK k).length = k := by simp [sgK]
/-- The first k nodes. -/
def setK (names : List ByteArray) (S : List (List Int)) (k : Nat) : Tre := ⟨(List.range k).map fun i => parI S i i, (S.take k).map (nmI names)⟩
theorem setK_succ {names : List ByteArray} {S : List (List Int)} {k : Nat} (hk : k < S.length) : setK names S (k + 1) = (setK names S k).push (parI S k k) (nmI names (gl S k)) := by
  unfold setK Tre.push
  rw [List.range_succ, List.map_append, take_gl hk, List.map_append]; rfl
theorem setK_all (names : List ByteArray) (S : List (List Int)) : setK names S S.length = setT names S := by
  unfold setK setT; rw [List.take_length]
theorem setK_len (names : List ByteArray) (S : List (List Int)) {k : Nat} (hk : k ≤ S.length) : (setK names S k).ps.length = k ∧ (setK names S k).ns.length = k := by
  unfold setK; simp; omega
theorem nm_ne {names : List ByteArray} {k j : Nat} (h : gs names j ≠ gs names k) : ((gs names j).toList == (gs names k).toList) = false := by
  rw [beq_eq_false_iff_ne]; intro q; exact h (ba_ext (by rw [← Lib.toList_data, ← Lib.toList_data, q]))
theorem nmErr_ok {names : List ByteArray} {k : Nat} (hn : namedB (gs names k).data.toList = true) (h : ∀ j, j < k → gs names j ≠ gs names k) : nmErr names k = 0 := by
  rw [nmErr_13 names k hn, if_neg]
  intro q
  obtain ⟨j, hj, e⟩ := List.any_eq_true.1 q
  exact h j (List.mem_range.1 hj) (of_decide_eq_true e).symm
theorem nmErr_7 {names : List ByteArray} {k j : Nat} (hn : namedB (gs names k).data.toList = true) (hj : j < k) (h : gs names j = gs names k) : nmErr names k = 7 := by
  rw [nmErr_13 names k hn, if_pos]
  exact List.any_eq_true.2 ⟨j, List.mem_range.2 hj, by simp [h]⟩
theorem GK.upw {tb B0 : Nat} {wj w W : World} {P N P' N' : Value} {t : Tre} (hu : Up wj w) (hg : GS tb B0 w P N t) (hk : GK tb w W P N P' N') (htb : wj.heap.size ≤ tb) : Up wj W :=
  ⟨hk.os.trans hu.os, hk.tape.trans hu.tape, hk.output.trans hu.output, Nat.le_trans hu.size hk.size, fun b hb => (hk.block b (Nat.lt_of_lt_of_le hb hu.size) (by omega) (fun e => by have := (ownBlock_lt hg.tl.pown e.symm).1; have := hg.lo.1; omega) (fun e => by have := (ownBlock_lt hg.tl.nown e.symm).1; have := hg.lo.1; omega)).trans (Below.block hu b hb)⟩
theorem nm_size {names : List ByteArray} (hz : ∀ k, (gs names k).size ≤ 70000) (S : List (List Int)) (k : Nat) : (gs (setT names S).ns k).size ≤ 70000 := by
  by_cases hk : k < S.length
  · rw [set_ns hk]; unfold nmI; split
    · exact hz _
    · exact Nat.zero_le _
  · have : gs (setT names S).ns k = ByteArray.empty := by unfold gs setT; rw [List.getD_eq_getElem?_getD, List.getElem?_eq_none (by simp; omega)]; rfl
    rw [this]; exact Nat.zero_le _
theorem res_zero {names : List ByteArray} {l : List Grp} (h : shErr names l = 0) : shRes names l = 0 := by
  by_cases h1 : names.length = 1
  · unfold shRes; rw [if_neg (by simp [h]), if_pos h1]
  · exact (shTree_two h (by have := (shErr_ok h).pos; omega)).2
theorem stI_row {n k size : Nat} {l : List Grp} (h2 : 2 ≤ n) (hk : k ≤ n - 2) (hn : n ≤ 1000000) (hr : ∀ k, (gg l k).src.length ≤ 1000000) (j m : Nat) (hm : m < (stI l (stZ n l k) size j).length) : (gl (stI l (stZ n l k) size j) m).length ≤ 1000000 := by
  rcases (mem_stI j).1 (gl_mem hm) with h | ⟨i, _, e, _⟩
  · rcases ((stZ_ord h2 k hk).2.2 _).1 h with e | ⟨i, _, e, _⟩
    · rw [e, allI_len]; exact hn
    · rw [← e]; exact hr i
  · rw [← e]; exact hr i
theorem RowsOwn.far {base : Nat} {T : TypeId} {w : World} {d : Value} {xs : List (List Int)} (h : RowsOwn base T w d xs) {b : Nat} (hb : b < base) : some b ≠ d.ownBlock := fun e => by
  have := (h.lt e.symm).1; omega
set_option maxRecDepth 100000 in
set_option maxHeartbeats 40000000 in
theorem treeR_t (S : Nat → Prop) (w : World) (v vl : Value) (names : List ByteArray) (l : List Grp) (h : StrsAt S w v names) (hL : GrpsAt S w vl l) (hz : ∀ k, (gs names k).size ≤ 70000) (hnn : names.length ≤ 1000000) (hln : l.length ≤ 1000000) (hr : ∀ k, (gg l k).src.length ≤ 1000000) :
    Calls Tryz.prog 15 #[v, vl] w (StPost w names l) := by
  obtain ⟨gp, gc, rfl, hgcap⟩ := grps_open hL
  obtain ⟨p, cap, rfl, hcap, _⟩ := SlAt.open h
  have h : StrsAt S w (.slice p names.length cap) names := h
  have hu1 : Up w (w.alloc (.cells #[.slice none 0 0, .slice none 0 0] 25)) := Up.alloc _ _
  have hrb := box_at (w := w) (P := .slice none 0 0) (N := .slice none 0 0) (T := 25)
  obtain ⟨q0, q1, q2, q3⟩ := boxed hrb
  have HSZ1 : Hid ((w.alloc (.cells #[.slice none 0 0, .slice none 0 0] 25)).heap.size = w.heap.size + 1) := World.size_alloc _ _
  have HN1 := Lib.hid (StrsAt.keep h (hu1.kept S))
  have HL1 := Lib.hid (hL.keep (hu1.kept S))
  have HU1 := Lib.hid hu1
  have HRB : Hid (∀ W, Up (w.alloc (.cells #[.slice none 0 0, .slice none 0 0] 25)) W → W.heap[w.heap.size]? = some (Obj.cells #[.slice none 0 0, .slice none 0 0] 25 (0, 0))) := fun W hW => (Below.block hW w.heap.size (by rw [HSZ1.out]; omega)).trans hrb
  have HZ := Lib.hid hz
  have HR := Lib.hid hr
  have HSE : Hid (shErr names l = if names.length = 0 then 5 else if 32 < names.length then 4 else if firstNZ (nmErr names) names.length ≠ 0 then firstNZ (nmErr names) names.length
    else if gcErr l ≠ 0 then gcErr l else if farB l names.length then 2 else if cfL l ≠ [] then 17 else 0) := rfl
  clear h hL hu1 hrb hz hr
  by_cases c0 : names.length = 0
  · have HST := Lib.hid (st_err0 (c := 5) HU1.out (HRB.out _ (Up.refl _)) (by rw [HSE.out, if_pos c0]) (by decide))
    have d0 : ((names.length : Int) == 0) = true := by simp [c0]
    clear c0
    go_enter Tryz.func15, Tryz.ntmps15
    go_wp2_with fail
    obtain ⟨s2, s3, hp⟩ := HST.out
    exact ⟨rfl, .tuple #[.agg #[.slice none 0 0, .slice none 0 0], .int .i64 5], by simp [results, Tryz.results15, go_sem], hp⟩
  have d0 : ((names.length : Int) == 0) = false := by simpa using c0
  by_cases c1 : 32 < names.length
  · have HST := Lib.hid (st_err0 (c := 4) HU1.out (HRB.out _ (Up.refl _)) (by rw [HSE.out, if_neg c0, if_pos c1]) (by decide))
    have d1 : decide ((32 : Int) < (names.length : Int)) = true := by simp; omega
    clear c0
    go_enter Tryz.func15, Tryz.ntmps15
    go_wp2_with fail
    obtain ⟨s2, s3, hp⟩ := HST.out
    exact ⟨rfl, .tuple #[.agg #[.slice none 0 0, .slice none 0 0], .int .i64 4], by simp [results, Tryz.results15, go_sem], hp⟩
  have d1 : decide ((32 : Int) < (names.length : Int)) = false := by simp; omega
  have HSE1 : Hid (shErr names l = if firstNZ (nmErr names) names.length ≠ 0 then firstNZ (nmErr names) names.length
    else if gcErr l ≠ 0 then gcErr l else if farB l names.length then 2 else if cfL l ≠ [] then 17 else 0) := by unfold Hid; rw [HSE.out, if_neg c0, if_neg c1]
  have h0p : 0 < names.length := by omega
  have hn32 : names.length ≤ 32 := by omega
  clear HSE c0 c1
  have HNE : Hid (∀ k, k < names.length → (∀ j, j < k → nmErr names j = 0) → nmErr names k ≠ 0 → shErr names l = nmErr names k) := fun k hk hj h0 => by
    have h1 := firstNZ_at hk hj h0
    rw [HSE1.out, h1, if_pos h0]
  go_enter Tryz.func15, Tryz.ntmps15
  go_wp2_with fail
  generalize w.alloc (.cells #[.slice none 0 0, .slice none 0 0] 25) = w1 at *
  clear q0 q1 q2 q3
  go_loopw [6, 7] (fun i _ wr => ∃ k : Nat, k ≤ names.length ∧ i = .int .i64 k ∧ Hid (∀ j, j < k → nmErr names j = 0) ∧ Hid (Up w1 wr)) (fun i _ _ => names.length - (intOf i).toNat)
  case atStart => exact ⟨0, Nat.zero_le _, rfl, fun j hj => absurd hj (Nat.not_lt_zero _), Up.refl _⟩
  case round =>
    obtain ⟨k, hk, rfl, hd, hU⟩ := hrel
    obtain ⟨wo, rfl⟩ : ∃ wo : World, wo = wr := ⟨_, rfl⟩
    by_cases hlt : k < names.length
    · obtain ⟨nb0, no, rfl, hc⟩ := strs_get (StrsAt.keep HN1.out (hU.out.kept S)) hlt
      have HNM := Lib.hid (named35_t wo (gs names k) (HZ.out k))
      rw [one_err] at HNM
      have HNEK := Lib.hid (HNE.out k hlt hd.out)
      have HLT := Lib.hid hlt
      have k1 : (0 : Int) ≤ (k : Int) := by omega
      have k2 : (k : Int) < (names.length : Int) := by omega
      go_wp2_with fail
      refine HNM.out.mono ?_
      rintro e w2 ⟨rfl, hu2⟩
      obtain ⟨q0, q1, q2, q3⟩ := boxed (HRB.out w2 (hU.out.trans hu2))
      have HU2 := Lib.hid (hU.out.trans hu2)
      clear hu2 hU hc
      cases hb : namedB (gs names k).data.toList with
      | false =>
        have hE : nmErr names k = 14 := by unfold nmErr; rw [if_pos hb]
        have HST := Lib.hid (st_errR (c := 14) rfl (HU1.out.trans HU2.out) (HRB.out w2 HU2.out) ((HNEK.out (by rw [hE]; decide)).trans hE) (by decide))
        clear hE
        go_wp2_with fail
        obtain ⟨s2, s3, hp⟩ := HST.out
        exact ⟨rfl, .tuple #[.agg #[.slice none 0 0, .slice none 0 0], .int .i64 14], by simp [results, Tryz.results15, go_sem, s2, s3], hp⟩
      | true =>
        have HB := Lib.hid hb
        clear hb q0 q1 q2 q3
        go_wp2_with fail
        go_loopw [7] (fun q wr => ∃ m : Nat, m ≤ k ∧ q = .int .i64 m ∧ Hid (∀ j, j < m → gs names j ≠ gs names k) ∧ Hid (Up w1 wr)) (fun q _ => k - (intOf q).toNat)
        case atStart => exact ⟨0, Nat.zero_le _, rfl, fun j hj => absurd hj (Nat.not_lt_zero _), HU2⟩
        case round =>
          obtain ⟨m, hm, rfl, hd2, hU3⟩ := hrel
          obtain ⟨wi, rfl⟩ : ∃ wo : World, wo = wr := ⟨_, rfl⟩
          by_cases hmt : m < k
          · have hc1 := strs_get' (StrsAt.keep HN1.out (hU3.out.kept S)) HLT.out
            have hc2 := strs_get' (StrsAt.keep HN1.out (hU3.out.kept S)) (show m < names.length by have := HLT.out; omega)
            have m1 : (0 : Int) ≤ (m : Int) := by omega
            have m2 : (m : Int) < (names.length : Int) := by omega
            by_cases e : gs names m = gs names k
            · have d4 : ((gs names m).toList == (gs names k).toList) = true := by rw [e]; simp
              have hE := nmErr_7 HB.out hmt e
              have HST := Lib.hid (fun nq => st_errR (c := 7) rfl (HU1.out.trans (hU3.out.trans (Up.drewN wi nq))) (HRB.out _ (hU3.out.trans (Up.drewN wi nq))) ((HNEK.out (by rw [hE]; decide)).trans hE) (by decide))
              have HBX : Hid (∀ nq, (wi.drewN nq).heap[w.heap.size]? = some (Obj.cells #[.slice none 0 0, .slice none 0 0] 25 (0, 0))) := fun nq => HRB.out _ (hU3.out.trans (Up.drewN wi nq))
              clear hE e
              generalize gs names m = x at *
              generalize gs names k = y at *
              go_wp2_with fail
              go_big_quiet (fail)
              obtain ⟨q0, q1, q2, q3⟩ := boxed (HBX.out nq)
              go_wp2_with fail
              obtain ⟨s2, s3, hp⟩ := HST.out nq
              exact ⟨rfl, .tuple #[.agg #[.slice none 0 0, .slice none 0 0], .int .i64 7], by simp [results, Tryz.results15, go_sem, s2, s3], hp⟩
            · have d4 := nm_ne e
              have HD3 : Hid (∀ j, j < m + 1 → gs names j ≠ gs names k) := fun j hj => if c : j = m then by subst c; exact e else hd2.out j (by omega)
              clear e
              generalize gs names m = x at *
              go_wp2_with fail
              go_big_quiet (fail)
              go_wp2_with fail
              go_roundw
              case rel => exact ⟨m + 1, by omega, by go_num, HD3, hU3.out.trans (Up.drewN _ _)⟩
              case measure => simp [intOf]; omega
          · obtain rfl : m = k := by omega
            have HD3 : Hid (∀ j, j < m + 1 → nmErr names j = 0) := fun j hj => if c : j = m then by subst c; exact nmErr_ok HB.out hd2.out else hd.out j (by omega)
            clear hmt hm
            go_wp2_with fail
            go_roundw
            case rel => exact ⟨m + 1, by have := HLT.out; omega, by go_num, HD3, hU3⟩
            case measure => have := HLT.out; simp [intOf]; omega
    · obtain rfl : k = names.length := by omega
      have HSE2 : Hid (shErr names l = if gcErr l ≠ 0 then gcErr l else if farB l names.length then 2 else if cfL l ≠ [] then 17 else 0) := by
        unfold Hid; rw [HSE1.out, if_neg (by rw [firstNZ_zero hd.out]; decide)]
      have HNMO : Hid (∀ j, j < names.length → nmErr names j = 0) := hd.out
      clear hlt hk hd HSE1 HNE
      have HGC := Lib.hid (gcheckR_t S wo _ l (HL1.out.keep (hU.out.kept S)) hln HR.out)
      go_wp2_with fail
      refine HGC.out.mono ?_
      rintro e w2 ⟨rfl, hq2⟩
      have HU2 := Lib.hid (hU.out.trans hq2.up)
      obtain ⟨q0, q1, q2, q3⟩ := boxed (HRB.out w2 HU2.out)
      clear hq2 hU HGC
      by_cases g0 : gcErr l = 0
      · have HSE3 : Hid (shErr names l = if farB l names.length then 2 else if cfL l ≠ [] then 17 else 0) := by
          unfold Hid; rw [HSE2.out, if_neg (fun e => e g0)]
        have HG0 := Lib.hid g0
        have HGO := Lib.hid (gcErr_zero g0).2
        have hl256 := (gcErr_zero g0).1
        have HFB : Hid (byB names.length l = farB l names.length) := by rw [Hid, far_last g0]; rfl
        have HBY := Lib.hid (beyond_t S S w2 _ _ names l (StrsAt.keep HN1.out (HU2.out.kept S)) (HL1.out.keep (HU2.out.kept S)) hln (fun k hk => (srcOk_small (HGO.out k hk).2.2.2).2.1) HR.out)
        rw [g0]
        clear HSE2 g0 q0 q1 q2 q3
        go_wp2_with fail
        refine HBY.out.mono ?_
        rintro e w3 ⟨rfl, hq3⟩
        rw [HFB.out]
        have HU3 := Lib.hid (HU2.out.trans hq3.up)
        clear hq3 HBY
        cases hf : farB l names.length with
        | true =>
          obtain ⟨q0, q1, q2, q3⟩ := boxed (HRB.out w3 HU3.out)
          have HST := Lib.hid (st_errR (c := 2) rfl (HU1.out.trans HU3.out) (HRB.out w3 HU3.out) (by rw [HSE3.out, hf]; rfl) (by decide))
          go_wp2_with fail
          obtain ⟨s2, s3, hp⟩ := HST.out
          exact ⟨rfl, .tuple #[.agg #[.slice none 0 0, .slice none 0 0], .int .i64 2], by simp [results, Tryz.results15, go_sem, s2, s3], hp⟩
        | false =>
          have HSE4 : Hid (shErr names l = if cfL l ≠ [] then 17 else 0) := by rw [Hid, HSE3.out, hf]; rfl
          have HCF := Lib.hid (conflictsR_t S w3 _ l (HL1.out.keep (HU3.out.kept S)) hln HR.out)
          clear HSE3
          go_wp2_with fail
          refine HCF.out.mono ?_
          rintro e w4 ⟨hu4, cv, rfl, hcr⟩
          obtain ⟨cq, cc, rfl, _, _⟩ := rows_open hcr
          have HU4 := Lib.hid (HU3.out.trans hu4)
          clear hcr hu4 HCF
          rw [HG0.out]
          by_cases e0 : cfL l = []
          · have HS0 : Hid (shErr names l = 0) := by unfold Hid; rw [HSE4.out, if_neg (fun e => e e0)]
            rw [e0]
            have HSH := Lib.hid (shErr_ok HS0.out)
            clear e0 HSE4
            go_wp2_with fail
            have HU5 := Lib.hid (HU1.out.trans HU4.out)
            have HN4 := Lib.hid (StrsAt.keep HN1.out (HU4.out.kept S))
            have HL4 := Lib.hid (HL1.out.keep (HU4.out.kept S))
            have HRB4 : Hid (∀ W, Up w4 W → W.heap[w.heap.size]? = some (Obj.cells #[.slice none 0 0, .slice none 0 0] 25 (0, 0))) := fun W hW => HRB.out W (HU4.out.trans hW)
            have HB4 : Hid (w.heap.size < w4.heap.size) := by have := HU4.out.size; have := HSZ1.out; unfold Hid; omega
            clear HU1 HU2 HU3 HU4 HN1 HL1 HRB HSZ1 HFB
            go_loopw [12, 13] (fun d i wr => ∃ k : Nat, k ≤ names.length ∧ i = .int .i64 k ∧ Hid (Owns w4.heap.size 3 wr d ((allI k).map (Value.int .i64))) ∧ Hid (Up w4 wr)) (fun _ i _ => names.length - (intOf i).toNat)
            case atStart => exact ⟨0, Nat.zero_le _, rfl, Owns.nil _ _ _, Up.refl _⟩
            case round =>
              obtain ⟨k, hk, rfl, hD, hU⟩ := hrel
              obtain ⟨wi, rfl⟩ : ∃ wo : World, wo = wr := ⟨_, rfl⟩
              obtain ⟨d, rfl⟩ : ∃ d : Value, d = u12 := ⟨_, rfl⟩
              by_cases hkt : k < names.length
              · have HF := Lib.hid (allI_succ k)
                have HLM : Hid (((allI k).map (Value.int .i64)).length = k) := by rw [Hid, List.length_map, allI_len]
                have hk6 : k ≤ 1000000 := by omega
                have hwz : w4.heap.size ≤ wi.heap.size := hU.out.size
                have HKT := Lib.hid hkt
                go_wp2_with (first | (at_builtin; refine wpList_appM wi rfl _ _ 22 rfl w4.heap.size 3 (.int .i64 0) 8 Tryz.underlying22 Tryz.infoI rfl (by decide) hD.out rfl (.int .i64 k) _ rfl rfl rfl _ HLM.out hk6 hwz ?_; intro g8 cap8 w8 hown1 hgr1 hbe1))
                go_roundw
                case rel => exact ⟨k + 1, HKT.out, by go_num, by unfold Hid; rw [HF.out, List.map_append]; exact hown1, Below.trans hU.out hbe1⟩
                case measure => have := HKT.out; simp [intOf]; omega
              · obtain rfl : k = names.length := by omega
                clear hkt hk
                have HAL := Lib.hid hD.out.ints
                obtain ⟨ap, ac, rfl, _⟩ := hD.out.form (n := names.length) (by rw [List.length_map, allI_len])
                have hwz5 : wi.heap.size ≤ wi.heap.size := Nat.le_refl _
                have HRN : Hid (RowsOwn wi.heap.size 22 wi (.slice none 0 0) []) := RowsOwn.nil _ _ _
                have HAL2 : Hid (IntsAt (fun b => some b ≠ (Value.slice none 0 0).ownBlock) wi (.slice ap names.length ac) (allI names.length)) := HAL.out.sub fun b _ _ e => by cases e
                go_wp2_with (first | (at_builtin; refine wpList_appRowM wi rfl _ _ 31 rfl wi.heap.size 22 _ 24 Tryz.underlying31 Tryz.infoSI3 rfl (by decide) HRN.out rfl _ (allI names.length) _ rfl rfl HAL2.out rfl _ rfl (by decide) hwz5 ?_; intro g8 cap8 w6 hown6 hgr6 hbe6))
                have HU6 : Hid (Up wi w6) := hbe6
                have HN5 := Lib.hid (StrsAt.keep HN4.out (hU.out.kept S))
                have HL5 := Lib.hid (HL4.out.keep (hU.out.kept S))
                have HRB5 : Hid (∀ W, Up wi W → W.heap[w.heap.size]? = some (Obj.cells #[.slice none 0 0, .slice none 0 0] 25 (0, 0))) := fun W hW => HRB4.out W (hU.out.trans hW)
                have HB5 : Hid (w.heap.size < wi.heap.size) := by have := hU.out.size; have := HB4.out; unfold Hid; omega
                have HUW := Lib.hid (HU5.out.trans hU.out)
                have hown6 : RowsOwn wi.heap.size 22 w6 (.slice (some ⟨g8, 0, none⟩) (0 + 1) cap8) [allI names.length] := hown6
                have HO6 := Lib.hid hown6
                clear hown6 hgr6 hbe6 HU5 HN4 HL4 HRB4 HB4 hU hD HAL HAL2 HRN hwz5 HNMO
                go_loopw [11, 14, 15, 16, 17] (fun d z _ _ _ wr => ∃ k : Nat, k ≤ names.length - 2 ∧ z = .int .i64 ((names.length : Int) - 1 - (k : Nat)) ∧ Hid (RowsOwn wi.heap.size 22 wr d (stZ names.length l k)) ∧ Hid (Up wi wr)) (fun _ z _ _ _ _ => (intOf z).toNat)
                case atStart => exact ⟨0, Nat.zero_le _, by go_num, HO6, HU6⟩
                case round =>
                  obtain ⟨k, hk, rfl, hD, hU⟩ := hrel
                  obtain ⟨wj, rfl⟩ : ∃ wo : World, wo = wr := ⟨_, rfl⟩
                  obtain ⟨d, rfl⟩ : ∃ d : Value, d = u11 := ⟨_, rfl⟩
                  by_cases hkt : k < names.length - 2
                  · have z1 : decide ((1 : Int) < (names.length : Int) - 1 - (k : Nat)) = true := decide_eq_true (by omega)
                    have HKT := Lib.hid hkt
                    have HSZK : Hid (stZ names.length l (k + 1) = stI l (stZ names.length l k) (names.length - 1 - k) l.length) := rfl
                    have HZL := Lib.hid (stZ_len names.length l k)
                    have hzl : (stZ names.length l k).length ≤ 9000 := by
                      have h1 := stZ_len names.length l k
                      have h2 : k * l.length ≤ 32 * 256 := Nat.mul_le_mul (by omega) hl256
                      omega
                    have HROW := Lib.hid (fun j m => stI_row (size := names.length - 1 - k) (show 2 ≤ names.length by omega) hk hnn HR.out j m)
                    clear HZL
                    generalize hT : stZ names.length l k = T at *
                    go_wp2_with fail
                    go_loopw [11, 15, 16, 17] (fun d i _ _ wr => ∃ j : Nat, j ≤ l.length ∧ i = .int .i64 j ∧ Hid (RowsOwn wi.heap.size 22 wr d (stI l T (names.length - 1 - k) j)) ∧ Hid (Up wi wr)) (fun _ i _ _ _ => l.length - (intOf i).toNat)
                    case atStart => exact ⟨0, Nat.zero_le _, rfl, hD, hU⟩
                    case round =>
                      obtain ⟨j, hj, rfl, hD2, hU2⟩ := hrel
                      obtain ⟨wk, rfl⟩ : ∃ wo : World, wo = wr := ⟨_, rfl⟩
                      obtain ⟨d2, rfl⟩ : ∃ d : Value, d = u11 := ⟨_, rfl⟩
                      by_cases hjt : j < l.length
                      · obtain ⟨gb, go, rq, rc, rfl, hg0, hg1, hg2, hri⟩ := grps_get HL5.out hjt
                        have HRI : Hid (IntsAt (fun b => b < wi.heap.size) wi (.slice rq (gg l j).src.length rc) (gg l j).src) := hri.sub fun b _ hl => hl
                        have HG2 := Lib.hid hg2
                        have hg2 := hU2.out.cell HG2.out
                        have j1 : (0 : Int) ≤ (j : Int) := by omega
                        have j2 : (j : Int) < (l.length : Int) := by omega
                        have HJT := Lib.hid hjt
                        have HSTI : Hid (stI l T (names.length - 1 - k) (j + 1) = if knB (decide ((gg l j).src.length ≠ names.length - 1 - k)) (stI l T (names.length - 1 - k) j) (gg l j).src (stI l T (names.length - 1 - k) j).length then stI l T (names.length - 1 - k) j else stI l T (names.length - 1 - k) j ++ [(gg l j).src]) := rfl
                        have hil : (stI l T (names.length - 1 - k) j).length ≤ 10000 := by
                          have := stI_len l T (names.length - 1 - k) j
                          omega
                        have hsl := HR.out j
                        have HROWJ := Lib.hid (HROW.out j)
                        have d3 : (((gg l j).src.length : Int) != (names.length : Int) - 1 - (k : Nat)) = decide ((gg l j).src.length ≠ names.length - 1 - k) := by
                          have := HKT.out
                          rw [Bool.eq_iff_iff, bne_iff_ne, decide_eq_true_eq]
                          omega
                        have HKN : Hid (∀ U m, knB (decide ((gg l j).src.length ≠ names.length - 1 - k)) U (gg l j).src (m + 1) = (knB (decide ((gg l j).src.length ≠ names.length - 1 - k)) U (gg l j).src m || decide (gl U m = (gg l j).src))) := fun _ _ => rfl
                        have HK0 : Hid (∀ U, knB (decide ((gg l j).src.length ≠ names.length - 1 - k)) U (gg l j).src 0 = decide ((gg l j).src.length ≠ names.length - 1 - k)) := fun _ => rfl
                        clear hri hg0 hg1
                        generalize stI l T (names.length - 1 - k) j = U at *
                        generalize (gg l j).src = src at *
                        generalize decide (src.length ≠ names.length - 1 - k) = c0 at *
                        obtain ⟨up, uc, hdl⟩ := hD2.out.len
                        subst hdl
                        have HD2 := Lib.hid hD2.out
                        clear hD2
                        go_wp2_with fail
                        go_loopw [16, 17] (fun c q wr => ∃ m : Nat, m ≤ U.length ∧ q = .int .i64 m ∧ c = .bool (knB c0 U src m) ∧ Hid (QD wk wr)) (fun _ q _ => U.length - (intOf q).toNat)
                        case atStart => exact ⟨0, Nat.zero_le _, rfl, by rw [HK0.out], QD.refl _⟩
                        case round =>
                          obtain ⟨m, hm, rfl, rfl, hQ⟩ := hrel
                          obtain ⟨wm, rfl⟩ : ∃ wo : World, wo = wr := ⟨_, rfl⟩
                          have hg2 := hQ.out.up.cell hg2
                          by_cases hmt : m < U.length
                          · obtain ⟨tb1, to1, tq, tc, rfl, ht1, hti⟩ := rows_get (HD2.out.kept hQ.out.up).rows hmt
                            have m1 : (0 : Int) ≤ (m : Int) := by omega
                            have m2 : (m : Int) < (U.length : Int) := by omega
                            have hul : (gl U m).length ≤ 1000000 := HROWJ.out m hmt
                            have HSI := Lib.hid (fun q => quiet_on <| sameInts_t Any _ (wm.drewN q) _ _ _ _ (IntsAt.keep hti (kept_drewN _ wm q)) (IntsAt.keep HRI.out (((hU2.out.trans hQ.out.up).trans (Up.drewN wm q)).kept _)) hul hsl)
                            have HM := Lib.hid (HKN.out U m)
                            clear hti
                            generalize decide (gl U m = src) = e at *
                            generalize knB c0 U src m = kn at *
                            generalize gl U m = row at *
                            cases kn <;> (
                              go_wp2_with fail
                              go_big_quiet (with_reducible exact HSI.out _)
                              go_wp2_with fail
                              go_roundw
                              case rel => exact ⟨m + 1, by omega, by go_num, by rw [HM.out]; rfl, hQ.out.drewN nq⟩
                              case measure => simp [intOf]; omega)
                          · obtain rfl : m = U.length := by omega
                            clear hmt hm
                            have HDM := Lib.hid (HD2.out.kept hQ.out.up)
                            have HUM := Lib.hid (hU2.out.trans hQ.out.up)
                            have HROWA : Hid (IntsAt (fun b => some b ≠ (Value.slice up U.length uc).ownBlock) wm (.slice rq src.length rc) src) := (IntsAt.keep HRI.out (HUM.out.kept _)).sub fun b hb _ => HDM.out.far hb
                            have hul2 : U.length ≤ 1000000 := by omega
                            have hwz : wi.heap.size ≤ wm.heap.size := HUM.out.size
                            clear hQ hU2 HROWJ HKN HK0
                            cases hkn : knB c0 U src U.length
                            · have HNX : Hid (stI l T (names.length - 1 - k) (j + 1) = U ++ [src]) := by rw [Hid, HSTI.out, if_neg (by rw [hkn]; decide)]
                              clear hkn HSTI
                              go_wp2_with (first | (at_builtin; refine wpList_appRowM wm rfl _ _ 31 rfl wi.heap.size 22 _ 24 Tryz.underlying31 Tryz.infoSI3 rfl (by decide) HDM.out rfl _ src _ rfl rfl HROWA.out rfl _ rfl hul2 hwz ?_; intro g9 cap9 w9 hown9 hgr9 hbe9))
                              go_roundw
                              case rel => exact ⟨j + 1, HJT.out, by go_num, by unfold Hid; rw [HNX.out]; exact hown9, Below.trans HUM.out hbe9⟩
                              case measure => have := HJT.out; simp [intOf]; omega
                            · have HNX : Hid (stI l T (names.length - 1 - k) (j + 1) = U) := by rw [Hid, HSTI.out, if_pos hkn]
                              clear hkn HSTI
                              go_wp2_with fail
                              go_roundw
                              case rel => exact ⟨j + 1, HJT.out, by go_num, by unfold Hid; rw [HNX.out]; exact HDM.out, HUM⟩
                              case measure => have := HJT.out; simp [intOf]; omega
                      · obtain rfl : j = l.length := by omega
                        clear hjt hj
                        have HDN : Hid (RowsOwn wi.heap.size 22 wk d2 (stZ names.length l (k + 1))) := by rw [Hid, HSZK.out]; exact hD2.out
                        clear hD2
                        go_wp2_with fail
                        go_roundw
                        case rel => exact ⟨k + 1, by have := HKT.out; omega, by go_num, HDN, hU2⟩
                        case measure => have := HKT.out; simp [intOf]; omega
                  · obtain rfl : k = names.length - 2 := by omega
                    have z1 : decide ((1 : Int) < (names.length : Int) - 1 - ((names.length - 2 : Nat) : Int)) = false := decide_eq_false (by omega)
                    clear hkt hk
                    go_wp2_with fail
                    have HSL : Hid (setsL names.length l = if 1 < names.length then stZ names.length l (names.length - 2) ++ sgK names.length else stZ names.length l (names.length - 2)) := rfl
                    have hzl : (stZ names.length l (names.length - 2)).length ≤ 9000 := by
                      have h1 := stZ_len names.length l (names.length - 2)
                      have h2 : (names.length - 2) * l.length ≤ 32 * 256 := Nat.mul_le_mul (by omega) hl256
                      omega
                    generalize stZ names.length l (names.length - 2) = Z at *
                    by_cases hn1 : 1 < names.length
                    · have HN1 := Lib.hid hn1
                      have z2 : decide ((1 : Int) < (names.length : Int)) = true := decide_eq_true (by omega)
                      have HD0 : Hid (RowsOwn wi.heap.size 22 wj d (Z ++ sgK 0)) := by rw [Hid, show Z ++ sgK 0 = Z from List.append_nil Z]; exact hD.out
                      rw [if_pos hn1] at HSL
                      clear hn1 hD
                      go_loopw [11, 18] (fun d i wr => ∃ k : Nat, k ≤ names.length ∧ i = .int .i64 k ∧ Hid (RowsOwn wi.heap.size 22 wr d (Z ++ sgK k)) ∧ Hid (Up wi wr)) (fun _ i _ => names.length - (intOf i).toNat)
                      case atStart => exact ⟨0, Nat.zero_le _, rfl, HD0, hU⟩
                      case round =>
                        clear HD0 hU
                        obtain ⟨k, hk, rfl, hD, hU⟩ := hrel
                        obtain ⟨wj, rfl⟩ : ∃ wo : World, wo = wr := ⟨_, rfl⟩
                        obtain ⟨d, rfl⟩ : ∃ d : Value, d = u11 := ⟨_, rfl⟩
                        by_cases hkt : k < names.length
                        · have HKT := Lib.hid hkt
                          have HSG := Lib.hid (sgK_succ k)
                          have HUA : Hid (Up wi (wj.alloc (.cells #[.int .i64 k] 3))) := hU.out.trans (Up.alloc _ _)
                          have HRA := Lib.hid (hD.out.kept (Up.alloc wj (.cells #[.int .i64 k] 3)))
                          have HPA : Hid (IntsAt (fun b => some b ≠ d.ownBlock) (wj.alloc (.cells #[.int .i64 k] 3)) (.slice (some ⟨wj.heap.size, 0, none⟩) 1 1) [(k : Int)]) :=
                            single_at _ _ _ fun e => by have := (hD.out.lt e.symm).2; exact absurd this (Nat.lt_irrefl _)
                          have HLE : (Z ++ sgK k).length ≤ 1000000 := by rw [List.length_append, sgK_len]; omega
                          have HWZ : wi.heap.size ≤ (wj.alloc (.cells #[.int .i64 k] 3)).heap.size := HUA.out.size
                          have HSZ : (wj.alloc (.cells #[.int .i64 k] 3)).heap.size = wj.heap.size + 1 := by rw [World.size_alloc]
                          have HSN : Hid (Z ++ sgK (k + 1) = (Z ++ sgK k) ++ [[(k : Int)]]) := by rw [Hid, HSG.out, List.append_assoc]
                          have z3 : decide ((k : Int) < (names.length : Int)) = true := decide_eq_true (by omega)
                          generalize Z ++ sgK k = L0 at *
                          go_wp2_with (first | (at_builtin; refine wpList_appRowM (wj.alloc (.cells #[.int .i64 k] 3)) rfl _ _ 31 rfl wi.heap.size 22 _ 24 Tryz.underlying31 Tryz.infoSI3 rfl (by decide) HRA.out rfl _ [(k : Int)] _ HSZ rfl HPA.out rfl _ rfl HLE HWZ ?_; intro g9 cap9 w9 hown9 hgr9 hbe9))
                          go_roundw
                          case rel => exact ⟨k + 1, HKT.out, by go_num, by unfold Hid; rw [HSN.out]; exact hown9, Below.trans HUA.out hbe9⟩
                          case measure => have := HKT.out; simp [intOf]; omega
                        · obtain rfl : k = names.length := by omega
                          have z3 : decide ((names.length : Int) < (names.length : Int)) = false := decide_eq_false (by omega)
                          have HDS : Hid (RowsOwn wi.heap.size 22 wj d (setsL names.length l)) := by rw [Hid, HSL.out]; exact hD.out
                          have HUJ := Lib.hid hU.out
                          clear hkt hk hD hU HSL
                          have HSO := Lib.hid HSH.out.sets
                          have hSL : (setsL names.length l).length ≤ 64 := sets_count HS0.out
                          have HTR := Lib.hid (set_tree HS0.out)
                          have HRSL : Hid (∀ k, k < (setsL names.length l).length → (gl (setsL names.length l) k).length ≤ 1000000) := fun k hk => by
                            rcases (mem_setsL HSH.out.pos).1 (gl_mem hk) with e | ⟨i, _, e, _⟩ | ⟨_, i, _, e⟩
                            · rw [e, allI_len]; exact hnn
                            · rw [← e]; exact HR.out i
                            · rw [e]; simp
                          have HNJ := Lib.hid (StrsAt.keep HN5.out (HUJ.out.kept S))
                          have HRBJ : Hid (∀ W, Up wj W → W.heap[w.heap.size]? = some (Obj.cells #[.slice none 0 0, .slice none 0 0] 25 (0, 0))) := fun W hW => HRB5.out W (HUJ.out.trans hW)
                          have HBJ : Hid (w.heap.size < wj.heap.size) := by have := HUJ.out.size; have := HB5.out; unfold Hid; omega
                          have HUWJ := Lib.hid (HUW.out.trans HUJ.out)
                          obtain ⟨up, uc, hdl⟩ := HDS.out.len
                          subst hdl
                          have HRWS := Lib.hid HDS.out.rows
                          clear HN5 HRB5 HB5 HUW HDS HUJ HL5
                          generalize setsL names.length l = S0 at *
                          go_wp2_with fail
                          have HG0 : Hid (GS wj.heap.size (wj.heap.size + 1) (wj.alloc (.cells #[.slice none 0 0, .slice none 0 0] 25)) (.slice none 0 0) (.slice none 0 0) (setK names S0 0)) := ⟨blk_alloc_new _ _, ⟨Owns.nil _ _ _, Owns.nil _ _ _, fun b hb => (by cases hb)⟩, by omega, by rw [World.size_alloc]; exact Nat.le_refl _⟩
                          have HUA : Hid (Up wj (wj.alloc (.cells #[.slice none 0 0, .slice none 0 0] 25))) := Up.alloc _ _
                          generalize wj.alloc (.cells #[.slice none 0 0, .slice none 0 0] 25) = w8 at *
                          have htb : wj.heap.size ≤ wj.heap.size := Nat.le_refl _
                          have hbt : w.heap.size < wj.heap.size := HBJ.out
                          obtain ⟨tb, htbe⟩ : ∃ tb, wj.heap.size = tb := ⟨_, rfl⟩
                          have htb : wj.heap.size ≤ tb := by omega
                          have hbt : w.heap.size < tb := by omega
                          rw [htbe] at HG0
                          rw [htbe]
                          clear htbe HBJ
                          generalize tb + 1 = B0 at *
                          go_loopw [20, 21, 22, 23] (fun i _ _ _ wr => ∃ k : Nat, k ≤ S0.length ∧ i = .int .i64 k ∧ Hid (∃ P N, GS tb B0 wr P N (setK names S0 k)) ∧ Hid (Up wj wr)) (fun i _ _ _ _ => S0.length - (intOf i).toNat)
                          case atStart => exact ⟨0, Nat.zero_le _, rfl, ⟨_, _, HG0.out⟩, HUA.out⟩
                          case round =>
                            obtain ⟨k, hk, rfl, hGe, hU8⟩ := hrel
                            obtain ⟨wk, rfl⟩ : ∃ wo : World, wo = wr := ⟨_, rfl⟩
                            by_cases hkt : k < S0.length
                            · have HKT := Lib.hid hkt
                              have k1 : (0 : Int) ≤ (k : Int) := by omega
                              have k2 : (k : Int) < (S0.length : Int) := by omega
                              have HPI : Hid (∀ m, parI S0 k (m + 1) = if comK (gl S0 k) (gl S0 m) (gl S0 k).length = (gl S0 k).length then (m : Int) else parI S0 k m) := fun _ => rfl
                              go_wp2_with fail
                              go_loopw [21, 23] (fun pv q wr => ∃ m : Nat, m ≤ k ∧ q = .int .i64 m ∧ pv = .int .i64 (parI S0 k m) ∧ Hid (QD wk wr)) (fun _ q _ => k - (intOf q).toNat)
                              case atStart => exact ⟨0, Nat.zero_le _, rfl, rfl, QD.refl _⟩
                              case round =>
                                obtain ⟨m, hm, rfl, rfl, hQ⟩ := hrel
                                obtain ⟨wm, rfl⟩ : ∃ wo : World, wo = wr := ⟨_, rfl⟩
                                have HUM := Lib.hid (hU8.out.trans hQ.out.up)
                                have HRWM : Hid (RowsAt Any wm (.slice up S0.length uc) S0) := RowsAt.keep HRWS.out (HUM.out.kept _)
                                obtain ⟨tb1, to1, tq, tc, rfl, ht1, hti⟩ := rows_get HRWM.out HKT.out
                                have hrl := HRSL.out k HKT.out
                                by_cases hmt : m < k
                                · obtain ⟨tq2, tc2, ht2, hti2⟩ := rows_get' HRWM.out (show m < S0.length by have := HKT.out; omega)
                                  have m1 : (0 : Int) ≤ (m : Int) := by omega
                                  have m2 : (m : Int) < (S0.length : Int) := by omega
                                  have HCM := Lib.hid (fun q => quiet_on <| rcommon_t Any Any (wm.drewN q) _ _ _ _ (IntsAt.keep hti (kept_drewN _ wm q)) (IntsAt.keep hti2 (kept_drewN _ wm q)) hrl (HRSL.out m (by have := HKT.out; omega)))
                                  have HPM := Lib.hid (HPI.out m)
                                  clear hti hti2
                                  by_cases e : comK (gl S0 k) (gl S0 m) (gl S0 k).length = (gl S0 k).length
                                  · have d5 : ((comK (gl S0 k) (gl S0 m) (gl S0 k).length : Int) == ((gl S0 k).length : Int)) = true := by rw [e]; simp
                                    rw [if_pos e] at HPM
                                    clear e
                                    generalize comK (gl S0 k) (gl S0 m) (gl S0 k).length = cm at *
                                    generalize parI S0 k m = pm at *
                                    generalize gl S0 k = rk at *
                                    generalize gl S0 m = rm at *
                                    go_wp2_with fail
                                    go_big_quiet (with_reducible exact HCM.out _)
                                    go_wp2_with fail
                                    go_roundw
                                    case rel => exact ⟨m + 1, by omega, by go_num, by rw [HPM.out], hQ.out.drewN nq⟩
                                    case measure => simp [intOf]; omega
                                  · have d5 : ((comK (gl S0 k) (gl S0 m) (gl S0 k).length : Int) == ((gl S0 k).length : Int)) = false := by
                                      rw [beq_eq_false_iff_ne]; omega
                                    rw [if_neg e] at HPM
                                    clear e
                                    generalize comK (gl S0 k) (gl S0 m) (gl S0 k).length = cm at *
                                    generalize parI S0 k m = pm at *
                                    generalize gl S0 k = rk at *
                                    generalize gl S0 m = rm at *
                                    go_wp2_with fail
                                    go_big_quiet (with_reducible exact HCM.out _)
                                    go_wp2_with fail
                                    go_roundw
                                    case rel => exact ⟨m + 1, by omega, by go_num, by rw [HPM.out], hQ.out.drewN nq⟩
                                    case measure => simp [intOf]; omega
                                · obtain rfl : m = k := by omega
                                  clear hmt hm HPI
                                  have HTI := Lib.hid hti
                                  have HKS : Hid (0 < m + 1) := Nat.succ_pos m
                                  go_upto_if 191 with fail
                                  go_cut [22] from 159 to 212 (fun s22 wx => s22 = .string (nmI names (gl S0 m)) ∧ wx = wm)
                                  case first =>
                                    by_cases h1 : (gl S0 m).length = 1
                                    · obtain ⟨b, hb, hbe, hbn⟩ := HSO.out.one HKT.out h1
                                      have d6 : (((gl S0 m).length : Int) == 1) = true := by rw [h1]; rfl
                                      obtain ⟨b1, o1, rfl, hx1⟩ := ints_get HTI.out (k := 0) (by omega)
                                      obtain ⟨b2, o2, rfl, hx2⟩ := strs_get (StrsAt.keep HNJ.out (HUM.out.kept S)) hb
                                      have hx1 : wm.cell? ⟨b1, o1, none⟩ = some (.int .i64 b) := by have := hx1; rw [hbe] at this; exact this
                                      have i1 : (0 : Int) < ((gl S0 m).length : Int) := by omega
                                      have i2 : (0 : Int) ≤ (b : Int) := by omega
                                      have i3 : (b : Int) < (names.length : Int) := by omega
                                      have HNI : Hid (nmI names (gl S0 m) = gs names b) := by rw [Hid, nmI, if_pos h1, hbe]; rfl
                                      clear hbe hbn h1
                                      go_wp2_with fail
                                      go_meet
                                      case rel => exact ⟨by rw [HNI.out], rfl⟩
                                    · have d6 : (((gl S0 m).length : Int) == 1) = false := by rw [beq_eq_false_iff_ne]; omega
                                      have HNI : Hid (nmI names (gl S0 m) = ByteArray.empty) := by rw [Hid, nmI, if_neg h1]
                                      clear h1
                                      go_wp2_with fail
                                      go_meet
                                      case rel => exact ⟨by rw [HNI.out]; rfl, rfl⟩
                                  case rest =>
                                    obtain ⟨rfl, rfl⟩ := hcut
                                    have HSUC := Lib.hid (setK_succ (names := names) HKT.out)
                                    have HPL : Hid ((setK names S0 m).ps.length ≤ 1000000 ∧ (setK names S0 m).ns.length ≤ 1000000) := by
                                      have h1 := setK_len names S0 (Nat.le_of_lt HKT.out)
                                      have h2 := HKT.out
                                      exact ⟨by omega, by omega⟩
                                    obtain ⟨P, N, hGi⟩ := hGe.out
                                    have HGI := Lib.hid (hGi.up hQ.out.up)
                                    clear hGi hGe hQ HTI hU8 ht1
                                    generalize parI S0 m m = zp at *
                                    generalize nmI names (gl S0 m) = nm at *
                                    generalize setK names S0 m = ts at *
                                    go_wp2_with fail
                                    have hd := Up.drewN wc 1
                                    have HGS := Lib.hid HGI.out
                                    have HBX := Lib.hid HGI.out.box
                                    have HRd : Hid (RS tb B0 wc wc.drew P N P N ts.ps ts.ns) := (RS.start HGI.out.tl HGI.out.lo).up hd
                                    refine region_T (by kernel_rfl) 10 (fun w' => w'.cell? ⟨tb, 0, none⟩ = some P ∧ w'.cell? ⟨tb, 1, none⟩ = some N) (HRd.out.cells HBX.out) (fun hS => ?_)
                                    simp only [List.size_toArray, List.length_cons, List.length_nil, Nat.reduceAdd, Array.replicate_succ, Array.replicate_zero, List.push_toArray, List.nil_append, List.cons_append]
                                    generalize wc.drew = Wd at *
                                    refine anyT.take (i := 0) (v := ?gv0t) rfl (by kernel_rfl) (fun _ _ _ h => h) (by rfl) (fun w hSw => ?gy0t) hS ?gr0t
                                    case gy0t =>
                                      (try dsimp only at hSw)
                                      go_simp
                                      try with_reducible rfl
                                    try simp only [Act.put, List.setIfInBounds_toArray, List.set_cons_zero, List.set_cons_succ]
                                    refine anyT.take (i := 1) (v := ?gv1t) rfl (by kernel_rfl) (fun _ _ _ h => h) (by rfl) (fun w hSw => ?gy1t) hS ?gr1t
                                    case gy1t =>
                                      (try dsimp only at hSw)
                                      go_simp
                                      try with_reducible rfl
                                    try simp only [Act.put, List.setIfInBounds_toArray, List.set_cons_zero, List.set_cons_succ]
                                    refine anyT.take (i := 2) (v := ?gv2t) rfl (by kernel_rfl) (fun _ _ _ h => h) (by rfl) (fun w hSw => ?gy2t) hS ?gr2t
                                    case gy2t =>
                                      (try dsimp only at hSw)
                                      go_simp
                                      try with_reducible rfl
                                    try simp only [Act.put, List.setIfInBounds_toArray, List.set_cons_zero, List.set_cons_succ]
                                    refine anyT.take (i := 5) (v := ?gv5t) rfl (by kernel_rfl) (fun _ _ _ h => h) (by rfl) (fun w hSw => ?gy5t) hS ?gr5t
                                    case gy5t =>
                                      (try dsimp only at hSw)
                                      go_simp
                                      try with_reducible rfl
                                    try simp only [Act.put, List.setIfInBounds_toArray, List.set_cons_zero, List.set_cons_succ]
                                    refine anyT.take (i := 6) (v := ?gv6t) rfl (by kernel_rfl) (fun _ _ _ h => h) (by rfl) (fun w hSw => ?gy6t) hS ?gr6t
                                    case gy6t =>
                                      (try dsimp only at hSw)
                                      go_simp
                                      try with_reducible rfl
                                    try simp only [Act.put, List.setIfInBounds_toArray, List.set_cons_zero, List.set_cons_succ]
                                    refine anyT.take (i := 7) (v := ?gv7t) rfl (by kernel_rfl) (fun _ _ _ h => h) (by rfl) (fun w hSw => ?gy7t) hS ?gr7t
                                    case gy7t =>
                                      (try dsimp only at hSw)
                                      go_simp
                                      try with_reducible rfl
                                    try simp only [Act.put, List.setIfInBounds_toArray, List.set_cons_zero, List.set_cons_succ]
                                    refine anyT.step2 (i := 3) (i2 := 8) rfl rfl (by kernel_rfl) (fun K' hK => ?_) (fun K' hK => ?_)
                                    · go_simp
                                      have HRa : Hid (RS tb B0 _ (Wd.alloc (.cells #[.int .i64 zp] 3)) _ _ _ _ _ _) := HRd.out.up (Up.alloc _ _)
                                      refine hK.out _ _ (fun _ => HRa.out.cells HBX.out) (fun _ => ?_)
                                      try simp only [List.setIfInBounds_toArray, List.set_cons_zero, List.set_cons_succ]
                                      refine anyT.step2 (i := 4) (i2 := 8) rfl rfl (by kernel_rfl) (fun K' hK => ?_) (fun K' hK => ?_)
                                      · refine step_app1 (by rfl) _ _ _ (by rfl) B0 3 _ 8 Tryz.underlying22 Tryz.infoI (by rfl) (by decide) (by rfl) HRa.out.tl.pown (.int .i64 zp) Wd.heap.size (by rfl) (cell_at_new Wd #[.int .i64 zp] 3 0) (by rfl) (by rw [List.length_map]; exact HPL.out.1) (Nat.le_trans HRa.out.lo.2 HRa.out.gk.size) ?_
                                        intro g1 g1c We1 hog1 hgg1 hrg1 _
                                        have HRb : Hid (RS tb B0 _ We1 _ _ _ _ _ _) := HRa.out.appP hog1 hgg1 (hrg1.imp id (fun e => Nat.le_of_eq e.symm))
                                        refine hK.out _ _ (fun _ => HRb.out.cells HBX.out) (fun _ => ?_)
                                        try simp only [Act.put, List.setIfInBounds_toArray, List.set_cons_zero, List.set_cons_succ]
                                        refine anyT.free (i := 10) (v := ?gv10at) rfl (by kernel_rfl) (fun _ _ _ h => h) (by rfl) (fun w => ?gy10at) (fun _ => HRb.out.cells HBX.out) ?gr10at
                                        case gy10at =>
                                          go_simp
                                          try with_reducible rfl
                                        try simp only [Act.put, List.setIfInBounds_toArray, List.set_cons_zero, List.set_cons_succ]
                                        refine anyT.step (i := 8) rfl (by kernel_rfl) (fun K' hK => ?_)
                                        go_simp
                                        have HRc : Hid (RS tb B0 _ (We1.alloc (.cells #[.string nm] 9)) _ _ _ _ _ _) := HRb.out.up (Up.alloc _ _)
                                        refine hK.out _ _ (fun _ => HRc.out.cells HBX.out) (fun _ => ?_)
                                        try simp only [List.setIfInBounds_toArray, List.set_cons_zero, List.set_cons_succ]
                                        refine anyT.step (i := 9) rfl (by kernel_rfl) (fun K' hK => ?_)
                                        refine step_app1 (by rfl) _ _ _ (by rfl) B0 9 _ 16 Tryz.underlying23 Tryz.infoStr2 (by rfl) (by decide) (by rfl) HRc.out.tl.nown (.string nm) We1.heap.size (by rfl) (cell_at_new We1 #[.string nm] 9 0) (by rfl) (by rw [List.length_map]; exact HPL.out.2) (Nat.le_trans HRc.out.lo.2 HRc.out.gk.size) ?_
                                        intro g2 g2c We2 hog2 hgg2 hrg2 _
                                        have HRf : Hid (RS tb B0 _ We2 _ _ _ _ _ _) := HRc.out.appN hog2 hgg2 (hrg2.imp id (fun e => Nat.le_of_eq e.symm))
                                        refine hK.out _ _ (fun _ => HRf.out.cells HBX.out) (fun _ => ?_)
                                        try simp only [Act.put, List.setIfInBounds_toArray, List.set_cons_zero, List.set_cons_succ]
                                        obtain ⟨hbe, hbe1⟩ := HRf.out.cells HBX.out
                                        have hfe := HRf.out.frozen HBX.out 0
                                        have hfe1 := HRf.out.frozen HBX.out 1
                                        have HFIN := Lib.hid (HRf.out.store HGS.out)
                                        refine anyT.step (i := 11) rfl (by kernel_rfl) (fun K' hK => ?_)
                                        go_simp
                                        refine hK.out _ _ (not_more (by kernel_rfl)) (fun _ => ?_)
                                        try simp only [List.setIfInBounds_toArray, List.set_cons_zero, List.set_cons_succ]
                                        refine anyT.free (i := 12) (v := ?gv12at) rfl (by kernel_rfl) (fun _ _ _ h => h) (by rfl) (fun w => ?gy12at) (not_more (by kernel_rfl)) ?gr12at
                                        case gy12at =>
                                          go_simp
                                          try with_reducible rfl
                                        try simp only [Act.put, List.setIfInBounds_toArray, List.set_cons_zero, List.set_cons_succ]
                                        refine anyT.step (i := 13) rfl (by kernel_rfl) (fun K' hK => ?_)
                                        go_simp
                                        refine hK.out _ _ (not_more (by kernel_rfl)) (fun _ => ?_)
                                        refine anyT.done (by kernel_rfl) ?_
                                        go_wp2_with fail
                                        have hfin := HFIN.out
                                        simp only [List.length_map] at hfin
                                        have HN := Lib.hid hfin
                                        clear hfin HFIN
                                        go_roundw
                                        case rel => exact ⟨m + 1, HKT.out, by go_num, by unfold Hid; rw [HSUC.out]; exact ⟨_, _, HN.out.1⟩, GK.upw HUM.out HGS.out HN.out.2 htb⟩
                                        case measure => have := HKT.out; simp [intOf]; omega
                                      · go_simp
                                        have HRb : Hid (RS tb B0 _ ((Wd.alloc (.cells #[.int .i64 zp] 3)).alloc (.cells #[.string nm] 9)) _ _ _ _ _ _) := HRa.out.up (Up.alloc _ _)
                                        refine hK.out _ _ (fun _ => HRb.out.cells HBX.out) (fun _ => ?_)
                                        try simp only [List.setIfInBounds_toArray, List.set_cons_zero, List.set_cons_succ]
                                        have hcN := cell_at_new (Wd.alloc (.cells #[.int .i64 zp] 3)) #[.string nm] 9 0
                                        have hcP := (Up.alloc (Wd.alloc (.cells #[.int .i64 zp] 3)) (.cells #[.string nm] 9)).cell (cell_at_new Wd #[.int .i64 zp] 3 0)
                                        rw [World.size_alloc] at hcN
                                        refine anyT.step (i := 4) rfl (by kernel_rfl) (fun K' hK => ?_)
                                        refine step_app1 (by rfl) _ _ _ (by rfl) B0 3 _ 8 Tryz.underlying22 Tryz.infoI (by rfl) (by decide) (by rfl) HRb.out.tl.pown (.int .i64 zp) Wd.heap.size (by rfl) hcP (by rfl) (by rw [List.length_map]; exact HPL.out.1) (Nat.le_trans HRb.out.lo.2 HRb.out.gk.size) ?_
                                        intro g1 g1c We1 hog1 hgg1 hrg1 _
                                        have HRc : Hid (RS tb B0 _ We1 _ _ _ _ _ _) := HRb.out.appP hog1 hgg1 (hrg1.imp id (fun e => Nat.le_of_eq e.symm))
                                        have hcN1 : We1.cell? ⟨Wd.heap.size + 1, 0, none⟩ = some (.string nm) := by
                                          rw [hgg1.cell_far ⟨Wd.heap.size + 1, 0, none⟩ (by simp) (fun e => absurd (ownBlock_lt HRd.out.tl.pown e.symm).2 (by show ¬ (Wd.heap.size + 1 < Wd.heap.size); omega))]; exact hcN
                                        refine hK.out _ _ (fun _ => HRc.out.cells HBX.out) (fun _ => ?_)
                                        try simp only [Act.put, List.setIfInBounds_toArray, List.set_cons_zero, List.set_cons_succ]
                                        refine anyT.free (i := 10) (v := ?gv10bt) rfl (by kernel_rfl) (fun _ _ _ h => h) (by rfl) (fun w => ?gy10bt) (fun _ => HRc.out.cells HBX.out) ?gr10bt
                                        case gy10bt =>
                                          go_simp
                                          try with_reducible rfl
                                        try simp only [Act.put, List.setIfInBounds_toArray, List.set_cons_zero, List.set_cons_succ]
                                        refine anyT.step (i := 9) rfl (by kernel_rfl) (fun K' hK => ?_)
                                        refine step_app1 (by rfl) _ _ _ (by rfl) B0 9 _ 16 Tryz.underlying23 Tryz.infoStr2 (by rfl) (by decide) (by rfl) HRc.out.tl.nown (.string nm) (Wd.heap.size + 1) (by rfl) hcN1 (by rfl) (by rw [List.length_map]; exact HPL.out.2) (Nat.le_trans HRc.out.lo.2 HRc.out.gk.size) ?_
                                        intro g2 g2c We2 hog2 hgg2 hrg2 _
                                        have HRf : Hid (RS tb B0 _ We2 _ _ _ _ _ _) := HRc.out.appN hog2 hgg2 (hrg2.imp id (fun e => Nat.le_of_eq e.symm))
                                        refine hK.out _ _ (fun _ => HRf.out.cells HBX.out) (fun _ => ?_)
                                        try simp only [Act.put, List.setIfInBounds_toArray, List.set_cons_zero, List.set_cons_succ]
                                        obtain ⟨hbe, hbe1⟩ := HRf.out.cells HBX.out
                                        have hfe := HRf.out.frozen HBX.out 0
                                        have hfe1 := HRf.out.frozen HBX.out 1
                                        have HFIN := Lib.hid (HRf.out.store HGS.out)
                                        refine anyT.step (i := 11) rfl (by kernel_rfl) (fun K' hK => ?_)
                                        go_simp
                                        refine hK.out _ _ (not_more (by kernel_rfl)) (fun _ => ?_)
                                        try simp only [List.setIfInBounds_toArray, List.set_cons_zero, List.set_cons_succ]
                                        refine anyT.free (i := 12) (v := ?gv12bt) rfl (by kernel_rfl) (fun _ _ _ h => h) (by rfl) (fun w => ?gy12bt) (not_more (by kernel_rfl)) ?gr12bt
                                        case gy12bt =>
                                          go_simp
                                          try with_reducible rfl
                                        try simp only [Act.put, List.setIfInBounds_toArray, List.set_cons_zero, List.set_cons_succ]
                                        refine anyT.step (i := 13) rfl (by kernel_rfl) (fun K' hK => ?_)
                                        go_simp
                                        refine hK.out _ _ (not_more (by kernel_rfl)) (fun _ => ?_)
                                        refine anyT.done (by kernel_rfl) ?_
                                        go_wp2_with fail
                                        have hfin := HFIN.out
                                        simp only [List.length_map] at hfin
                                        have HN := Lib.hid hfin
                                        clear hfin HFIN
                                        go_roundw
                                        case rel => exact ⟨m + 1, HKT.out, by go_num, by unfold Hid; rw [HSUC.out]; exact ⟨_, _, HN.out.1⟩, GK.upw HUM.out HGS.out HN.out.2 htb⟩
                                        case measure => have := HKT.out; simp [intOf]; omega
                                    · go_simp
                                      have HRa : Hid (RS tb B0 _ (Wd.alloc (.cells #[.string nm] 9)) _ _ _ _ _ _) := HRd.out.up (Up.alloc _ _)
                                      refine hK.out _ _ (fun _ => HRa.out.cells HBX.out) (fun _ => ?_)
                                      try simp only [List.setIfInBounds_toArray, List.set_cons_zero, List.set_cons_succ]
                                      refine anyT.step (i := 3) rfl (by kernel_rfl) (fun K' hK => ?_)
                                      go_simp
                                      have HRb : Hid (RS tb B0 _ ((Wd.alloc (.cells #[.string nm] 9)).alloc (.cells #[.int .i64 zp] 3)) _ _ _ _ _ _) := HRa.out.up (Up.alloc _ _)
                                      refine hK.out _ _ (fun _ => HRb.out.cells HBX.out) (fun _ => ?_)
                                      try simp only [List.setIfInBounds_toArray, List.set_cons_zero, List.set_cons_succ]
                                      have hcP := cell_at_new (Wd.alloc (.cells #[.string nm] 9)) #[.int .i64 zp] 3 0
                                      have hcN := (Up.alloc (Wd.alloc (.cells #[.string nm] 9)) (.cells #[.int .i64 zp] 3)).cell (cell_at_new Wd #[.string nm] 9 0)
                                      rw [World.size_alloc] at hcP
                                      refine anyT.step (i := 4) rfl (by kernel_rfl) (fun K' hK => ?_)
                                      refine step_app1 (by rfl) _ _ _ (by rfl) B0 3 _ 8 Tryz.underlying22 Tryz.infoI (by rfl) (by decide) (by rfl) HRb.out.tl.pown (.int .i64 zp) (Wd.heap.size + 1) (by rfl) hcP (by rfl) (by rw [List.length_map]; exact HPL.out.1) (Nat.le_trans HRb.out.lo.2 HRb.out.gk.size) ?_
                                      intro g1 g1c We1 hog1 hgg1 hrg1 _
                                      have HRc : Hid (RS tb B0 _ We1 _ _ _ _ _ _) := HRb.out.appP hog1 hgg1 (hrg1.imp id (fun e => Nat.le_of_eq e.symm))
                                      have hcN1 : We1.cell? ⟨Wd.heap.size, 0, none⟩ = some (.string nm) := by
                                        rw [hgg1.cell_far ⟨Wd.heap.size, 0, none⟩ (by simp; omega) (fun e => absurd (ownBlock_lt HRd.out.tl.pown e.symm).2 (by show ¬ (Wd.heap.size < Wd.heap.size); omega))]; exact hcN
                                      refine hK.out _ _ (fun _ => HRc.out.cells HBX.out) (fun _ => ?_)
                                      try simp only [Act.put, List.setIfInBounds_toArray, List.set_cons_zero, List.set_cons_succ]
                                      refine anyT.free (i := 10) (v := ?gv10ct) rfl (by kernel_rfl) (fun _ _ _ h => h) (by rfl) (fun w => ?gy10ct) (fun _ => HRc.out.cells HBX.out) ?gr10ct
                                      case gy10ct =>
                                        go_simp
                                        try with_reducible rfl
                                      try simp only [Act.put, List.setIfInBounds_toArray, List.set_cons_zero, List.set_cons_succ]
                                      refine anyT.step (i := 9) rfl (by kernel_rfl) (fun K' hK => ?_)
                                      refine step_app1 (by rfl) _ _ _ (by rfl) B0 9 _ 16 Tryz.underlying23 Tryz.infoStr2 (by rfl) (by decide) (by rfl) HRc.out.tl.nown (.string nm) Wd.heap.size (by rfl) hcN1 (by rfl) (by rw [List.length_map]; exact HPL.out.2) (Nat.le_trans HRc.out.lo.2 HRc.out.gk.size) ?_
                                      intro g2 g2c We2 hog2 hgg2 hrg2 _
                                      have HRf : Hid (RS tb B0 _ We2 _ _ _ _ _ _) := HRc.out.appN hog2 hgg2 (hrg2.imp id (fun e => Nat.le_of_eq e.symm))
                                      refine hK.out _ _ (fun _ => HRf.out.cells HBX.out) (fun _ => ?_)
                                      try simp only [Act.put, List.setIfInBounds_toArray, List.set_cons_zero, List.set_cons_succ]
                                      obtain ⟨hbe, hbe1⟩ := HRf.out.cells HBX.out
                                      have hfe := HRf.out.frozen HBX.out 0
                                      have hfe1 := HRf.out.frozen HBX.out 1
                                      have HFIN := Lib.hid (HRf.out.store HGS.out)
                                      refine anyT.step (i := 11) rfl (by kernel_rfl) (fun K' hK => ?_)
                                      go_simp
                                      refine hK.out _ _ (not_more (by kernel_rfl)) (fun _ => ?_)
                                      try simp only [List.setIfInBounds_toArray, List.set_cons_zero, List.set_cons_succ]
                                      refine anyT.free (i := 12) (v := ?gv12ct) rfl (by kernel_rfl) (fun _ _ _ h => h) (by rfl) (fun w => ?gy12ct) (not_more (by kernel_rfl)) ?gr12ct
                                      case gy12ct =>
                                        go_simp
                                        try with_reducible rfl
                                      try simp only [Act.put, List.setIfInBounds_toArray, List.set_cons_zero, List.set_cons_succ]
                                      refine anyT.step (i := 13) rfl (by kernel_rfl) (fun K' hK => ?_)
                                      go_simp
                                      refine hK.out _ _ (not_more (by kernel_rfl)) (fun _ => ?_)
                                      refine anyT.done (by kernel_rfl) ?_
                                      go_wp2_with fail
                                      have hfin := HFIN.out
                                      simp only [List.length_map] at hfin
                                      have HN := Lib.hid hfin
                                      clear hfin HFIN
                                      go_roundw
                                      case rel => exact ⟨m + 1, HKT.out, by go_num, by unfold Hid; rw [HSUC.out]; exact ⟨_, _, HN.out.1⟩, GK.upw HUM.out HGS.out HN.out.2 htb⟩
                                      case measure => have := HKT.out; simp [intOf]; omega
                            · obtain rfl : k = S0.length := by omega
                              clear hkt hk
                              obtain ⟨P, N, hG⟩ := hGe.out
                              rw [setK_all] at hG
                              obtain ⟨pp, pc, rfl, _⟩ := hG.tl.pown.form (n := (setT names S0).ps.length) (by simp)
                              obtain ⟨pn, pm, rfl, _⟩ := hG.tl.nown.form (n := (setT names S0).ns.length) (by simp)
                              obtain ⟨tc0, tc1, _, _⟩ := hG.cells
                              have hT7 : TreeAt (fun b => B0 ≤ b) wk (.agg #[.slice pp (setT names S0).ps.length pc, .slice pn (setT names S0).ns.length pm]) (setT names S0) := ⟨_, _, rfl, hG.tl.pown.ints, hG.tl.nown.strs⟩
                              have HCN := Lib.hid (canonR_t _ wk _ _ hT7 (by rw [set_len]; omega) (by simp [setT]; omega) (nm_size HZ.out S0))
                              have HGK := Lib.hid hG
                              have HE : Hid (canR (setT names S0) = shTree names l) := by rw [Hid, canR_canT HTR.out.1, HTR.out.2]
                              clear hT7 hG hGe
                              go_wp2_with fail
                              refine HCN.out.mono ?_
                              rintro e w9 ⟨hu9, hcase⟩
                              rcases hcase with ⟨hte, rfl⟩ | ⟨hte, cv, rfl, P8, N8, rfl, hP8, hN8⟩
                              · exact absurd HTR.out.1 hte
                              · rw [HE.out] at hP8 hN8
                                obtain ⟨p8, c8, rfl, _, _⟩ := SlAt.open hP8
                                obtain ⟨n8, d8, rfl, _, _⟩ := SlAt.open hN8
                                have HGS9 := Lib.hid (HGK.out.up hu9)
                                obtain ⟨t0, t1, t2, t3⟩ := HGS9.out.cells
                                have HST1 := Lib.hid (store_two (w := wj) (p := .slice p8 (shTree names l).ps.length c8) (q := .slice n8 (shTree names l).ns.length d8) HGS9.out.box htb (hU8.out.trans hu9))
                                obtain ⟨s1, s2, s3, s4⟩ := HST1.out
                                have hrb := HRBJ.out _ s1
                                obtain ⟨f0, f1, f2, f3⟩ := boxed hrb
                                have HST2 := Lib.hid (store_two (w := w) (p := .slice p8 (shTree names l).ps.length c8) (q := .slice n8 (shTree names l).ns.length d8) hrb (Nat.le_refl _) (HUWJ.out.trans s1))
                                have HP8 := Lib.hid hP8
                                have HN8 := Lib.hid hN8
                                have HLO := Lib.hid HGK.out.lo
                                have HRES := Lib.hid (res_zero HS0.out)
                                have HS4 := Lib.hid s4
                                clear hrb hP8 hN8 hu9 hte s1 s4
                                go_wp2_with fail
                                obtain ⟨r1, r2, r3, r4⟩ := HST2.out
                                refine ⟨rfl, .tuple #[.agg #[.slice p8 (shTree names l).ps.length c8, .slice n8 (shTree names l).ns.length d8], .int .i64 0], by simp [results, Tryz.results15, go_sem, r2, r3], r1, _, by rw [HRES.out], ?_⟩
                                have hlo := HLO.out
                                exact ⟨_, _, rfl, (IntsAt.keep HP8.out fun b hb _ => (r4 b (by omega)).trans (HS4.out b (by omega))).sub fun _ _ _ => trivial, (StrsAt.keep HN8.out fun b hb _ => (r4 b (by omega)).trans (HS4.out b (by omega))).sub fun _ _ _ => trivial⟩
                    · have z2 : decide ((1 : Int) < (names.length : Int)) = false := decide_eq_false (by omega)
                      have HDS : Hid (RowsOwn wi.heap.size 22 wj d (setsL names.length l)) := by rw [Hid, HSL.out, if_neg hn1]; exact hD.out
                      have HUJ := Lib.hid hU.out
                      clear hn1 hD hU HSL
                      go_loopw [11, 18] (fun d2 i wr => i = .int .i64 0 ∧ Hid (RowsOwn wi.heap.size 22 wr d2 (setsL names.length l)) ∧ Hid (Up wi wr)) (fun _ _ _ => 0)
                      case atStart => exact ⟨rfl, HDS, HUJ⟩
                      case round =>
                        clear HDS HUJ
                        obtain ⟨rfl, HDS, HUJ⟩ := hrel
                        obtain ⟨wj, rfl⟩ : ∃ wo : World, wo = wr := ⟨_, rfl⟩
                        obtain ⟨d, rfl⟩ : ∃ d : Value, d = u11 := ⟨_, rfl⟩
                        have HSO := Lib.hid HSH.out.sets
                        have hSL : (setsL names.length l).length ≤ 64 := sets_count HS0.out
                        have HTR := Lib.hid (set_tree HS0.out)
                        have HRSL : Hid (∀ k, k < (setsL names.length l).length → (gl (setsL names.length l) k).length ≤ 1000000) := fun k hk => by
                          rcases (mem_setsL HSH.out.pos).1 (gl_mem hk) with e | ⟨i, _, e, _⟩ | ⟨_, i, _, e⟩
                          · rw [e, allI_len]; exact hnn
                          · rw [← e]; exact HR.out i
                          · rw [e]; simp
                        have HNJ := Lib.hid (StrsAt.keep HN5.out (HUJ.out.kept S))
                        have HRBJ : Hid (∀ W, Up wj W → W.heap[w.heap.size]? = some (Obj.cells #[.slice none 0 0, .slice none 0 0] 25 (0, 0))) := fun W hW => HRB5.out W (HUJ.out.trans hW)
                        have HBJ : Hid (w.heap.size < wj.heap.size) := by have := HUJ.out.size; have := HB5.out; unfold Hid; omega
                        have HUWJ := Lib.hid (HUW.out.trans HUJ.out)
                        obtain ⟨up, uc, hdl⟩ := HDS.out.len
                        subst hdl
                        have HRWS := Lib.hid HDS.out.rows
                        clear HN5 HRB5 HB5 HUW HDS HUJ HL5
                        generalize setsL names.length l = S0 at *
                        go_wp2_with fail
                        have HG0 : Hid (GS wj.heap.size (wj.heap.size + 1) (wj.alloc (.cells #[.slice none 0 0, .slice none 0 0] 25)) (.slice none 0 0) (.slice none 0 0) (setK names S0 0)) := ⟨blk_alloc_new _ _, ⟨Owns.nil _ _ _, Owns.nil _ _ _, fun b hb => (by cases hb)⟩, by omega, by rw [World.size_alloc]; exact Nat.le_refl _⟩
                        have HUA : Hid (Up wj (wj.alloc (.cells #[.slice none 0 0, .slice none 0 0] 25))) := Up.alloc _ _
                        generalize wj.alloc (.cells #[.slice none 0 0, .slice none 0 0] 25) = w8 at *
                        have htb : wj.heap.size ≤ wj.heap.size := Nat.le_refl _
                        have hbt : w.heap.size < wj.heap.size := HBJ.out
                        obtain ⟨tb, htbe⟩ : ∃ tb, wj.heap.size = tb := ⟨_, rfl⟩
                        have htb : wj.heap.size ≤ tb := by omega
                        have hbt : w.heap.size < tb := by omega
                        rw [htbe] at HG0
                        rw [htbe]
                        clear htbe HBJ
                        generalize tb + 1 = B0 at *
                        go_loopw [20, 21, 22, 23] (fun i _ _ _ wr => ∃ k : Nat, k ≤ S0.length ∧ i = .int .i64 k ∧ Hid (∃ P N, GS tb B0 wr P N (setK names S0 k)) ∧ Hid (Up wj wr)) (fun i _ _ _ _ => S0.length - (intOf i).toNat)
                        case atStart => exact ⟨0, Nat.zero_le _, rfl, ⟨_, _, HG0.out⟩, HUA.out⟩
                        case round =>
                          obtain ⟨k, hk, rfl, hGe, hU8⟩ := hrel
                          obtain ⟨wk, rfl⟩ : ∃ wo : World, wo = wr := ⟨_, rfl⟩
                          by_cases hkt : k < S0.length
                          · have HKT := Lib.hid hkt
                            have k1 : (0 : Int) ≤ (k : Int) := by omega
                            have k2 : (k : Int) < (S0.length : Int) := by omega
                            have HPI : Hid (∀ m, parI S0 k (m + 1) = if comK (gl S0 k) (gl S0 m) (gl S0 k).length = (gl S0 k).length then (m : Int) else parI S0 k m) := fun _ => rfl
                            go_wp2_with fail
                            go_loopw [21, 23] (fun pv q wr => ∃ m : Nat, m ≤ k ∧ q = .int .i64 m ∧ pv = .int .i64 (parI S0 k m) ∧ Hid (QD wk wr)) (fun _ q _ => k - (intOf q).toNat)
                            case atStart => exact ⟨0, Nat.zero_le _, rfl, rfl, QD.refl _⟩
                            case round =>
                              obtain ⟨m, hm, rfl, rfl, hQ⟩ := hrel
                              obtain ⟨wm, rfl⟩ : ∃ wo : World, wo = wr := ⟨_, rfl⟩
                              have HUM := Lib.hid (hU8.out.trans hQ.out.up)
                              have HRWM : Hid (RowsAt Any wm (.slice up S0.length uc) S0) := RowsAt.keep HRWS.out (HUM.out.kept _)
                              obtain ⟨tb1, to1, tq, tc, rfl, ht1, hti⟩ := rows_get HRWM.out HKT.out
                              have hrl := HRSL.out k HKT.out
                              by_cases hmt : m < k
                              · obtain ⟨tq2, tc2, ht2, hti2⟩ := rows_get' HRWM.out (show m < S0.length by have := HKT.out; omega)
                                have m1 : (0 : Int) ≤ (m : Int) := by omega
                                have m2 : (m : Int) < (S0.length : Int) := by omega
                                have HCM := Lib.hid (fun q => quiet_on <| rcommon_t Any Any (wm.drewN q) _ _ _ _ (IntsAt.keep hti (kept_drewN _ wm q)) (IntsAt.keep hti2 (kept_drewN _ wm q)) hrl (HRSL.out m (by have := HKT.out; omega)))
                                have HPM := Lib.hid (HPI.out m)
                                clear hti hti2
                                by_cases e : comK (gl S0 k) (gl S0 m) (gl S0 k).length = (gl S0 k).length
                                · have d5 : ((comK (gl S0 k) (gl S0 m) (gl S0 k).length : Int) == ((gl S0 k).length : Int)) = true := by rw [e]; simp
                                  rw [if_pos e] at HPM
                                  clear e
                                  generalize comK (gl S0 k) (gl S0 m) (gl S0 k).length = cm at *
                                  generalize parI S0 k m = pm at *
                                  generalize gl S0 k = rk at *
                                  generalize gl S0 m = rm at *
                                  go_wp2_with fail
                                  go_big_quiet (with_reducible exact HCM.out _)
                                  go_wp2_with fail
                                  go_roundw
                                  case rel => exact ⟨m + 1, by omega, by go_num, by rw [HPM.out], hQ.out.drewN nq⟩
                                  case measure => simp [intOf]; omega
                                · have d5 : ((comK (gl S0 k) (gl S0 m) (gl S0 k).length : Int) == ((gl S0 k).length : Int)) = false := by
                                    rw [beq_eq_false_iff_ne]; omega
                                  rw [if_neg e] at HPM
                                  clear e
                                  generalize comK (gl S0 k) (gl S0 m) (gl S0 k).length = cm at *
                                  generalize parI S0 k m = pm at *
                                  generalize gl S0 k = rk at *
                                  generalize gl S0 m = rm at *
                                  go_wp2_with fail
                                  go_big_quiet (with_reducible exact HCM.out _)
                                  go_wp2_with fail
                                  go_roundw
                                  case rel => exact ⟨m + 1, by omega, by go_num, by rw [HPM.out], hQ.out.drewN nq⟩
                                  case measure => simp [intOf]; omega
                              · obtain rfl : m = k := by omega
                                clear hmt hm HPI
                                have HTI := Lib.hid hti
                                have HKS : Hid (0 < m + 1) := Nat.succ_pos m
                                go_upto_if 191 with fail
                                go_cut [22] from 159 to 212 (fun s22 wx => s22 = .string (nmI names (gl S0 m)) ∧ wx = wm)
                                case first =>
                                  by_cases h1 : (gl S0 m).length = 1
                                  · obtain ⟨b, hb, hbe, hbn⟩ := HSO.out.one HKT.out h1
                                    have d6 : (((gl S0 m).length : Int) == 1) = true := by rw [h1]; rfl
                                    obtain ⟨b1, o1, rfl, hx1⟩ := ints_get HTI.out (k := 0) (by omega)
                                    obtain ⟨b2, o2, rfl, hx2⟩ := strs_get (StrsAt.keep HNJ.out (HUM.out.kept S)) hb
                                    have hx1 : wm.cell? ⟨b1, o1, none⟩ = some (.int .i64 b) := by have := hx1; rw [hbe] at this; exact this
                                    have i1 : (0 : Int) < ((gl S0 m).length : Int) := by omega
                                    have i2 : (0 : Int) ≤ (b : Int) := by omega
                                    have i3 : (b : Int) < (names.length : Int) := by omega
                                    have HNI : Hid (nmI names (gl S0 m) = gs names b) := by rw [Hid, nmI, if_pos h1, hbe]; rfl
                                    clear hbe hbn h1
                                    go_wp2_with fail
                                    go_meet
                                    case rel => exact ⟨by rw [HNI.out], rfl⟩
                                  · have d6 : (((gl S0 m).length : Int) == 1) = false := by rw [beq_eq_false_iff_ne]; omega
                                    have HNI : Hid (nmI names (gl S0 m) = ByteArray.empty) := by rw [Hid, nmI, if_neg h1]
                                    clear h1
                                    go_wp2_with fail
                                    go_meet
                                    case rel => exact ⟨by rw [HNI.out]; rfl, rfl⟩
                                case rest =>
                                  obtain ⟨rfl, rfl⟩ := hcut
                                  have HSUC := Lib.hid (setK_succ (names := names) HKT.out)
                                  have HPL : Hid ((setK names S0 m).ps.length ≤ 1000000 ∧ (setK names S0 m).ns.length ≤ 1000000) := by
                                    have h1 := setK_len names S0 (Nat.le_of_lt HKT.out)
                                    have h2 := HKT.out
                                    exact ⟨by omega, by omega⟩
                                  obtain ⟨P, N, hGi⟩ := hGe.out
                                  have HGI := Lib.hid (hGi.up hQ.out.up)
                                  clear hGi hGe hQ HTI hU8 ht1
                                  generalize parI S0 m m = zp at *
                                  generalize nmI names (gl S0 m) = nm at *
                                  generalize setK names S0 m = ts at *
                                  go_wp2_with fail
                                  have hd := Up.drewN wc 1
                                  have HGS := Lib.hid HGI.out
                                  have HBX := Lib.hid HGI.out.box
                                  have HRd : Hid (RS tb B0 wc wc.drew P N P N ts.ps ts.ns) := (RS.start HGI.out.tl HGI.out.lo).up hd
                                  refine region_T (by kernel_rfl) 10 (fun w' => w'.cell? ⟨tb, 0, none⟩ = some P ∧ w'.cell? ⟨tb, 1, none⟩ = some N) (HRd.out.cells HBX.out) (fun hS => ?_)
                                  simp only [List.size_toArray, List.length_cons, List.length_nil, Nat.reduceAdd, Array.replicate_succ, Array.replicate_zero, List.push_toArray, List.nil_append, List.cons_append]
                                  generalize wc.drew = Wd at *
                                  refine anyT.take (i := 0) (v := ?gv0u) rfl (by kernel_rfl) (fun _ _ _ h => h) (by rfl) (fun w hSw => ?gy0u) hS ?gr0u
                                  case gy0u =>
                                    (try dsimp only at hSw)
                                    go_simp
                                    try with_reducible rfl
                                  try simp only [Act.put, List.setIfInBounds_toArray, List.set_cons_zero, List.set_cons_succ]
                                  refine anyT.take (i := 1) (v := ?gv1u) rfl (by kernel_rfl) (fun _ _ _ h => h) (by rfl) (fun w hSw => ?gy1u) hS ?gr1u
                                  case gy1u =>
                                    (try dsimp only at hSw)
                                    go_simp
                                    try with_reducible rfl
                                  try simp only [Act.put, List.setIfInBounds_toArray, List.set_cons_zero, List.set_cons_succ]
                                  refine anyT.take (i := 2) (v := ?gv2u) rfl (by kernel_rfl) (fun _ _ _ h => h) (by rfl) (fun w hSw => ?gy2u) hS ?gr2u
                                  case gy2u =>
                                    (try dsimp only at hSw)
                                    go_simp
                                    try with_reducible rfl
                                  try simp only [Act.put, List.setIfInBounds_toArray, List.set_cons_zero, List.set_cons_succ]
                                  refine anyT.take (i := 5) (v := ?gv5u) rfl (by kernel_rfl) (fun _ _ _ h => h) (by rfl) (fun w hSw => ?gy5u) hS ?gr5u
                                  case gy5u =>
                                    (try dsimp only at hSw)
                                    go_simp
                                    try with_reducible rfl
                                  try simp only [Act.put, List.setIfInBounds_toArray, List.set_cons_zero, List.set_cons_succ]
                                  refine anyT.take (i := 6) (v := ?gv6u) rfl (by kernel_rfl) (fun _ _ _ h => h) (by rfl) (fun w hSw => ?gy6u) hS ?gr6u
                                  case gy6u =>
                                    (try dsimp only at hSw)
                                    go_simp
                                    try with_reducible rfl
                                  try simp only [Act.put, List.setIfInBounds_toArray, List.set_cons_zero, List.set_cons_succ]
                                  refine anyT.take (i := 7) (v := ?gv7u) rfl (by kernel_rfl) (fun _ _ _ h => h) (by rfl) (fun w hSw => ?gy7u) hS ?gr7u
                                  case gy7u =>
                                    (try dsimp only at hSw)
                                    go_simp
                                    try with_reducible rfl
                                  try simp only [Act.put, List.setIfInBounds_toArray, List.set_cons_zero, List.set_cons_succ]
                                  refine anyT.step2 (i := 3) (i2 := 8) rfl rfl (by kernel_rfl) (fun K' hK => ?_) (fun K' hK => ?_)
                                  · go_simp
                                    have HRa : Hid (RS tb B0 _ (Wd.alloc (.cells #[.int .i64 zp] 3)) _ _ _ _ _ _) := HRd.out.up (Up.alloc _ _)
                                    refine hK.out _ _ (fun _ => HRa.out.cells HBX.out) (fun _ => ?_)
                                    try simp only [List.setIfInBounds_toArray, List.set_cons_zero, List.set_cons_succ]
                                    refine anyT.step2 (i := 4) (i2 := 8) rfl rfl (by kernel_rfl) (fun K' hK => ?_) (fun K' hK => ?_)
                                    · refine step_app1 (by rfl) _ _ _ (by rfl) B0 3 _ 8 Tryz.underlying22 Tryz.infoI (by rfl) (by decide) (by rfl) HRa.out.tl.pown (.int .i64 zp) Wd.heap.size (by rfl) (cell_at_new Wd #[.int .i64 zp] 3 0) (by rfl) (by rw [List.length_map]; exact HPL.out.1) (Nat.le_trans HRa.out.lo.2 HRa.out.gk.size) ?_
                                      intro g1 g1c We1 hog1 hgg1 hrg1 _
                                      have HRb : Hid (RS tb B0 _ We1 _ _ _ _ _ _) := HRa.out.appP hog1 hgg1 (hrg1.imp id (fun e => Nat.le_of_eq e.symm))
                                      refine hK.out _ _ (fun _ => HRb.out.cells HBX.out) (fun _ => ?_)
                                      try simp only [Act.put, List.setIfInBounds_toArray, List.set_cons_zero, List.set_cons_succ]
                                      refine anyT.free (i := 10) (v := ?gv10au) rfl (by kernel_rfl) (fun _ _ _ h => h) (by rfl) (fun w => ?gy10au) (fun _ => HRb.out.cells HBX.out) ?gr10au
                                      case gy10au =>
                                        go_simp
                                        try with_reducible rfl
                                      try simp only [Act.put, List.setIfInBounds_toArray, List.set_cons_zero, List.set_cons_succ]
                                      refine anyT.step (i := 8) rfl (by kernel_rfl) (fun K' hK => ?_)
                                      go_simp
                                      have HRc : Hid (RS tb B0 _ (We1.alloc (.cells #[.string nm] 9)) _ _ _ _ _ _) := HRb.out.up (Up.alloc _ _)
                                      refine hK.out _ _ (fun _ => HRc.out.cells HBX.out) (fun _ => ?_)
                                      try simp only [List.setIfInBounds_toArray, List.set_cons_zero, List.set_cons_succ]
                                      refine anyT.step (i := 9) rfl (by kernel_rfl) (fun K' hK => ?_)
                                      refine step_app1 (by rfl) _ _ _ (by rfl) B0 9 _ 16 Tryz.underlying23 Tryz.infoStr2 (by rfl) (by decide) (by rfl) HRc.out.tl.nown (.string nm) We1.heap.size (by rfl) (cell_at_new We1 #[.string nm] 9 0) (by rfl) (by rw [List.length_map]; exact HPL.out.2) (Nat.le_trans HRc.out.lo.2 HRc.out.gk.size) ?_
                                      intro g2 g2c We2 hog2 hgg2 hrg2 _
                                      have HRf : Hid (RS tb B0 _ We2 _ _ _ _ _ _) := HRc.out.appN hog2 hgg2 (hrg2.imp id (fun e => Nat.le_of_eq e.symm))
                                      refine hK.out _ _ (fun _ => HRf.out.cells HBX.out) (fun _ => ?_)
                                      try simp only [Act.put, List.setIfInBounds_toArray, List.set_cons_zero, List.set_cons_succ]
                                      obtain ⟨hbe, hbe1⟩ := HRf.out.cells HBX.out
                                      have hfe := HRf.out.frozen HBX.out 0
                                      have hfe1 := HRf.out.frozen HBX.out 1
                                      have HFIN := Lib.hid (HRf.out.store HGS.out)
                                      refine anyT.step (i := 11) rfl (by kernel_rfl) (fun K' hK => ?_)
                                      go_simp
                                      refine hK.out _ _ (not_more (by kernel_rfl)) (fun _ => ?_)
                                      try simp only [List.setIfInBounds_toArray, List.set_cons_zero, List.set_cons_succ]
                                      refine anyT.free (i := 12) (v := ?gv12au) rfl (by kernel_rfl) (fun _ _ _ h => h) (by rfl) (fun w => ?gy12au) (not_more (by kernel_rfl)) ?gr12au
                                      case gy12au =>
                                        go_simp
                                        try with_reducible rfl
                                      try simp only [Act.put, List.setIfInBounds_toArray, List.set_cons_zero, List.set_cons_succ]
                                      refine anyT.step (i := 13) rfl (by kernel_rfl) (fun K' hK => ?_)
                                      go_simp
                                      refine hK.out _ _ (not_more (by kernel_rfl)) (fun _ => ?_)
                                      refine anyT.done (by kernel_rfl) ?_
                                      go_wp2_with fail
                                      have hfin := HFIN.out
                                      simp only [List.length_map] at hfin
                                      have HN := Lib.hid hfin
                                      clear hfin HFIN
                                      go_roundw
                                      case rel => exact ⟨m + 1, HKT.out, by go_num, by unfold Hid; rw [HSUC.out]; exact ⟨_, _, HN.out.1⟩, GK.upw HUM.out HGS.out HN.out.2 htb⟩
                                      case measure => have := HKT.out; simp [intOf]; omega
                                    · go_simp
                                      have HRb : Hid (RS tb B0 _ ((Wd.alloc (.cells #[.int .i64 zp] 3)).alloc (.cells #[.string nm] 9)) _ _ _ _ _ _) := HRa.out.up (Up.alloc _ _)
                                      refine hK.out _ _ (fun _ => HRb.out.cells HBX.out) (fun _ => ?_)
                                      try simp only [List.setIfInBounds_toArray, List.set_cons_zero, List.set_cons_succ]
                                      have hcN := cell_at_new (Wd.alloc (.cells #[.int .i64 zp] 3)) #[.string nm] 9 0
                                      have hcP := (Up.alloc (Wd.alloc (.cells #[.int .i64 zp] 3)) (.cells #[.string nm] 9)).cell (cell_at_new Wd #[.int .i64 zp] 3 0)
                                      rw [World.size_alloc] at hcN
                                      refine anyT.step (i := 4) rfl (by kernel_rfl) (fun K' hK => ?_)
                                      refine step_app1 (by rfl) _ _ _ (by rfl) B0 3 _ 8 Tryz.underlying22 Tryz.infoI (by rfl) (by decide) (by rfl) HRb.out.tl.pown (.int .i64 zp) Wd.heap.size (by rfl) hcP (by rfl) (by rw [List.length_map]; exact HPL.out.1) (Nat.le_trans HRb.out.lo.2 HRb.out.gk.size) ?_
                                      intro g1 g1c We1 hog1 hgg1 hrg1 _
                                      have HRc : Hid (RS tb B0 _ We1 _ _ _ _ _ _) := HRb.out.appP hog1 hgg1 (hrg1.imp id (fun e => Nat.le_of_eq e.symm))
                                      have hcN1 : We1.cell? ⟨Wd.heap.size + 1, 0, none⟩ = some (.string nm) := by
                                        rw [hgg1.cell_far ⟨Wd.heap.size + 1, 0, none⟩ (by simp) (fun e => absurd (ownBlock_lt HRd.out.tl.pown e.symm).2 (by show ¬ (Wd.heap.size + 1 < Wd.heap.size); omega))]; exact hcN
                                      refine hK.out _ _ (fun _ => HRc.out.cells HBX.out) (fun _ => ?_)
                                      try simp only [Act.put, List.setIfInBounds_toArray, List.set_cons_zero, List.set_cons_succ]
                                      refine anyT.free (i := 10) (v := ?gv10bu) rfl (by kernel_rfl) (fun _ _ _ h => h) (by rfl) (fun w => ?gy10bu) (fun _ => HRc.out.cells HBX.out) ?gr10bu
                                      case gy10bu =>
                                        go_simp
                                        try with_reducible rfl
                                      try simp only [Act.put, List.setIfInBounds_toArray, List.set_cons_zero, List.set_cons_succ]
                                      refine anyT.step (i := 9) rfl (by kernel_rfl) (fun K' hK => ?_)
                                      refine step_app1 (by rfl) _ _ _ (by rfl) B0 9 _ 16 Tryz.underlying23 Tryz.infoStr2 (by rfl) (by decide) (by rfl) HRc.out.tl.nown (.string nm) (Wd.heap.size + 1) (by rfl) hcN1 (by rfl) (by rw [List.length_map]; exact HPL.out.2) (Nat.le_trans HRc.out.lo.2 HRc.out.gk.size) ?_
                                      intro g2 g2c We2 hog2 hgg2 hrg2 _
                                      have HRf : Hid (RS tb B0 _ We2 _ _ _ _ _ _) := HRc.out.appN hog2 hgg2 (hrg2.imp id (fun e => Nat.le_of_eq e.symm))
                                      refine hK.out _ _ (fun _ => HRf.out.cells HBX.out) (fun _ => ?_)
                                      try simp only [Act.put, List.setIfInBounds_toArray, List.set_cons_zero, List.set_cons_succ]
                                      obtain ⟨hbe, hbe1⟩ := HRf.out.cells HBX.out
                                      have hfe := HRf.out.frozen HBX.out 0
                                      have hfe1 := HRf.out.frozen HBX.out 1
                                      have HFIN := Lib.hid (HRf.out.store HGS.out)
                                      refine anyT.step (i := 11) rfl (by kernel_rfl) (fun K' hK => ?_)
                                      go_simp
                                      refine hK.out _ _ (not_more (by kernel_rfl)) (fun _ => ?_)
                                      try simp only [List.setIfInBounds_toArray, List.set_cons_zero, List.set_cons_succ]
                                      refine anyT.free (i := 12) (v := ?gv12bu) rfl (by kernel_rfl) (fun _ _ _ h => h) (by rfl) (fun w => ?gy12bu) (not_more (by kernel_rfl)) ?gr12bu
                                      case gy12bu =>
                                        go_simp
                                        try with_reducible rfl
                                      try simp only [Act.put, List.setIfInBounds_toArray, List.set_cons_zero, List.set_cons_succ]
                                      refine anyT.step (i := 13) rfl (by kernel_rfl) (fun K' hK => ?_)
                                      go_simp
                                      refine hK.out _ _ (not_more (by kernel_rfl)) (fun _ => ?_)
                                      refine anyT.done (by kernel_rfl) ?_
                                      go_wp2_with fail
                                      have hfin := HFIN.out
                                      simp only [List.length_map] at hfin
                                      have HN := Lib.hid hfin
                                      clear hfin HFIN
                                      go_roundw
                                      case rel => exact ⟨m + 1, HKT.out, by go_num, by unfold Hid; rw [HSUC.out]; exact ⟨_, _, HN.out.1⟩, GK.upw HUM.out HGS.out HN.out.2 htb⟩
                                      case measure => have := HKT.out; simp [intOf]; omega
                                  · go_simp
                                    have HRa : Hid (RS tb B0 _ (Wd.alloc (.cells #[.string nm] 9)) _ _ _ _ _ _) := HRd.out.up (Up.alloc _ _)
                                    refine hK.out _ _ (fun _ => HRa.out.cells HBX.out) (fun _ => ?_)
                                    try simp only [List.setIfInBounds_toArray, List.set_cons_zero, List.set_cons_succ]
                                    refine anyT.step (i := 3) rfl (by kernel_rfl) (fun K' hK => ?_)
                                    go_simp
                                    have HRb : Hid (RS tb B0 _ ((Wd.alloc (.cells #[.string nm] 9)).alloc (.cells #[.int .i64 zp] 3)) _ _ _ _ _ _) := HRa.out.up (Up.alloc _ _)
                                    refine hK.out _ _ (fun _ => HRb.out.cells HBX.out) (fun _ => ?_)
                                    try simp only [List.setIfInBounds_toArray, List.set_cons_zero, List.set_cons_succ]
                                    have hcP := cell_at_new (Wd.alloc (.cells #[.string nm] 9)) #[.int .i64 zp] 3 0
                                    have hcN := (Up.alloc (Wd.alloc (.cells #[.string nm] 9)) (.cells #[.int .i64 zp] 3)).cell (cell_at_new Wd #[.string nm] 9 0)
                                    rw [World.size_alloc] at hcP
                                    refine anyT.step (i := 4) rfl (by kernel_rfl) (fun K' hK => ?_)
                                    refine step_app1 (by rfl) _ _ _ (by rfl) B0 3 _ 8 Tryz.underlying22 Tryz.infoI (by rfl) (by decide) (by rfl) HRb.out.tl.pown (.int .i64 zp) (Wd.heap.size + 1) (by rfl) hcP (by rfl) (by rw [List.length_map]; exact HPL.out.1) (Nat.le_trans HRb.out.lo.2 HRb.out.gk.size) ?_
                                    intro g1 g1c We1 hog1 hgg1 hrg1 _
                                    have HRc : Hid (RS tb B0 _ We1 _ _ _ _ _ _) := HRb.out.appP hog1 hgg1 (hrg1.imp id (fun e => Nat.le_of_eq e.symm))
                                    have hcN1 : We1.cell? ⟨Wd.heap.size, 0, none⟩ = some (.string nm) := by
                                      rw [hgg1.cell_far ⟨Wd.heap.size, 0, none⟩ (by simp; omega) (fun e => absurd (ownBlock_lt HRd.out.tl.pown e.symm).2 (by show ¬ (Wd.heap.size < Wd.heap.size); omega))]; exact hcN
                                    refine hK.out _ _ (fun _ => HRc.out.cells HBX.out) (fun _ => ?_)
                                    try simp only [Act.put, List.setIfInBounds_toArray, List.set_cons_zero, List.set_cons_succ]
                                    refine anyT.free (i := 10) (v := ?gv10cu) rfl (by kernel_rfl) (fun _ _ _ h => h) (by rfl) (fun w => ?gy10cu) (fun _ => HRc.out.cells HBX.out) ?gr10cu
                                    case gy10cu =>
                                      go_simp
                                      try with_reducible rfl
                                    try simp only [Act.put, List.setIfInBounds_toArray, List.set_cons_zero, List.set_cons_succ]
                                    refine anyT.step (i := 9) rfl (by kernel_rfl) (fun K' hK => ?_)
                                    refine step_app1 (by rfl) _ _ _ (by rfl) B0 9 _ 16 Tryz.underlying23 Tryz.infoStr2 (by rfl) (by decide) (by rfl) HRc.out.tl.nown (.string nm) Wd.heap.size (by rfl) hcN1 (by rfl) (by rw [List.length_map]; exact HPL.out.2) (Nat.le_trans HRc.out.lo.2 HRc.out.gk.size) ?_
                                    intro g2 g2c We2 hog2 hgg2 hrg2 _
                                    have HRf : Hid (RS tb B0 _ We2 _ _ _ _ _ _) := HRc.out.appN hog2 hgg2 (hrg2.imp id (fun e => Nat.le_of_eq e.symm))
                                    refine hK.out _ _ (fun _ => HRf.out.cells HBX.out) (fun _ => ?_)
                                    try simp only [Act.put, List.setIfInBounds_toArray, List.set_cons_zero, List.set_cons_succ]
                                    obtain ⟨hbe, hbe1⟩ := HRf.out.cells HBX.out
                                    have hfe := HRf.out.frozen HBX.out 0
                                    have hfe1 := HRf.out.frozen HBX.out 1
                                    have HFIN := Lib.hid (HRf.out.store HGS.out)
                                    refine anyT.step (i := 11) rfl (by kernel_rfl) (fun K' hK => ?_)
                                    go_simp
                                    refine hK.out _ _ (not_more (by kernel_rfl)) (fun _ => ?_)
                                    try simp only [List.setIfInBounds_toArray, List.set_cons_zero, List.set_cons_succ]
                                    refine anyT.free (i := 12) (v := ?gv12cu) rfl (by kernel_rfl) (fun _ _ _ h => h) (by rfl) (fun w => ?gy12cu) (not_more (by kernel_rfl)) ?gr12cu
                                    case gy12cu =>
                                      go_simp
                                      try with_reducible rfl
                                    try simp only [Act.put, List.setIfInBounds_toArray, List.set_cons_zero, List.set_cons_succ]
                                    refine anyT.step (i := 13) rfl (by kernel_rfl) (fun K' hK => ?_)
                                    go_simp
                                    refine hK.out _ _ (not_more (by kernel_rfl)) (fun _ => ?_)
                                    refine anyT.done (by kernel_rfl) ?_
                                    go_wp2_with fail
                                    have hfin := HFIN.out
                                    simp only [List.length_map] at hfin
                                    have HN := Lib.hid hfin
                                    clear hfin HFIN
                                    go_roundw
                                    case rel => exact ⟨m + 1, HKT.out, by go_num, by unfold Hid; rw [HSUC.out]; exact ⟨_, _, HN.out.1⟩, GK.upw HUM.out HGS.out HN.out.2 htb⟩
                                    case measure => have := HKT.out; simp [intOf]; omega
                          · obtain rfl : k = S0.length := by omega
                            clear hkt hk
                            obtain ⟨P, N, hG⟩ := hGe.out
                            rw [setK_all] at hG
                            obtain ⟨pp, pc, rfl, _⟩ := hG.tl.pown.form (n := (setT names S0).ps.length) (by simp)
                            obtain ⟨pn, pm, rfl, _⟩ := hG.tl.nown.form (n := (setT names S0).ns.length) (by simp)
                            obtain ⟨tc0, tc1, _, _⟩ := hG.cells
                            have hT7 : TreeAt (fun b => B0 ≤ b) wk (.agg #[.slice pp (setT names S0).ps.length pc, .slice pn (setT names S0).ns.length pm]) (setT names S0) := ⟨_, _, rfl, hG.tl.pown.ints, hG.tl.nown.strs⟩
                            have HCN := Lib.hid (canonR_t _ wk _ _ hT7 (by rw [set_len]; omega) (by simp [setT]; omega) (nm_size HZ.out S0))
                            have HGK := Lib.hid hG
                            have HE : Hid (canR (setT names S0) = shTree names l) := by rw [Hid, canR_canT HTR.out.1, HTR.out.2]
                            clear hT7 hG hGe
                            go_wp2_with fail
                            refine HCN.out.mono ?_
                            rintro e w9 ⟨hu9, hcase⟩
                            rcases hcase with ⟨hte, rfl⟩ | ⟨hte, cv, rfl, P8, N8, rfl, hP8, hN8⟩
                            · exact absurd HTR.out.1 hte
                            · rw [HE.out] at hP8 hN8
                              obtain ⟨p8, c8, rfl, _, _⟩ := SlAt.open hP8
                              obtain ⟨n8, d8, rfl, _, _⟩ := SlAt.open hN8
                              have HGS9 := Lib.hid (HGK.out.up hu9)
                              obtain ⟨t0, t1, t2, t3⟩ := HGS9.out.cells
                              have HST1 := Lib.hid (store_two (w := wj) (p := .slice p8 (shTree names l).ps.length c8) (q := .slice n8 (shTree names l).ns.length d8) HGS9.out.box htb (hU8.out.trans hu9))
                              obtain ⟨s1, s2, s3, s4⟩ := HST1.out
                              have hrb := HRBJ.out _ s1
                              obtain ⟨f0, f1, f2, f3⟩ := boxed hrb
                              have HST2 := Lib.hid (store_two (w := w) (p := .slice p8 (shTree names l).ps.length c8) (q := .slice n8 (shTree names l).ns.length d8) hrb (Nat.le_refl _) (HUWJ.out.trans s1))
                              have HP8 := Lib.hid hP8
                              have HN8 := Lib.hid hN8
                              have HLO := Lib.hid HGK.out.lo
                              have HRES := Lib.hid (res_zero HS0.out)
                              have HS4 := Lib.hid s4
                              clear hrb hP8 hN8 hu9 hte s1 s4
                              go_wp2_with fail
                              obtain ⟨r1, r2, r3, r4⟩ := HST2.out
                              refine ⟨rfl, .tuple #[.agg #[.slice p8 (shTree names l).ps.length c8, .slice n8 (shTree names l).ns.length d8], .int .i64 0], by simp [results, Tryz.results15, go_sem, r2, r3], r1, _, by rw [HRES.out], ?_⟩
                              have hlo := HLO.out
                              exact ⟨_, _, rfl, (IntsAt.keep HP8.out fun b hb _ => (r4 b (by omega)).trans (HS4.out b (by omega))).sub fun _ _ _ => trivial, (StrsAt.keep HN8.out fun b hb _ => (r4 b (by omega)).trans (HS4.out b (by omega))).sub fun _ _ _ => trivial⟩
          · obtain ⟨q0, q1, q2, q3⟩ := boxed (HRB.out w4 HU4.out)
            have HST := Lib.hid (st_errR (c := 17) rfl (HU1.out.trans HU4.out) (HRB.out w4 HU4.out) (by rw [HSE4.out, if_pos e0]) (by decide))
            have e1 : 0 < (cfL l).length := List.length_pos_iff.2 e0
            have e2 : decide ((0 : Int) < ((cfL l).length : Int)) = true := by simp; omega
            have e3 : decide (0 < (cfL l).length) = true := by simp; omega
            clear e0 HSE4
            generalize (cfL l).length = cn at *
            go_wp2_with fail
            obtain ⟨s2, s3, hp⟩ := HST.out
            exact ⟨rfl, .tuple #[.agg #[.slice none 0 0, .slice none 0 0], .int .i64 17], by simp [results, Tryz.results15, go_sem, s2, s3], hp⟩
      · have HST := Lib.hid (st_errR (c := gcErr l) rfl (HU1.out.trans HU2.out) (HRB.out w2 HU2.out) (by rw [HSE2.out, if_pos g0]) g0)
        have g1 : (gcErr l != 0) = true := by simpa using g0
        clear g0
        generalize gcErr l = gc at *
        go_wp2_with fail
        obtain ⟨s2, s3, hp⟩ := HST.out
        exact ⟨rfl, .tuple #[.agg #[.slice none 0 0, .slice none 0 0], .int .i64 gc], by simp [results, Tryz.results15, go_sem, s2, s3], hp⟩
end Go.Proofs.YtgjcfkadioblfaaGreat
