/- The walk of sharederror.Consistent. -/
import Derived.Test.YtgjcfkadioblfaaGreatQ23
import Derived.Test.YtgjcfkadioblfaaGreatQ27
import Derived.Test.YtgjcfkadioblfaaGreatQ28
namespace Go.Proofs.YtgjcfkadioblfaaGreat
open Go.RowKit Go.Shelf Go.Deep
def ConPost (w : World) (t : Tre) (names : List ByteArray) (l : List Grp) (e : Ending) (w' : World) : Prop :=
  Up w w' ∧ ∃ v, e = .returned (.tuple #[v, .int .i64 (conErr t names l)]) ∧ IntsAt Any w' v (conL t names l)
theorem nil_intsA (W : World) : IntsAt Any W (.slice none 0 0) [] := ⟨none, 0, rfl, Nat.le_refl _, .inl rfl⟩
theorem con_err {t : Tre} {names : List ByteArray} {l : List Grp} {c : Int} (h : conErr t names l = c) (h0 : c ≠ 0) {w w' : World} (hu : Up w w') : ConPost w t names l (.returned (.tuple #[.slice none 0 0, .int .i64 c])) w' :=
  ⟨hu, _, by rw [h], by unfold conL; rw [if_pos (by rw [h]; exact h0)]; exact nil_intsA _⟩
theorem zero_int (W : World) : (zeroValue 3).run Tryz.prog W = .ok (.int .i64 0) W := by simp [Tryz.zeroValue3]
theorem names_sub {t : Tre} {names : List ByteArray} (h : (leavesL t.ns).length = names.length) (hall : ∀ j, j < names.length → csBad t names j = false) {q : Nat} (hq : q < t.ns.length) (hs : (gs t.ns q).size ≠ 0) : ((mpL names).lookup (gs t.ns q)).isSome = true := by
  have hm : (q : Int) ∈ leavesL t.ns := mem_leavesL.2 ⟨q, rfl, hq, hs⟩
  obtain ⟨j, hj, e⟩ := List.getElem_of_mem hm
  have h1 := hall j (by omega)
  have h2 : gi (leavesL t.ns) j = q := by simp [gi, hj, e]
  unfold csBad at h1
  rw [h2] at h1
  simp only [Bool.or_eq_false_iff, Bool.not_eq_false'] at h1
  exact h1.1
theorem names_num {t : Tre} {names : List ByteArray} (h : (leavesL t.ns).length = names.length) (hall : ∀ j, j < names.length → csBad t names j = false) (q : Nat) (hq : q < t.ns.length) (hs : (gs t.ns q).size ≠ 0) :
    (mpL names).lookup (gs t.ns q) = some (.int .i64 (nmIx names (gs t.ns q) : Nat)) ∧ nmIx names (gs t.ns q) < names.length := by
  obtain ⟨h1, h2, _⟩ := nmIx_at (names_sub h hall hq hs)
  exact ⟨h1, h2⟩
theorem con_tail {t : Tre} {names : List ByteArray} {l : List Grp} (h0 : treeErr t = 0) (h : (leavesL t.ns).length = names.length) (hall : ∀ j, j < names.length → csBad t names j = false) : conErr t names l = if gcErr l ≠ 0 then gcErr l else if farB l names.length then 2 else 0 := by
  have h1 : ¬ ((List.range (leavesL t.ns).length).any (csBad t names)) = true := by
    intro e
    obtain ⟨j, hj, e⟩ := List.any_eq_true.1 e
    rw [hall j (by have := List.mem_range.1 hj; omega)] at e; cases e
  unfold conErr
  rw [if_neg (by simp [h0]), if_neg (by simp [h]), if_neg h1]
theorem len_smap {W : World} {b : Nat} {l : List (ByteArray × Value)} (h : SMap W b l) (ty : TypeId) : (Builtin.len_ #[88] ty #[.map (some b)]).run Tryz.prog W = .ok (goInt l.length) W := by
  obtain ⟨es, clock, hb, hl⟩ := h
  have h1 := run_len_map (P := Tryz.prog) W 88 ty b es clock (by simp [Program.mapKeyOf, Program.mapElemOf, Tryz.underlying88]) hb
  have h2 : es.size = l.length := by have := congrArg List.length hl; simpa using this
  rw [h1, h2]
theorem parT_ok {t : Tre} (h : treeErr t = 0) {n : Nat} (hn : n < t.ps.length) : (n = 0 → gi t.ps n = -1) ∧ (0 < n → 0 ≤ gi t.ps n ∧ gi t.ps n < n) := by
  obtain ⟨_, _, _, hok, _⟩ := treeErr_zero h
  refine ⟨fun e => ?_, fun e => pOkB_par hok hn e⟩
  have h1 := pOkB_at hok hn
  unfold okp at h1
  rw [if_pos e] at h1
  simpa using h1
theorem wrap_pow64 {n : Nat} (h : n < 64) : IntKind.u64.wrap ((2 : Int) ^ n) = ((2 ^ n : Nat) : Int) := by
  have h1 : 2 ^ n < 2 ^ 64 := Nat.pow_lt_pow_right (by decide) h
  rw [IntKind.wrap_u64, show ((2 : Int) ^ n) = ((2 ^ n : Nat) : Int) by simp]
  generalize 2 ^ n = z at h1 ⊢
  omega
theorem pow_u64 {n : Nat} (h : n < 64) : U64 (2 ^ n) := by
  have h1 : 2 ^ n < 2 ^ 64 := Nat.pow_lt_pow_right (by decide) h
  exact h1
/-- The array of sets, in block B. -/
structure OwW (w0 wr : World) (B n : Nat) (o : List Nat) : Prop where
  up : Up w0 wr
  row : wr.rowIs B 75 n (fun j => .int .u64 (gn o j))
  lo : w0.heap.size ≤ B
theorem gn_zeros (n j : Nat) : gn (List.replicate n 0) j = 0 := by
  unfold gn
  by_cases h : j < n
  · simp [h]
  · simp [h]
theorem u64_zero : U64 0 := by unfold U64; omega
theorem gn_set {o : List Nat} {q x : Nat} (hq : q < o.length) (j : Nat) : gn (o.set q x) j = if j = q then x else gn o j := by
  unfold gn
  rw [List.getD_eq_getElem?_getD, List.getElem?_set, List.getD_eq_getElem?_getD]
  by_cases e : j = q
  · subst e; rw [if_pos rfl, if_pos hq, if_pos rfl]; rfl
  · rw [if_neg (fun h => e h.symm), if_neg e]
theorem OwW.start (w0 : World) (n : Nat) : OwW w0 (w0.alloc (.cells (madeCells #[.int .u64 0] n) 75)) w0.heap.size n (List.replicate n 0) :=
  ⟨Up.alloc _ _, (World.rowIs_made w0 _ n _).congr fun i _ => by simp [gn_zeros], Nat.le_refl _⟩
theorem OwW.set {w0 wr : World} {B n q x : Nat} {o : List Nat} (h : OwW w0 wr B n o) (hq : q < o.length) : OwW w0 (wr.setCell ⟨B, q, none⟩ (.int .u64 x)) B n (o.set q x) :=
  ⟨Below.setCell (p := ⟨B, q, none⟩) h.up h.lo _, (h.row.set q _).congr fun i _ => by
    rw [gn_set hq]
    by_cases e : i = q
    · simp [e]
    · simp [e], h.lo⟩
theorem OwW.drewN {w0 wr : World} {B n : Nat} {o : List Nat} (h : OwW w0 wr B n o) (m : Nat) : OwW w0 (wr.drewN m) B n o :=
  ⟨h.up.trans (Up.drewN _ _), h.row, h.lo⟩
set_option maxRecDepth 100000 in
set_option maxHeartbeats 4000000 in
theorem consist_t (S : Nat → Prop) (w : World) (v vn vl : Value) (t : Tre) (names : List ByteArray) (l : List Grp) (hT : TreeAt S w v t) (hN : StrsAt S w vn names) (hL : GrpsAt S w vl l)
    (hp : t.ps.length ≤ 1000000) (hn : t.ns.length ≤ 1000000) (hz : ∀ k, (gs t.ns k).size ≤ 70000) (hnn : names.length ≤ 1000000) (hln : l.length ≤ 1000000) (hr : ∀ k, (gg l k).src.length ≤ 1000000) :
    Calls Tryz.prog 16 #[v, vn, vl] w (ConPost w t names l) := by
  obtain ⟨np, nc, rfl, _, _⟩ := SlAt.open hN
  have hN : StrsAt S w (.slice np names.length nc) names := hN
  obtain ⟨lp, lc, rfl, _⟩ := grps_open hL
  obtain ⟨P, N, rfl, hP, hNS⟩ := hT
  obtain ⟨pp, pc, rfl, _, _⟩ := SlAt.open hP
  obtain ⟨sp, sc, rfl, _, _⟩ := SlAt.open hNS
  have hP : IntsAt S w (.slice pp t.ps.length pc) t.ps := hP
  have hNS : StrsAt S w (.slice sp t.ns.length sc) t.ns := hNS
  have hal := Up.alloc w (.cells #[.slice pp t.ps.length pc, .slice sp t.ns.length sc] 25)
  have b0 := box2_0 w (.slice pp t.ps.length pc) (.slice sp t.ns.length sc) 25
  have b1 := box2_1 w (.slice pp t.ps.length pc) (.slice sp t.ns.length sc) 25
  have HB0 := Lib.hid b0
  have HB1 := Lib.hid b1
  have HU := Lib.hid hal
  have HP := Lib.hid (IntsAt.keep hP (hal.kept S))
  have HS := Lib.hid (StrsAt.keep hNS (hal.kept S))
  have HN := Lib.hid (StrsAt.keep hN (hal.kept S))
  have HG := Lib.hid (hL.keep (hal.kept S))
  have HLV := Lib.hid (leaves_t S _ (.agg #[.slice pp t.ps.length pc, .slice sp t.ns.length sc]) t ⟨_, _, rfl, HP.out, HS.out⟩ hp hn hz)
  clear hal hP hNS hN hL
  by_cases h1 : treeErr t = 0
  · obtain ⟨_, hp64, hnl, _, _⟩ := treeErr_zero h1
    have HT1 := Lib.hid h1
    have hll : (leavesL t.ns).length ≤ 64 := by have := leavesL_len t.ns; omega
    have HNL := Lib.hid hnl
    clear hnl
    by_cases h2 : (leavesL t.ns).length = names.length
    · have d2 : (((leavesL t.ns).length : Int) != (names.length : Int)) = false := by simp [h2]
      have hn64 : names.length ≤ 64 := by omega
      clear h1
      go_enter Tryz.func16, Tryz.ntmps16
      go_wp2_with fail
      generalize w.alloc (.cells #[.slice pp t.ps.length pc, .slice sp t.ns.length sc] 25) = w1 at *
      refine HLV.out.mono ?_
      rintro e w2 ⟨hu2, hcc⟩
      rcases hcc with ⟨hbad, _⟩ | ⟨_, cv, rfl, ht5⟩
      · exact absurd HT1.out hbad
      obtain ⟨vp, vc, rfl, _, _⟩ := SlAt.open ht5
      have hu2 : Up w1 w2 := hu2
      have HI2 : Hid (IntsAt Any w2 (.slice vp (leavesL t.ns).length vc) (leavesL t.ns)) := IntsAt.sub ht5 fun _ _ _ => trivial
      have HU2 := Lib.hid (HU.out.trans hu2)
      have HP2 := Lib.hid (IntsAt.keep HP.out (hu2.kept S))
      have HS2 := Lib.hid (StrsAt.keep HS.out (hu2.kept S))
      have HN2 := Lib.hid (StrsAt.keep HN.out (hu2.kept S))
      have HG2 := Lib.hid (HG.out.keep (hu2.kept S))
      have HB02 := Lib.hid (hu2.cell HB0.out)
      have HB12 := Lib.hid (hu2.cell HB1.out)
      clear ht5 hu2 HP HS HN HG HB0 HB1 HLV b0 b1
      have hmm := fun W => run_makeMap (P := Tryz.prog) 88 W
      go_wp2_with fail
      have H2 := Lib.hid h2
      rw [h2] at HI2
      clear d2 h2
      go_loopw [11, 12, 39] (fun _ _ i wr => ∃ k : Nat, k ≤ names.length ∧ i = .int .i64 k ∧ Hid (SMap wr w2.heap.size (mpK names k)) ∧ Hid (Up w2 wr)) (fun _ _ i _ => names.length - (intOf i).toNat)
      case atStart => exact ⟨0, Nat.zero_le _, rfl, SMap.made w2, Up.alloc _ _⟩
      case round =>
        obtain ⟨k, hk, rfl, hM, hUr⟩ := hrel
        obtain ⟨wo, rfl⟩ : ∃ wo : World, wo = wr := ⟨_, rfl⟩
        by_cases hlt : k < names.length
        · obtain ⟨b, off, rfl, hcell⟩ := strs_get (StrsAt.keep HN2.out (hUr.out.kept _)) hlt
          have i1 : (0 : Int) ≤ (k : Int) := by omega
          have i2 : (k : Int) < (names.length : Int) := by omega
          have HMS : Hid (mpK names (k + 1) = putS (mpK names k) (gs names k) (.int .i64 k)) := rfl
          generalize gs names k = s at *
          obtain ⟨w5, hrun, hm5, hs5, ho5, ht5, hou5, hb5⟩ := run_sset (P := Tryz.prog) Tryz.underlying88 Tryz.underlying9 hM.out (mpK_uniq names k) s (.int .i64 k)
          have HM5 : Hid (SMap w5 w2.heap.size (mpK names (k + 1))) := by unfold Hid; rw [HMS.out]; exact hm5
          have HU5 : Hid (Up w2 w5) := ⟨ho5.trans hUr.out.os, ht5.trans hUr.out.tape, hou5.trans hUr.out.output, by rw [hs5]; exact hUr.out.size, fun b hb => (hb5 b (by omega)).trans (hUr.out.block b hb)⟩
          clear hm5 hs5 ho5 ht5 hou5 hb5 hM hUr
          go_wp2_with fail
          go_roundw
          case rel => exact ⟨k + 1, by omega, by go_num, HM5, HU5⟩
          case measure => simp [intOf]; omega
        · obtain rfl : k = names.length := by omega
          have HM : Hid (SMap wo w2.heap.size (mpL names)) := hM.out
          have HUO := Lib.hid hUr.out
          have HLEN : Hid (∀ ty, (Builtin.len_ #[88] ty #[.map (some w2.heap.size)]).run Tryz.prog wo = .ok (goInt (mpL names).length) wo) := len_smap HM.out
          have HLK : Hid (∀ s, (Instr.lookup 88 (.map (some w2.heap.size)) (.string s) true).run Tryz.prog wo = .ok (.tuple #[((mpL names).lookup s).getD (.int .i64 0), .bool ((mpL names).lookup s).isSome]) wo) := fun s => run_slook2 (P := Tryz.prog) Tryz.underlying88 Tryz.underlying9 (zero_int _) HM.out s
          have hm64 : (mpL names).length ≤ 64 := Nat.le_trans (mpK_len names _) hn64
          have HM64 := Lib.hid hm64
          clear hM hUr hlt hk hmm hm64
          go_wp2_with fail
          go_loop [14, 15, 16, 50] (fun _ _ _ i => ∃ k : Nat, k ≤ names.length ∧ i = .int .i64 k ∧ Hid (∀ j, j < k → csBad t names j = false)) (fun _ _ _ i => names.length - (intOf i).toNat)
          case atStart => exact ⟨0, Nat.zero_le _, rfl, fun j hj => absurd hj (Nat.not_lt_zero _)⟩
          case round =>
            obtain ⟨k, hk, rfl, hD⟩ := hrel
            have hB1 := HUO.out.cell HB12.out
            by_cases hlt : k < names.length
            · obtain ⟨b, off, rfl, hcell⟩ := ints_get (IntsAt.keep HI2.out (HUO.out.kept _)) (k := k) (by rw [H2.out]; exact hlt)
              obtain ⟨q, hq, hql, hqs⟩ := mem_leavesL.1 (show gi (leavesL t.ns) k ∈ leavesL t.ns by simp [gi, show k < (leavesL t.ns).length by rw [H2.out]; exact hlt])
              obtain ⟨b2, off2, rfl, hcell2⟩ := strs_get (StrsAt.keep HS2.out (HUO.out.kept _)) hql
              have hlk := HLK.out (gs t.ns q)
              have HB : Hid (csBad t names k = (!((mpL names).lookup (gs t.ns q)).isSome || decide ((mpL names).length ≠ names.length))) := by unfold Hid csBad; rw [hq]; rfl
              rw [hq] at hcell
              have i1 : (0 : Int) ≤ (k : Int) := by omega
              have i2 : (k : Int) < (names.length : Int) := by omega
              have i3 : (0 : Int) ≤ (q : Int) := by omega
              have i4 : (q : Int) < (t.ns.length : Int) := by omega
              have HLT := Lib.hid hlt
              clear hq hql hqs hk
              generalize gs t.ns q = s at *
              cases hsome : ((mpL names).lookup s).isSome
              · rw [hsome] at hlk HB
                have HE : Hid (conErr t names l = 9) := by
                  have h1 : ((List.range (leavesL t.ns).length).any (csBad t names)) = true := List.any_eq_true.2 ⟨k, List.mem_range.2 (by rw [H2.out]; exact HLT.out), by rw [HB.out]; rfl⟩
                  unfold Hid conErr
                  rw [if_neg (by rw [HT1.out]; simp), if_neg (by rw [H2.out]; simp), if_pos h1]
                clear hsome
                generalize ((mpL names).lookup s).getD (.int .i64 0) = z at *
                go_wp2_with fail
                go_ret2
                exact con_err HE.out (by decide) (HU2.out.trans HUO.out)
              · rw [hsome] at hlk HB
                have hlen := HLEN.out
                clear hsome
                generalize ((mpL names).lookup s).getD (.int .i64 0) = z at *
                by_cases hl : (mpL names).length = names.length
                · have d1 : (((mpL names).length : Int) != (names.length : Int)) = false := by simp [hl]
                  have HBF : Hid (csBad t names k = false) := by unfold Hid; rw [HB.out]; simp [hl]
                  clear hl
                  go_wp2_with fail
                  go_round
                  case rel => exact ⟨k + 1, HLT.out, by have := HLT.out; go_num, fun j hj => if e : j = k then by rw [e]; exact HBF.out else hD.out j (by omega)⟩
                  case measure => have := HLT.out; simp [intOf]; omega
                · have d1 : (((mpL names).length : Int) != (names.length : Int)) = true := by simp; omega
                  have HE : Hid (conErr t names l = 9) := by
                    have h1 : ((List.range (leavesL t.ns).length).any (csBad t names)) = true := List.any_eq_true.2 ⟨k, List.mem_range.2 (by rw [H2.out]; exact HLT.out), by rw [HB.out]; simp [hl]⟩
                    unfold Hid conErr
                    rw [if_neg (by rw [HT1.out]; simp), if_neg (by rw [H2.out]; simp), if_pos h1]
                  clear hl
                  go_wp2_with fail
                  go_ret2
                  exact con_err HE.out (by decide) (HU2.out.trans HUO.out)
            · obtain rfl : k = names.length := by omega
              have hall : ∀ j, j < names.length → csBad t names j = false := hD.out
              have HALL := Lib.hid hall
              have HNUM := Lib.hid (names_num H2.out hall)
              have HCE := Lib.hid (con_tail (l := l) HT1.out H2.out hall)
              have HGC := Lib.hid (gcheck_t S wo _ l (HG2.out.keep (HUO.out.kept _)) hln hr)
              have HPO := Lib.hid (IntsAt.keep HP2.out (HUO.out.kept _))
              have HSO := Lib.hid (StrsAt.keep HS2.out (HUO.out.kept _))
              have HGO := Lib.hid (HG2.out.keep (HUO.out.kept S))
              have HB0O := Lib.hid (HUO.out.cell HB02.out)
              have HB1O := Lib.hid (HUO.out.cell HB12.out)
              have HUWO := Lib.hid (HU2.out.trans HUO.out)
              have HLK1 : Hid (∀ W s, W.heap[w2.heap.size]? = wo.heap[w2.heap.size]? → (Instr.lookup 88 (.map (some w2.heap.size)) (.string s) false).run Tryz.prog W = .ok (((mpL names).lookup s).getD (.int .i64 0)) W) := fun W s h => run_slook (P := Tryz.prog) Tryz.underlying88 Tryz.underlying9 (zero_int _) (HM.out.same h) s
              have HML : Hid (w2.heap.size < wo.heap.size) := HM.out.lt
              clear hD hlt hk hall hB1 HLK HLEN HM64 HUO HI2 HP2 HS2 HG2 HB02 HB12 HU2 HM
              by_cases hgc : gcErr l = 0
              · rw [hgc] at HGC HCE
                have HG0 := Lib.hid hgc
                obtain ⟨hgl, hgr⟩ := gcErr_zero hgc
                have hs0 : ∀ k, k < l.length → 0 < (gg l k).src.length := fun k hk => (srcOk_small (hgr k hk).2.2.2).2.1
                have HFA := Lib.hid fun W (h : Up wo W) => far_t S W _ l names.length (HGO.out.keep (h.kept _)) hln hs0 hr
                clear hgc hgr
                by_cases hfa : farB l names.length = true
                · rw [hfa] at HFA
                  have HE : Hid (conErr t names l = 2) := by unfold Hid; rw [HCE.out, hfa]; rfl
                  clear hfa
                  go_wp2_with fail
                  refine HGC.out.mono ?_
                  rintro e w3 ⟨rfl, hu3⟩
                  have HU3 := Lib.hid hu3
                  clear hu3
                  go_wp2_with fail
                  refine (HFA.out _ HU3.out).mono ?_
                  rintro e w4 ⟨rfl, hu4⟩
                  have HU4 := Lib.hid hu4
                  clear hu4
                  go_wp2_with fail
                  go_ret2
                  exact con_err HE.out (by decide) (HUWO.out.trans (HU3.out.trans HU4.out))
                · have hfb : farB l names.length = false := by simpa using hfa
                  rw [hfb] at HFA
                  have HE : Hid (conErr t names l = 0) := by unfold Hid; rw [HCE.out, hfb]; rfl
                  clear hfa hfb
                  have hmk := fun W => run_make_row' (P := Tryz.prog) 81 75 (.int .u64 0) 8 Tryz.underlying81 Tryz.infoSet rfl .i64 .i64 t.ps.length (by omega) (by omega) W
                  go_wp2_with fail
                  refine HGC.out.mono ?_
                  rintro e w3 ⟨rfl, hu3⟩
                  have HU3 := Lib.hid hu3
                  clear hu3
                  go_wp2_with fail
                  refine (HFA.out _ HU3.out).mono ?_
                  rintro e w4 ⟨rfl, hu4⟩
                  have HU4 := Lib.hid (HU3.out.trans hu4)
                  have hb0 := HU4.out.cell HB0O.out
                  have hb1 := HU4.out.cell HB1O.out
                  clear hu4
                  have hal := Up.alloc w4 (.cells (madeCells #[.int .u64 0] t.ps.length) 75)
                  have hb05 := hal.cell hb0
                  have HOW := Lib.hid (OwW.start w4 t.ps.length)
                  have HU5 := Lib.hid (HU4.out.trans hal)
                  clear hal
                  go_wp2_with fail
                  clear hb0 hb1 hb05 hmk
                  have hm5 := HU5.out.size
                  generalize hB : w4.heap.size = B at *
                  generalize w4.alloc (.cells (madeCells #[.int .u64 0] t.ps.length) 75) = w5 at *
                  have HBW : Hid (wo.heap.size ≤ B) := by have := HU4.out.size; unfold Hid; omega
                  go_loopw [19, 20] (fun i _ wr => ∃ (k : Nat) (o : List Nat), k ≤ t.ps.length ∧ i = .int .i64 ((k : Int) - 1) ∧ Hid (OwW w4 wr B t.ps.length o) ∧ Hid (ownD t (nmIx names) k o = ownF t names ∧ o.length = t.ps.length ∧ ∀ j, U64 (gn o j))) (fun i _ _ => ((intOf i) + 1).toNat)
                  case atStart => exact ⟨t.ps.length, _, Nat.le_refl _, by go_num, HOW.out, rfl, List.length_replicate, fun j => by rw [gn_zeros]; exact u64_zero⟩
                  case round =>
                    obtain ⟨k, o, hk, rfl, hW, hO⟩ := hrel
                    obtain ⟨wr0, rfl⟩ : ∃ wo : World, wo = wr := ⟨_, rfl⟩
                    have hup := hW.out.up
                    by_cases hk0 : 0 < k
                    · obtain ⟨n, rfl⟩ : ∃ n, k = n + 1 := ⟨k - 1, by omega⟩
                      have hkk : ((n + 1 : Nat) : Int) - 1 = (n : Int) := by omega
                      rw [hkk]
                      clear hkk hk0
                      have hnl : n < t.ps.length := by omega
                      have hnn2 : n < t.ns.length := by rw [HNL.out]; exact hnl
                      have HUR := Lib.hid (HU4.out.trans hup)
                      obtain ⟨pb, po, rfl, hpc0⟩ := ints_get HPO.out hnl
                      obtain ⟨sb, so, rfl, hsc0⟩ := strs_get HSO.out hnn2
                      have hpc := HUR.out.cell hpc0
                      have hsc := HUR.out.cell hsc0
                      have HPC0 := Lib.hid hpc0
                      clear hpc0 hsc0
                      have hc0 := HUR.out.cell HB0O.out
                      have hc1 := HUR.out.cell HB1O.out
                      have HPAR := Lib.hid (parT_ok HT1.out hnl)
                      have HNU : Hid ((gs t.ns n).size ≠ 0 → (mpL names).lookup (gs t.ns n) = some (.int .i64 (nmIx names (gs t.ns n) : Nat)) ∧ nmIx names (gs t.ns n) < names.length) := HNUM.out n hnn2
                      have HNIL := Lib.hid (toList_nil (gs t.ns n))
                      have HLKS : Hid (∀ m, (Instr.lookup 88 (.map (some w2.heap.size)) (.string (gs t.ns n)) false).run Tryz.prog (wr0.drewN m) = .ok (((mpL names).lookup (gs t.ns n)).getD (.int .i64 0)) (wr0.drewN m)) := fun m => HLK1.out _ _ ((HUR.out.trans (Up.drewN _ m)).block _ HML.out)
                      have HSTEP : Hid (ownStep t (nmIx names) n o = if 0 ≤ gi t.ps n then
    (if (gs t.ns n).size ≠ 0 then o.set n (gn o n ||| 2 ^ (nmIx names) (gs t.ns n)) else o).set (gi t.ps n).toNat
      (gn (if (gs t.ns n).size ≠ 0 then o.set n (gn o n ||| 2 ^ (nmIx names) (gs t.ns n)) else o) (gi t.ps n).toNat ||| gn (if (gs t.ns n).size ≠ 0 then o.set n (gn o n ||| 2 ^ (nmIx names) (gs t.ns n)) else o) n)
  else if (gs t.ns n).size ≠ 0 then o.set n (gn o n ||| 2 ^ (nmIx names) (gs t.ns n)) else o) := rfl
                      have HOD : Hid (ownD t (nmIx names) n (ownStep t (nmIx names) n o) = ownF t names) := hO.out.1
                      have HON : Hid (ownStep t (nmIx names) n o = ownStep t (nmIx names) n o) := rfl
                      have hol : o.length = t.ps.length := hO.out.2.1
                      have HOU := Lib.hid hO.out.2.2
                      have hcn := hW.out.row.cell hnl
                      have hfn := hW.out.row.frozen n
                      have HWW := Lib.hid hW.out
                      have HNL2 := Lib.hid hnl
                      have HOL := Lib.hid hol
                      have i1 : (0 : Int) ≤ (n : Int) := by omega
                      have i2 : (n : Int) < (t.ps.length : Int) := by omega
                      have i3 : (n : Int) < (t.ns.length : Int) := by omega
                      have i4 : (n : Int) < 64 := by omega
                      clear hup hk hW hO hol HON
                      generalize gs t.ns n = s at *
                      generalize nmIx names s = num at *
                      generalize gi t.ps n = p at *
                      by_cases hs0 : s.size = 0
                      · have hs1 : s.toList = [] := HNIL.out.2 hs0
                        have HS0 := Lib.hid hs0
                        have HW1 := HWW
                        have HOL1 := HOL
                        have HOU1 := HOU
                        clear hs0
                        have HUW : Hid (Up wo (wr0)) := HU4.out.trans HW1.out.up
                        have hc0w := HUW.out.cell HB0O.out
                        have hpcw := HUW.out.cell HPC0.out
                        by_cases hn0 : n = 0
                        · have hp1 := HPAR.out.1 hn0
                          have HND : Hid (ownD t (nmIx names) n (o) = ownF t names) := by
                            have h1 := HSTEP.out
                            rw [hp1, if_neg (by omega), if_neg (Classical.not_not.2 HS0.out)] at h1
                            unfold Hid; rw [← h1]; exact HOD.out
                          have d7 : decide ((0 : Int) ≤ p) = false := by rw [hp1]; decide
                          have d8 : ¬ (0 : Int) ≤ p := by omega
                          clear hn0
                          go_wp2_with fail
                          go_roundw
                          case rel => exact ⟨n, _, by have := HNL2.out; omega, by go_num, HW1.out, HND.out, HOL1.out, HOU1.out⟩
                          case measure => simp [intOf]
                        · obtain ⟨hp1, hp2⟩ := HPAR.out.2 (by omega)
                          obtain ⟨q, rfl⟩ : ∃ q : Nat, p = q := ⟨p.toNat, by omega⟩
                          have hqn : q < t.ps.length := by have := HNL2.out; omega
                          obtain ⟨x2, hx2⟩ : ∃ x2, x2 = gn (o) q ||| gn (o) n := ⟨_, rfl⟩
                          have HND : Hid (ownD t (nmIx names) n ((o).set q x2) = ownF t names) := by
                            have h1 := HSTEP.out
                            rw [if_pos (by omega), if_neg (Classical.not_not.2 HS0.out)] at h1
                            unfold Hid; rw [hx2]; rw [show ((q : Nat) : Int).toNat = q by omega] at h1; rw [← h1]; exact HOD.out
                          have hX2 : bits BinOp.or IntKind.u64 ((gn (o) q : Nat) : Int) ((gn (o) n : Nat) : Int) = ((x2 : Nat) : Int) := by rw [hx2]; exact u64_or_nat _ _ (HOU1.out q) (HOU1.out n)
                          have HU2x : Hid (∀ j, U64 (gn ((o).set q x2) j)) := fun j => by
                            rw [gn_set (by rw [HOL1.out]; exact hqn)]
                            split
                            · rw [hx2]; exact Nat.or_lt_two_pow (n := 64) (HOU1.out q) (HOU1.out n)
                            · exact HOU1.out j
                          have HW2 : Hid (∀ m, OwW w4 (((wr0).drewN m).setCell ⟨B, q, none⟩ (.int .u64 x2)) B t.ps.length ((o).set q x2)) := fun m => (HW1.out.drewN m).set (by rw [HOL1.out]; exact hqn)
                          have HOL2 : Hid (((o).set q x2).length = t.ps.length) := by unfold Hid; rw [List.length_set]; exact HOL1.out
                          have hqc := HW1.out.row.cell hqn
                          have hqf := HW1.out.row.frozen q
                          have hnc := HW1.out.row.cell HNL2.out
                          have k1 : (0 : Int) ≤ (q : Int) := by omega
                          have k2 : (q : Int) < (t.ps.length : Int) := by omega
                          clear hn0 hx2 hcn hfn
                          go_wp2_with fail
                          refine region_tail_p 10 (by kernel_rfl) (by kernel_rfl) ?_
                          simp only [List.take_succ_cons, List.take_zero, List.drop_succ_cons, List.drop_zero]
                          repeat (go_big_quiet_step (fail))
                          refine wpQuiet_nil ?_
                          intro _ hw'
                          obtain ⟨nq2, hw''⟩ := hw'
                          subst hw''
                          have hqc2 : ((wr0).drewN nq2).cell? ⟨B, q, none⟩ = _ := hqc
                          have hqf2 : ((wr0).drewN nq2).frozen? ⟨B, q, none⟩ = false := hqf
                          go_wp2_with fail
                          go_roundw
                          case rel => exact ⟨n, _, by have := HNL2.out; omega, by go_num, HW2.out nq2, HND.out, HOL2.out, HU2x.out⟩
                          case measure => simp [intOf]
                      · have hs1 : (s.toList == []) = false := by
                          rw [Bool.eq_false_iff]; intro e; exact hs0 (HNIL.out.1 (by simpa using e))
                        have hs2 : (s.toList != []) = true := by
                          rw [bne_iff_ne]; intro e; exact hs0 (HNIL.out.1 (by simpa using e))
                        obtain ⟨hlk1, hnum⟩ := HNU.out hs0
                        have hlk : ∀ m, (Instr.lookup 88 (.map (some w2.heap.size)) (.string s) false).run Tryz.prog (wr0.drewN m) = .ok (.int .i64 (num : Nat)) (wr0.drewN m) := fun m => by rw [HLKS.out m, hlk1]; rfl
                        have h64 : (num : Int) < 64 := by omega
                        have h63 : (0 : Int) ≤ (num : Int) := by omega
                        clear hlk1 hnum
                        go_wp2_with fail
                        refine region_tail_p 14 (by kernel_rfl) (by kernel_rfl) ?_
                        simp only [List.take_succ_cons, List.take_zero, List.drop_succ_cons, List.drop_zero]
                        repeat (go_big_quiet_step (fail))
                        refine wpQuiet_nil ?_
                        intro _ hw'
                        obtain ⟨nq, hw''⟩ := hw'
                        subst hw''
                        have hcn2 : (wr0.drewN nq).cell? ⟨B, n, none⟩ = _ := hcn
                        have hfn2 : (wr0.drewN nq).frozen? ⟨B, n, none⟩ = false := hfn
                        obtain ⟨x1, hx1⟩ : ∃ x1, x1 = gn o n ||| 2 ^ num := ⟨_, rfl⟩
                        have hX1 : bits BinOp.or IntKind.u64 ((gn o n : Nat) : Int) (IntKind.u64.wrap ((2 : Int) ^ num)) = ((x1 : Nat) : Int) := by
                          rw [hx1, wrap_pow64 (by omega)]
                          exact u64_or_nat _ _ (HOU.out n) (pow_u64 (by omega))
                        have HX1 := Lib.hid hx1
                        have HW1 : Hid (OwW w4 ((wr0.drewN nq).setCell ⟨B, n, none⟩ (.int .u64 x1)) B t.ps.length (o.set n x1)) := (HWW.out.drewN nq).set (by rw [HOL.out]; exact HNL2.out)
                        have HOL1 : Hid ((o.set n x1).length = t.ps.length) := by unfold Hid; rw [List.length_set]; exact HOL.out
                        have HOU1 : Hid (∀ j, U64 (gn (o.set n x1) j)) := fun j => by
                          rw [gn_set (by rw [HOL.out]; exact HNL2.out)]
                          split
                          · rw [hx1]; exact Nat.or_lt_two_pow (n := 64) (HOU.out n) (pow_u64 (by omega))
                          · exact HOU.out j
                        have HS0 := Lib.hid hs0
                        clear hs0 hx1
                        have HUW : Hid (Up wo ((wr0.drewN nq).setCell ⟨B, n, none⟩ (.int .u64 x1))) := HU4.out.trans HW1.out.up
                        have hc0w := HUW.out.cell HB0O.out
                        have hpcw := HUW.out.cell HPC0.out
                        by_cases hn0 : n = 0
                        · have hp1 := HPAR.out.1 hn0
                          have HND : Hid (ownD t (nmIx names) n (o.set n x1) = ownF t names) := by
                            have h1 := HSTEP.out
                            rw [hp1, if_neg (by omega), if_pos HS0.out, ← HX1.out] at h1
                            unfold Hid; rw [← h1]; exact HOD.out
                          have d7 : decide ((0 : Int) ≤ p) = false := by rw [hp1]; decide
                          have d8 : ¬ (0 : Int) ≤ p := by omega
                          clear hn0
                          go_wp2_with fail
                          go_roundw
                          case rel => exact ⟨n, _, by have := HNL2.out; omega, by go_num, HW1.out, HND.out, HOL1.out, HOU1.out⟩
                          case measure => simp [intOf]
                        · obtain ⟨hp1, hp2⟩ := HPAR.out.2 (by omega)
                          obtain ⟨q, rfl⟩ : ∃ q : Nat, p = q := ⟨p.toNat, by omega⟩
                          have hqn : q < t.ps.length := by have := HNL2.out; omega
                          obtain ⟨x2, hx2⟩ : ∃ x2, x2 = gn (o.set n x1) q ||| gn (o.set n x1) n := ⟨_, rfl⟩
                          have HND : Hid (ownD t (nmIx names) n ((o.set n x1).set q x2) = ownF t names) := by
                            have h1 := HSTEP.out
                            rw [if_pos (by omega), if_pos HS0.out, ← HX1.out] at h1
                            unfold Hid; rw [hx2]; rw [show ((q : Nat) : Int).toNat = q by omega] at h1; rw [← h1]; exact HOD.out
                          have hX2 : bits BinOp.or IntKind.u64 ((gn (o.set n x1) q : Nat) : Int) ((gn (o.set n x1) n : Nat) : Int) = ((x2 : Nat) : Int) := by rw [hx2]; exact u64_or_nat _ _ (HOU1.out q) (HOU1.out n)
                          have HU2x : Hid (∀ j, U64 (gn ((o.set n x1).set q x2) j)) := fun j => by
                            rw [gn_set (by rw [HOL1.out]; exact hqn)]
                            split
                            · rw [hx2]; exact Nat.or_lt_two_pow (n := 64) (HOU1.out q) (HOU1.out n)
                            · exact HOU1.out j
                          have HW2 : Hid (∀ m, OwW w4 ((((wr0.drewN nq).setCell ⟨B, n, none⟩ (.int .u64 x1)).drewN m).setCell ⟨B, q, none⟩ (.int .u64 x2)) B t.ps.length ((o.set n x1).set q x2)) := fun m => (HW1.out.drewN m).set (by rw [HOL1.out]; exact hqn)
                          have HOL2 : Hid (((o.set n x1).set q x2).length = t.ps.length) := by unfold Hid; rw [List.length_set]; exact HOL1.out
                          have hqc := HW1.out.row.cell hqn
                          have hqf := HW1.out.row.frozen q
                          have hnc := HW1.out.row.cell HNL2.out
                          have k1 : (0 : Int) ≤ (q : Int) := by omega
                          have k2 : (q : Int) < (t.ps.length : Int) := by omega
                          clear hn0 hx2 hcn hfn
                          go_wp2_with fail
                          refine region_tail_p 10 (by kernel_rfl) (by kernel_rfl) ?_
                          simp only [List.take_succ_cons, List.take_zero, List.drop_succ_cons, List.drop_zero]
                          repeat (go_big_quiet_step (fail))
                          refine wpQuiet_nil ?_
                          intro _ hw'
                          obtain ⟨nq2, hw''⟩ := hw'
                          subst hw''
                          have hqc2 : (((wr0.drewN nq).setCell ⟨B, n, none⟩ (.int .u64 x1)).drewN nq2).cell? ⟨B, q, none⟩ = _ := hqc
                          have hqf2 : (((wr0.drewN nq).setCell ⟨B, n, none⟩ (.int .u64 x1)).drewN nq2).frozen? ⟨B, q, none⟩ = false := hqf
                          go_wp2_with fail
                          go_roundw
                          case rel => exact ⟨n, _, by have := HNL2.out; omega, by go_num, HW2.out nq2, HND.out, HOL2.out, HU2x.out⟩
                          case measure => simp [intOf]
                    · obtain rfl : k = 0 := by omega
                      have hoe : o = ownF t names := hO.out.1
                      have hol : o.length = t.ps.length := hO.out.2.1
                      have HUR := Lib.hid (HU4.out.trans hup)
                      have HSA : Hid (SetsAt Any wr0 (.slice (some ⟨B, 0, none⟩) t.ps.length t.ps.length) (ownF t names)) := by
                        rw [← hoe]
                        refine ⟨_, _, by rw [hol], by rw [hol]; exact Nat.le_refl _, .inr ⟨B, 0, rfl, trivial, fun j hj => ?_⟩⟩
                        rw [Nat.zero_add]
                        exact hW.out.row.cell (by omega)
                      have HOL : Hid ((ownF t names).length = t.ps.length) := by unfold Hid; rw [← hoe]; exact hol
                      rw [show ((0 : Nat) : Int) - 1 = -1 by omega]
                      have d7 : decide ((0 : Int) ≤ -1) = false := by decide
                      clear hk hW hO hoe hol hup hk0
                      go_wp2_with fail
                      go_loopw [21, 22, 23, 134] (fun d _ _ i wr => ∃ m : Nat, m ≤ l.length ∧ i = .int .i64 m ∧ Hid (Owns wr0.heap.size 3 wr d ((conK t names l m).map (Value.int .i64))) ∧ Hid (Up wr0 wr)) (fun _ _ _ i _ => l.length - (intOf i).toNat)
                      case atStart => exact ⟨0, Nat.zero_le _, rfl, Owns.nil _ _ _, Up.refl _⟩
                      case round =>
                        obtain ⟨m, hm, rfl, hD, hUr⟩ := hrel
                        obtain ⟨wi, rfl⟩ : ∃ wo : World, wo = wr := ⟨_, rfl⟩
                        obtain ⟨d, rfl⟩ : ∃ d : Value, d = u21 := ⟨_, rfl⟩
                        by_cases hmt : m < l.length
                        · obtain ⟨gb, go, rq, rc, rfl, hc0, hc1, hc2, hri⟩ := grps_get (HGO.out.keep ((HUR.out.trans hUr.out).kept S)) hmt
                          have m1 : (0 : Int) ≤ (m : Int) := by omega
                          have m2 : (m : Int) < (l.length : Int) := by omega
                          have hal := Up.alloc wi (.cells #[.int .i64 (gg l m).un, .int .i64 (gg l m).st, .slice rq (gg l m).src.length rc] 61)
                          obtain ⟨hb0, hb1, hb2⟩ := box3 wi (.int .i64 (gg l m).un) (.int .i64 (gg l m).st) (.slice rq (gg l m).src.length rc) 61
                          have hsm : Small (gg l m).src := (srcOk_small ((gcErr_zero HG0.out).2 m hmt).2.2.2).1
                          have HOF := Lib.hid (of_t S _ _ (gg l m).src (IntsAt.keep hri (hal.kept _)) hsm (hr m))
                          have HCN := Lib.hid (contains_set_t Any _ _ (ownF t names) (ofS (gg l m).src) (SetsAt.keep HSA.out ((hUr.out.trans hal).kept _)) (by rw [HOL.out]; omega))
                          rw [any_mem] at HCN
                          have HCK : Hid (conK t names l (m + 1) = conK t names l m ++ if ofS (gg l m).src ∈ ownF t names then [] else [(m : Int)]) := rfl
                          have HCL := Lib.hid (conK_len t names l m)
                          have HUA := Lib.hid (hUr.out.trans hal)
                          have HDA := Lib.hid (hD.out.kept fun b _ hb => Below.block hal b hb)
                          have HMT := Lib.hid hmt
                          clear hri hal hD hUr hsm hm
                          generalize (gg l m).un = un at *
                          generalize (gg l m).st = sx at *
                          generalize (gg l m).src = src at *
                          by_cases hin : ofS src ∈ ownF t names
                          · rw [decide_eq_true hin] at HCN
                            have HF : Hid (conK t names l (m + 1) = conK t names l m) := by unfold Hid; rw [HCK.out, if_pos hin, List.append_nil]
                            clear hin
                            go_wp2_with (first | (go_at_call 52; refine HOF.out.mono ?_; rintro e w' ⟨rfl, rfl⟩) | (go_at_call 59; refine HCN.out.mono ?_; rintro e w' ⟨rfl, rfl⟩) | fail)
                            go_roundw
                            case rel => exact ⟨m + 1, HMT.out, by have := HMT.out; go_num, by unfold Hid; rw [HF.out]; exact HDA.out, HUA.out⟩
                            case measure => have := HMT.out; simp [intOf]; omega
                          · rw [decide_eq_false hin] at HCN
                            have HF : Hid (conK t names l (m + 1) = conK t names l m ++ [(m : Int)]) := by unfold Hid; rw [HCK.out, if_neg hin]
                            have HLM : Hid (((conK t names l m).map (Value.int .i64)).length = (conK t names l m).length) := List.length_map _
                            have HL6 : Hid ((conK t names l m).length ≤ 1000000) := by have := HCL.out; have := HMT.out; unfold Hid; omega
                            have hsz : (wi.alloc (.cells #[.int .i64 un, .int .i64 sx, .slice rq src.length rc] 61)).heap.size = wi.heap.size + 1 := World.size_alloc _ _
                            have hwz : wr0.heap.size ≤ (wi.alloc (.cells #[.int .i64 un, .int .i64 sx, .slice rq src.length rc] 61)).heap.size := HUA.out.size
                            clear hin
                            go_wp2_with (first | (go_at_call 52; refine HOF.out.mono ?_; rintro e w' ⟨rfl, rfl⟩) | (go_at_call 59; refine HCN.out.mono ?_; rintro e w' ⟨rfl, rfl⟩) | (at_builtin; refine wpList_appM (wi.alloc (.cells #[.int .i64 un, .int .i64 sx, .slice rq src.length rc] 61)) rfl _ _ 22 rfl wr0.heap.size 3 (.int .i64 0) 8 Tryz.underlying22 Tryz.infoI rfl (by decide) HDA.out rfl (.int .i64 m) _ hsz rfl rfl _ HLM.out HL6.out hwz ?_; intro g8 cap8 w8 hown1 hgr1 hbe1))
                            go_roundw
                            case rel => exact ⟨m + 1, HMT.out, by have := HMT.out; go_num, by unfold Hid; rw [HF.out, List.map_append]; exact hown1, Below.trans HUA.out hbe1⟩
                            case measure => have := HMT.out; simp [intOf]; omega
                        · obtain rfl : m = l.length := by omega
                          have HUF := Lib.hid ((HUWO.out.trans HUR.out).trans hUr.out)
                          have HDF := Lib.hid hD.out
                          clear hD hUr hmt hm
                          go_wp2_with fail
                          go_ret2
                          exact ⟨HUF.out, d, by rw [HE.out]; rfl, by unfold conL; rw [if_neg (by rw [HE.out]; simp)]; exact HDF.out.ints.sub fun _ _ _ => trivial⟩
              · have HE : Hid (conErr t names l = gcErr l) := by unfold Hid; rw [HCE.out, if_pos hgc]
                have d1 : (gcErr l != 0) = true := by simpa using hgc
                have HN0 := Lib.hid hgc
                clear hgc
                generalize gcErr l = c at *
                go_wp2_with fail
                refine HGC.out.mono ?_
                rintro e w3 ⟨rfl, hu3⟩
                have HU3 := Lib.hid hu3
                clear hu3
                go_wp2_with fail
                go_ret2
                exact con_err HE.out HN0.out (HUWO.out.trans HU3.out)
    · have d2 : (((leavesL t.ns).length : Int) != (names.length : Int)) = true := by simp; omega
      have HE : Hid (conErr t names l = 9) := by unfold Hid conErr; rw [if_neg (by simp [h1]), if_pos h2]
      clear h1
      go_enter Tryz.func16, Tryz.ntmps16
      go_wp2_with fail
      generalize w.alloc (.cells #[.slice pp t.ps.length pc, .slice sp t.ns.length sc] 25) = w1 at *
      refine HLV.out.mono ?_
      rintro e w2 ⟨hu2, hcc⟩
      rcases hcc with ⟨hbad, _⟩ | ⟨_, cv, rfl, ht5⟩
      · exact absurd HT1.out hbad
      obtain ⟨vp, vc, rfl, _, _⟩ := SlAt.open ht5
      have hu2 : Up w1 w2 := hu2
      have HU2 := Lib.hid (HU.out.trans hu2)
      clear ht5 hu2
      go_wp2_with fail
      go_ret2
      exact con_err HE.out (by decide) HU2.out
  · have HE : Hid (conErr t names l = 1) := by unfold Hid conErr; rw [if_pos h1]
    have HT1 := Lib.hid h1
    clear h1
    go_enter Tryz.func16, Tryz.ntmps16
    go_wp2_with fail
    generalize w.alloc (.cells #[.slice pp t.ps.length pc, .slice sp t.ns.length sc] 25) = w1 at *
    refine HLV.out.mono ?_
    rintro e w2 ⟨hu2, hcc⟩
    rcases hcc with ⟨_, rfl⟩ | ⟨hok, _⟩
    · have hu2 : Up w1 w2 := hu2
      have HU2 := Lib.hid (HU.out.trans hu2)
      clear hu2
      go_wp2_with fail
      go_ret2
      exact con_err HE.out (by decide) HU2.out
    · exact absurd hok HT1.out
end Go.Proofs.YtgjcfkadioblfaaGreat
