/- The walk of SharederrorClades. -/
import Derived.Test.YtgjcfkadioblfaaGreatQ37
import Derived.Test.YtgjcfkadioblfaaGreatQ34
import Derived.Test.YtgjcfkadioblfaaGreatQ28
import Derived.Test.YtgjcfkadioblfaaGreatQ29
import Derived.Test.YtgjcfkadioblfaaGreatQ35
import Derived.Deep.RegionHeld3
namespace Go.Proofs.YtgjcfkadioblfaaGreat
open Go.RowKit Go.Deep
theorem namesA_size (n k : Nat) : (gs (namesA n) k).size ≤ 70000 := by
  by_cases h : k < n
  · rw [gs_namesA h, nmLt_size]; decide
  · have : gs (namesA n) k = ByteArray.empty := by unfold gs; rw [List.getD_eq_getElem?_getD, List.getElem?_eq_none (by rw [namesA_len]; omega)]; rfl
    rw [this]; exact Nat.zero_le _
theorem cl_src {t : Tre} (_h : treeErr t = 0) (h16 : t.ps.length ≤ 16) (k : Nat) : (gg (clL t) k).src.length ≤ 1000000 := by
  by_cases hk : k < t.ps.length
  · rw [cl_gg hk]
    show (lvL (uT t) k).length ≤ _
    unfold lvL
    rw [sortL_len]
    have := lvK_len (uT t) k ((uT t).ps.length - k)
    have h2 : (uT t).ps.length = t.ps.length := rfl
    omega
  · have : gg (clL t) k = ⟨0, 0, []⟩ := by unfold gg; rw [List.getD_eq_getElem?_getD, List.getElem?_eq_none (by rw [cl_len]; omega)]; rfl
    rw [this]; exact Nat.zero_le _
theorem sh_small (names : List ByteArray) (l : List Grp) : (shTree names l).ps.length ≤ 1000000 ∧ (shTree names l).ns.length ≤ 1000000 := by
  by_cases h : shErr names l = 0
  · rw [shTree_fin h, flat_ps, flat_ns]
    have := fin_size h
    exact ⟨by omega, by omega⟩
  · unfold shTree; rw [if_pos h]; exact ⟨Nat.zero_le _, Nat.zero_le _⟩
set_option maxRecDepth 100000 in
set_option maxHeartbeats 8000000 in
theorem clades_law (w : World) (v : Value) (t : Tre) (hT : TreeAt Any w v t) (hp : t.ps.length ≤ 9223372036854775807) (hn : t.ns.length ≤ 9223372036854775807) (hz : ∀ k, (gs t.ns k).size ≤ 9223372036854775807) :
    Calls Tryz.prog 6 #[v] w fun e w' => e = .returned (.bool true) ∧ Up w w' := by
  obtain ⟨P, N, rfl, hP, hN⟩ := hT
  obtain ⟨pp, pc, rfl, _, _⟩ := SlAt.open hP
  obtain ⟨qn, qm, rfl, _, _⟩ := SlAt.open hN
  have hP : IntsAt Any w (.slice pp t.ps.length pc) t.ps := hP
  have hN : StrsAt Any w (.slice qn t.ns.length qm) t.ns := hN
  have hu := Up.alloc w (.cells #[.slice pp t.ps.length pc, .slice qn t.ns.length qm] 25)
  have HC0 := Lib.hid (box2_0 w (.slice pp t.ps.length pc) (.slice qn t.ns.length qm) 25)
  have HC1 := Lib.hid (box2_1 w (.slice pp t.ps.length pc) (.slice qn t.ns.length qm) 25)
  have hc0 := HC0.out
  have hc1 := HC1.out
  have HT1 : Hid (TreeAt Any (w.alloc (.cells #[.slice pp t.ps.length pc, .slice qn t.ns.length qm] 25)) (.agg #[.slice pp t.ps.length pc, .slice qn t.ns.length qm]) t) := TreeAt.keep ⟨_, _, rfl, hP, hN⟩ (hu.kept _)
  have HP1 := Lib.hid (IntsAt.keep hP (hu.kept _))
  have HN1 := Lib.hid (StrsAt.keep hN (hu.kept _))
  have HU := Lib.hid hu
  have HAW := Lib.hid awake35_t
  clear hu hP hN
  by_cases c0 : t.ps.length = 0
  · have d0 : ((t.ps.length : Int) == 0) = true := by rw [c0]; rfl
    clear c0
    go_enter Tryz.func6, Tryz.ntmps6
    go_wp2_with (go_at_call 11; refine (HAW.out _).mono ?_; rintro e w' ⟨rfl, hu⟩)
    go_ret
    exact ⟨rfl, HU.out.trans hu⟩
  · have d0 : ((t.ps.length : Int) == 0) = false := beq_eq_false_iff_ne.2 (by omega)
    by_cases c1 : 16 < t.ps.length
    · have d1 : decide ((16 : Int) < (t.ps.length : Int)) = true := decide_eq_true (by omega)
      clear c0
      go_enter Tryz.func6, Tryz.ntmps6
      go_wp2_with (go_at_call 11; refine (HAW.out _).mono ?_; rintro e w' ⟨rfl, hu⟩)
      go_ret
      exact ⟨rfl, HU.out.trans hu⟩
    · have d1 : decide ((16 : Int) < (t.ps.length : Int)) = false := decide_eq_false (by omega)
      have HCK := Lib.hid (check9_t Any _ _ t HT1.out (by omega) hn hz)
      have h16 : t.ps.length ≤ 16 := by omega
      have h0p : 0 < t.ps.length := by omega
      clear c0 c1
      by_cases he : treeErr t = 0
      · obtain ⟨_, _, hl, hok, hne⟩ := treeErr_zero he
        rw [he] at HCK
        have HE := Lib.hid he
        have HL := Lib.hid hl
        have HOK := Lib.hid hok
        have HZ : Hid (∀ k, (gs t.ns k).size ≤ 70000) := tree_small he
        clear he hok hne hz hl
        go_enter Tryz.func6, Tryz.ntmps6
        go_wp2_with fail
        refine HCK.out.mono ?_
        rintro e w2 ⟨rfl, hu2⟩
        have hu2 : Up (w.alloc (.cells #[.slice pp t.ps.length pc, .slice qn t.ns.length qm] 25)) w2 := hu2
        have hc0 := hu2.cell HC0.out
        have hc1 := hu2.cell HC1.out
        have HC0' := Lib.hid hc0
        have HC1' := Lib.hid hc1
        have HU2 := Lib.hid (HU.out.trans hu2)
        have HP2 := Lib.hid (IntsAt.keep HP1.out (hu2.kept _))
        have HN2 := Lib.hid (StrsAt.keep HN1.out (hu2.kept _))
        have HST := Lib.hid (ClW.start w2 (.slice pp t.ps.length pc))
        have hab := (Up.alloc w2 (.cells #[.slice pp t.ps.length pc, .slice none 0 0] 25))
        have hc0 := hab.cell HC0'.out
        have hc1 := hab.cell HC1'.out
        clear hu2 hab HCK HC0 HC1 HU HP1 HN1 HT1
        go_wp2_with fail
        generalize w2.alloc (.cells #[.slice pp t.ps.length pc, .slice none 0 0] 25) = w3 at *
        go_loopw [4, 6, 38] (fun c _ x wr => ∃ k : Nat, k ≤ t.ns.length ∧ x = .int .i64 k ∧ c = .int .i64 (cntN t.ns k) ∧ Hid (∃ nv, ClW w2 wr w2.heap.size (.slice pp t.ps.length pc) nv (uK t.ns k))) (fun _ _ x _ => t.ns.length - (intOf x).toNat)
        case atStart => exact ⟨0, Nat.zero_le _, rfl, rfl, _, HST.out⟩
        case round =>
          obtain ⟨k, hk, rfl, rfl, hO⟩ := hrel
          obtain ⟨wo, rfl⟩ : ∃ wo : World, wo = wr := ⟨_, rfl⟩
          obtain ⟨nv, hO⟩ := hO.out
          by_cases hlt : k < t.ns.length
          · obtain ⟨nb, no, rfl, hx⟩ := strs_get (StrsAt.keep HN2.out (hO.up.kept _)) hlt
            have k1 : (0 : Int) ≤ (k : Int) := by omega
            have k2 : (k : Int) < (t.ns.length : Int) := by omega
            have HLT := Lib.hid hlt
            have HSN := Lib.hid (uK_succ t.ns k)
            have HUN : Hid (uN t.ns k = if (gs t.ns k).size ≠ 0 then nmLt (cntN t.ns k) else gs t.ns k) := rfl
            have HCN : Hid (cntN t.ns (k + 1) = cntN t.ns k + if (gs t.ns k).size ≠ 0 then 1 else 0) := rfl
            have HCL : Hid (cntN t.ns k ≤ 16) := by have := cntN_le t.ns k; have := HL.out; unfold Hid; omega
            have HLN : Hid (((uK t.ns k).map Value.string).length = k) := by unfold Hid; rw [List.length_map, uK_len]
            have hk6 : k ≤ 1000000 := by have := HL.out; omega
            by_cases c3 : (gs t.ns k).size = 0
            · have e3 : ((gs t.ns k).toList == []) = true := by rw [(toList_nil _).2 c3]; rfl
              have HU1 : Hid (uN t.ns k = gs t.ns k) := by rw [Hid, HUN.out, if_neg (by simp [c3])]
              have HC2 : Hid (cntN t.ns (k + 1) = cntN t.ns k) := by rw [Hid, HCN.out, if_neg (by simp [c3])]; rfl
              have HO := Lib.hid hO
              obtain ⟨b0, b1, f0, f1⟩ := hO.cells
              have hwz : w2.heap.size + 1 ≤ wo.heap.size := hO.lo.2
              have HOW := Lib.hid hO.own
              clear c3 hO
              generalize gs t.ns k = s at *
              generalize cntN t.ns k = c at *
              go_wp2_with (at_builtin; refine wpList_appG wo rfl _ _ 23 rfl (w2.heap.size + 1) 9 (.string ⟨#[]⟩) 16 Tryz.underlying23 Tryz.infoStr2 rfl (by decide) HOW.out rfl (.string s) rfl rfl k HLN.out hk6 hwz ?_; intro g8 cap8 w8 hown1 hgr1 hr1; obtain ⟨⟨hcc, hff⟩, hN8⟩ := HO.out.push hown1 hgr1)
              have HN8 := Lib.hid hN8
              clear hown1 hgr1 hr1 hN8
              go_roundw
              case rel => exact ⟨k + 1, HLT.out, by go_num, by rw [HC2.out], _, by rw [HSN.out, HU1.out]; exact HN8.out⟩
              case measure => have := HLT.out; simp [intOf]; omega
            · have e3 : ((gs t.ns k).toList == []) = false := by
                rw [beq_eq_false_iff_ne]
                exact fun h => c3 ((toList_nil _).1 h)
              have HU1 : Hid (uN t.ns k = nmLt (cntN t.ns k)) := by rw [Hid, HUN.out, if_pos c3]
              have HC2 : Hid (cntN t.ns (k + 1) = cntN t.ns k + 1) := by rw [Hid, HCN.out, if_pos c3]
              have HO := Lib.hid hO
              clear c3
              generalize gs t.ns k = s at *
              generalize cntN t.ns k = c at *
              have i1 : (0 : Int) ≤ (c : Int) := by omega
              have i2 : (c : Int) ≤ 16 := by have := HCL.out; omega
              have hcv : (convert 58 9 (.slice (some ⟨wo.heap.size, 0, none⟩) 1 1)).run Tryz.prog (wo.alloc (.cells #[.int .u8 (65 + (c : Int))] 5)) = .ok (.string (nmLt c)) (wo.alloc (.cells #[.int .u8 (65 + (c : Int))] 5)) :=
                run_convert_bytes_back _ 58 9 5 ⟨wo.heap.size, 0, none⟩ 1 [UInt8.ofNat (65 + c)] Tryz.underlying58 Tryz.underlying5 Tryz.underlying9 (fun j hj => by
                  obtain rfl : j = 0 := by simp at hj; omega
                  show (wo.alloc _).cell? ⟨wo.heap.size, 0, none⟩ = _
                  rw [box1_0]
                  have e : (UInt8.ofNat (65 + c)).toNat = 65 + c := by simp; omega
                  show some (Value.int .u8 (65 + (c : Int))) = some (Value.int .u8 (((UInt8.ofNat (65 + c)).toNat : Nat) : Int))
                  rw [e]; rfl)
              have hO2 := hO.upw (Up.alloc wo (.cells #[.int .u8 (65 + (c : Int))] 5))
              have HO2 := Lib.hid hO2
              obtain ⟨b0, b1, f0, f1⟩ := hO2.cells
              have hwz : w2.heap.size + 1 ≤ (wo.alloc (.cells #[.int .u8 (65 + (c : Int))] 5)).heap.size := hO2.lo.2
              have HOW := Lib.hid hO2.own
              have hsz : (wo.alloc (.cells #[.int .u8 (65 + (c : Int))] 5)).heap.size = wo.heap.size + 1 := World.size_alloc _ _
              clear hO2 hO
              go_wp2_with (at_builtin; refine wpList_appGM (wo.alloc (.cells #[.int .u8 (65 + (c : Int))] 5)) rfl _ _ 23 rfl (w2.heap.size + 1) 9 (.string ⟨#[]⟩) 16 Tryz.underlying23 Tryz.infoStr2 rfl (by decide) HOW.out rfl (.string (nmLt c)) _ hsz rfl rfl k HLN.out hk6 hwz ?_; intro g8 cap8 w8 hown1 hgr1 hr1; obtain ⟨⟨hcc, hff⟩, hN8⟩ := HO2.out.push hown1 hgr1)
              have HN8 := Lib.hid hN8
              clear hown1 hgr1 hr1 hN8
              go_roundw
              case rel => exact ⟨k + 1, HLT.out, by go_num, by rw [HC2.out]; go_num, _, by rw [HSN.out, HU1.out]; exact HN8.out⟩
              case measure => have := HLT.out; simp [intOf]; omega
          · obtain rfl : k = t.ns.length := by omega
            clear hlt hk
            obtain ⟨vp, vc, rfl, _⟩ := hO.own.form (n := t.ns.length) (by rw [List.length_map, uK_len])
            have HUW := Lib.hid (HU2.out.trans hO.up)
            have HTU : Hid (∀ W, Up wo W → TreeAt Any W (.agg #[.slice pp t.ps.length pc, .slice vp t.ns.length vc]) (uT t)) := fun W hW => ⟨_, _, rfl, IntsAt.keep HP2.out ((hO.up.trans hW).kept _), StrsAt.keep (hO.own.strs.sub fun _ _ _ => trivial) (hW.kept _)⟩
            have HNU : Hid (∀ W, Up wo W → StrsAt Any W (.slice vp t.ns.length vc) (uT t).ns) := fun W hW => StrsAt.keep (hO.own.strs.sub fun _ _ _ => trivial) (hW.kept _)
            have HBX : Hid (∀ W, Up wo W → W.cell? ⟨w2.heap.size, 0, none⟩ = some (.slice pp t.ps.length pc) ∧ W.cell? ⟨w2.heap.size, 1, none⟩ = some (.slice vp t.ns.length vc)) := fun W hW => ⟨hW.cell hO.cells.1, hW.cell hO.cells.2.1⟩
            have HUE := Lib.hid (uT_err HE.out h16)
            have HZU := Lib.hid (tree_small HUE.out)
            have HCLN : Hid (cntN t.ns t.ns.length = clN t) := rfl
            obtain ⟨b0, b1⟩ := HBX.out wo (Up.refl _)
            have HG0 := Lib.hid (ClG.start wo)
            clear hO HST HN2 HZ hc0 hc1
            rw [HCLN.out]
            go_wp2_with fail
            go_loopw [7, 8, 9, 61] (fun d a _ x wr => ∃ k : Nat, k ≤ t.ps.length ∧ x = .int .i64 k ∧ Hid (∃ svs, ClG wo wr d a (clK t k) svs (alK (uT t).ns k))) (fun _ _ _ x _ => t.ps.length - (intOf x).toNat)
            case atStart => exact ⟨0, Nat.zero_le _, rfl, [], HG0.out⟩
            case round =>
              obtain ⟨k, hk, rfl, hG⟩ := hrel
              obtain ⟨wi, rfl⟩ : ∃ wo : World, wo = wr := ⟨_, rfl⟩
              obtain ⟨d, rfl⟩ : ∃ d : Value, d = u7 := ⟨_, rfl⟩
              obtain ⟨a, rfl⟩ : ∃ d : Value, d = u8 := ⟨_, rfl⟩
              obtain ⟨svs, hG⟩ := hG.out
              by_cases hkt : k < t.ps.length
              · have hkn : k < (uT t).ns.length := by rw [uT_len, HL.out]; exact hkt
                obtain ⟨vb, vo, rfl, _⟩ := strs_get (HNU.out wi hG.up) hkn
                obtain ⟨b0, b1⟩ := HBX.out wi hG.up
                have HLV := Lib.hid (lvs_t Any wi _ (uT t) k (HTU.out wi hG.up) HOK.out (by rw [uT_len, HL.out]; rfl) (Nat.le_of_lt hkt) (show t.ps.length ≤ 1000000 by omega) HZU.out)
                have k1 : (0 : Int) ≤ (k : Int) := by omega
                have k2 : (k : Int) < (t.ns.length : Int) := by have := HL.out; omega
                have HKT := Lib.hid hkt
                have HKN := Lib.hid hkn
                have HGI := Lib.hid hG
                have HCS := Lib.hid (clK_succ t k)
                have HAS : Hid (alK (uT t).ns (k + 1) = if (gs (uT t).ns k).size ≠ 0 then alK (uT t).ns k ++ [(k : Int)] else alK (uT t).ns k) := rfl
                have HLE : Hid ((clK t k).length = k) := clK_len t k
                have hk6 : (clK t k).length ≤ 1000000 := by rw [clK_len]; omega
                have HAL : Hid (((alK (uT t).ns k).map (Value.int .i64)).length = (alK (uT t).ns k).length) := List.length_map _
                have ha6 : (alK (uT t).ns k).length ≤ 1000000 := by have := alK_len (uT t).ns k; omega
                clear hkn hG hkt
                go_wp2_with fail
                refine HLV.out.mono ?_
                rintro e w4 ⟨hu4, lv, rfl, ho4⟩
                obtain ⟨lq, lc, rfl, _⟩ := ho4.form (n := (lvL (uT t) k).length) (List.length_map _)
                have HG4 := Lib.hid (HGI.out.upw hu4)
                have HIN : Hid (IntsAt (fun b => some b ≠ d.ownBlock ∧ some b ≠ a.ownBlock) w4 (.slice lq (lvL (uT t) k).length lc) (lvL (uT t) k)) := ho4.ints.sub fun b hb _ => ⟨fun e => by have := (HGI.out.dlt e.symm).2; omega, fun e => by have := (HGI.out.alt e.symm).2; omega⟩
                have hwz : wo.heap.size ≤ w4.heap.size := HG4.out.up.size
                have HROW := Lib.hid HG4.out.row
                clear hu4 ho4 HLV b0 b1
                by_cases c3 : (gs (uT t).ns k).size = 0
                · have e3 : ((gs (uT t).ns k).toList == []) = true := by rw [(toList_nil _).2 c3]; rfl
                  have HA2 : Hid (alK (uT t).ns (k + 1) = alK (uT t).ns k) := by rw [Hid, HAS.out, if_neg (by simp [c3])]
                  clear c3
                  go_wp2_with (at_builtin; refine wpList_app3 w4 rfl _ _ 26 rfl wo.heap.size 61 _ 40 Tryz.underlying26 Tryz.infoEG rfl (by decide) HROW.out rfl (.int .i64 k) (.int .i64 0) (.slice lq (lvL (uT t) k).length lc) rfl rfl rfl rfl hk6 hwz ?_; intro g8 cap8 w8 ho8 hg8 hr8; have HN8 := Lib.hid (HG4.out.pushG (G := ⟨(k : Int), 0, lvL (uT t) k⟩) rfl HIN.out ho8 hg8 hr8); clear ho8 hg8 hr8; obtain ⟨b0, b1⟩ := HBX.out w8 HN8.out.up; have hxs := strs_get' (HNU.out w8 HN8.out.up) HKN.out)
                  go_roundw
                  case rel => exact ⟨k + 1, HKT.out, by go_num, _, by rw [HCS.out, HA2.out]; exact HN8.out⟩
                  case measure => have := HKT.out; simp [intOf]; omega
                · have e3 : ((gs (uT t).ns k).toList == []) = false := by
                    rw [beq_eq_false_iff_ne]
                    exact fun h => c3 ((toList_nil _).1 h)
                  have HA2 : Hid (alK (uT t).ns (k + 1) = alK (uT t).ns k ++ [(k : Int)]) := by rw [Hid, HAS.out, if_pos c3]
                  clear c3
                  go_wp2_with (first | (at_builtin; refine wpList_app3 w4 rfl _ _ 26 rfl wo.heap.size 61 _ 40 Tryz.underlying26 Tryz.infoEG rfl (by decide) HROW.out rfl (.int .i64 k) (.int .i64 0) (.slice lq (lvL (uT t) k).length lc) rfl rfl rfl rfl hk6 hwz ?_; intro g8 cap8 w8 ho8 hg8 hr8; have HN8 := Lib.hid (HG4.out.pushG (G := ⟨(k : Int), 0, lvL (uT t) k⟩) rfl HIN.out ho8 hg8 hr8); clear ho8 hg8 hr8; obtain ⟨b0, b1⟩ := HBX.out w8 HN8.out.up; have hxs := strs_get' (HNU.out w8 HN8.out.up) HKN.out; have hwz8 : wo.heap.size ≤ w8.heap.size := HN8.out.up.size; have HOW := Lib.hid HN8.out.all) | (at_builtin; refine wpList_appG w8 rfl _ _ 22 rfl wo.heap.size 3 (.int .i64 0) 8 Tryz.underlying22 Tryz.infoI rfl (by decide) HOW.out rfl (.int .i64 k) rfl rfl _ HAL.out ha6 hwz8 ?_; intro g9 cap9 w9 ho9 hg9 hr9; have HN9 := Lib.hid (HN8.out.pushA (x := (k : Int)) ho9 hg9 hr9); clear ho9 hg9 hr9))
                  go_roundw
                  case rel => exact ⟨k + 1, HKT.out, by go_num, _, by rw [HCS.out, HA2.out]; exact HN9.out⟩
                  case measure => have := HKT.out; simp [intOf]; omega
              · obtain rfl : k = t.ps.length := by omega
                clear hkt hk
                have HGL : Hid (GrpsAt Any wi d (clL t)) := hG.grps
                have HAA : Hid (IntsAt Any wi a (leavesL (uT t).ns)) := by
                  have h1 := hG.all.ints
                  have h2 : alK (uT t).ns t.ps.length = leavesL (uT t).ns := by rw [← HL.out, ← uT_len, alK_all]
                  rw [h2] at h1
                  exact h1.sub fun _ _ _ => trivial
                have HUG := Lib.hid hG.up
                have hcn := clN_le HE.out
                have HNM := Lib.hid (fun W => names_t W (clN t) (by omega))
                have HST := Lib.hid (fun W vn (hW : Up wi W) hN => shTree_t Any W vn _ (namesA (clN t)) (clL t) hN (HGL.out.keep (hW.kept _)) (by rw [namesA_len]; omega) (namesA_size _) (by rw [cl_len]; omega) (cl_src HE.out h16) raw_small)
                have HCO := Lib.hid (fun W vn (hW : Up wi W) hN => consist_t Any W _ vn _ (uT t) (namesA (clN t)) (clL t) (HTU.out W (HUG.out.trans hW)) hN (HGL.out.keep (hW.kept _)) (show t.ps.length ≤ 1000000 by omega) (by rw [uT_len, HL.out]; omega) HZU.out (by rw [namesA_len]; omega) (by rw [cl_len]; omega) (cl_src HE.out h16))
                have HRS := Lib.hid (fun W (hW : Up wi W) => restrict_t Any W _ _ (uT t) (leavesL (uT t).ns) (HTU.out W (HUG.out.trans hW)) (IntsAt.keep HAA.out (hW.kept _)) (show t.ps.length ≤ 1000000 by omega) (by rw [uT_len, HL.out]; omega) HZU.out (by rw [u_leaves]; omega))
                unfold StPost at HST
                unfold ConPost at HCO
                unfold RsPost at HRS
                unfold NmPost at HNM
                have hrs := clades_rs HE.out h16
                have hco := clades_con HE.out h16
                rw [(clades_tree HE.out h16).2] at HST
                rw [hrs.1, hrs.2] at HRS
                rw [hco.1, hco.2] at HCO
                have HSS := Lib.hid (sh_small (namesA (clN t)) (clL t))
                have HUWI := Lib.hid (HUW.out.trans HUG.out)
                have HBI : Hid (∀ W, Up wi W → W.cell? ⟨w2.heap.size, 0, none⟩ = some (.slice pp t.ps.length pc) ∧ W.cell? ⟨w2.heap.size, 1, none⟩ = some (.slice vp t.ns.length vc)) := fun W hW => HBX.out W (HUG.out.trans hW)
                obtain ⟨dp, dc, rfl, _⟩ := grps_open HGL.out
                obtain ⟨ap, ac, rfl, _, _⟩ := SlAt.open HAA.out
                clear hG hrs hco HBX HUG b0 b1 HTU HNU HGL HAA
                generalize shTree (namesA (clN t)) (clL t) = T at *
                generalize namesA (clN t) = nms at *
                generalize (clL t).length = gl0 at *
                generalize (leavesL (uT t).ns).length = al0 at *
                generalize clN t = cn at *
                go_wp2_with fail
                refine (HNM.out _).mono ?_
                rintro e w4 ⟨hu4, v4, rfl, ho4⟩
                have HN4 : Hid (StrsAt Any w4 v4 nms) := ho4.strs.sub fun _ _ _ => trivial
                have HU4 : Hid (Up wi w4) := hu4
                clear hu4 ho4
                go_wp2_with fail
                refine (HST.out _ _ HU4.out HN4.out).mono ?_
                rintro e w5 ⟨hu5, _, rfl, X1, X2, rfl, hx1, hx2⟩
                obtain ⟨x1p, x1c, rfl, _, _⟩ := SlAt.open hx1
                obtain ⟨x2p, x2c, rfl, _, _⟩ := SlAt.open hx2
                have hu6 := Up.alloc w5 (.cells #[.slice x1p T.ps.length x1c, .slice x2p T.ns.length x2c] 25)
                have HU6 := Lib.hid ((HU4.out.trans hu5).trans hu6)
                have HX6 : Hid (TreeAt Any (w5.alloc (.cells #[.slice x1p T.ps.length x1c, .slice x2p T.ns.length x2c] 25)) (.agg #[.slice x1p T.ps.length x1c, .slice x2p T.ns.length x2c]) T) := TreeAt.keep ⟨_, _, rfl, hx1, hx2⟩ (hu6.kept _)
                have HX0 := Lib.hid (box2_0 w5 (.slice x1p T.ps.length x1c) (.slice x2p T.ns.length x2c) 25)
                have HX1 := Lib.hid (box2_1 w5 (.slice x1p T.ps.length x1c) (.slice x2p T.ns.length x2c) 25)
                obtain ⟨b0, b1⟩ := HBI.out _ HU6.out
                clear hu5 hu6 hx1 hx2 HU4 HN4 HST
                go_wp2_with fail
                generalize w5.alloc (.cells #[.slice x1p T.ps.length x1c, .slice x2p T.ns.length x2c] 25) = w6 at *
                refine (HRS.out _ HU6.out).mono ?_
                rintro e w7 ⟨hu7, _, rfl, Y1, Y2, rfl, hy1, hy2⟩
                obtain ⟨y1p, y1c, rfl, _, _⟩ := SlAt.open hy1
                obtain ⟨y2p, y2c, rfl, _, _⟩ := SlAt.open hy2
                have hu8 := Up.alloc w7 (.cells #[.slice y1p T.ps.length y1c, .slice y2p T.ns.length y2c] 25)
                have HU8 := Lib.hid ((HU6.out.trans hu7).trans hu8)
                have HX8 := Lib.hid (TreeAt.keep HX6.out ((hu7.trans hu8).kept _))
                have HX80 := Lib.hid ((hu7.trans hu8).cell HX0.out)
                have HX81 := Lib.hid ((hu7.trans hu8).cell HX1.out)
                have HY8 : Hid (TreeAt Any (w7.alloc (.cells #[.slice y1p T.ps.length y1c, .slice y2p T.ns.length y2c] 25)) (.agg #[.slice y1p T.ps.length y1c, .slice y2p T.ns.length y2c]) T) := TreeAt.keep ⟨_, _, rfl, hy1, hy2⟩ (hu8.kept _)
                have HY80 := Lib.hid (box2_0 w7 (.slice y1p T.ps.length y1c) (.slice y2p T.ns.length y2c) 25)
                have HY81 := Lib.hid (box2_1 w7 (.slice y1p T.ps.length y1c) (.slice y2p T.ns.length y2c) 25)
                have HB8 := Lib.hid (HBI.out _ HU8.out)
                clear hu7 hu8 hy1 hy2 HU6 HX6 HX0 HX1 b0 b1 HRS
                go_wp2_with fail
                generalize w7.alloc (.cells #[.slice y1p T.ps.length y1c, .slice y2p T.ns.length y2c] 25) = w8 at *
                have hup : Hid (Up w8 (w8.drewN 1)) := Up.drewN w8 1
                go_region_held3 (fun w' => Hid (Up w8 w') ∧ w'.cell? ⟨w2.heap.size, 0, none⟩ = some (.slice pp t.ps.length pc) ∧ w'.cell? ⟨w2.heap.size, 1, none⟩ = some (.slice vp t.ns.length vc)) (exact ⟨hup, hup.out.cell HB8.out.1, hup.out.cell HB8.out.2⟩) (first | (go_at_call 42; refine (HNM.out _).mono ?_; rintro e w9 ⟨hb9, v9, rfl, ho9⟩; have HS9 : Hid (StrsAt Any w9 v9 nms) := ho9.strs.sub (fun b _ _ => trivial); have hup : Hid (Up w8 w9) := hup.out.trans hb9; clear hb9 ho9) | (go_at_call 16; refine (HCO.out _ _ (HU8.out.trans hup.out) HS9.out).mono ?_; rintro e w10 ⟨hb10, v10, rfl, hi10⟩; obtain ⟨q10, c10, rfl⟩ := nil_shape hi10; have hup : Hid (Up w8 w10) := hup.out.trans hb10; clear hb10 hi10))
                have HU10 := Lib.hid (HU8.out.trans hup.out)
                have hx0 := hup.out.cell HX80.out
                have hx1 := hup.out.cell HX81.out
                have hy0 := hup.out.cell HY80.out
                have hy1 := hup.out.cell HY81.out
                have HSM := Lib.hid (sameTree_yes Any Any _ _ _ T (HX8.out.keep (hup.out.kept _)) (HY8.out.keep (hup.out.kept _)) HSS.out.1 HSS.out.2)
                clear hup HU8 HX8 HX80 HX81 HY8 HY80 HY81 HB8 HS9 HCO
                go_wp2_with fail
                refine HSM.out.mono ?_
                rintro e w11 ⟨rfl, hu11⟩
                have HU11 := Lib.hid (HU10.out.trans hu11)
                clear hu11 hx0 hx1 hy0 hy1 HU10
                go_wp2_with fail
                refine (HAW.out _).mono ?_
                rintro e w12 ⟨rfl, hu12⟩
                go_wp2_with fail
                go_ret
                exact ⟨rfl, (HUWI.out.trans HU11.out).trans hu12⟩
      · have d2 : (treeErr t != 0) = true := by simpa using he
        clear he
        generalize treeErr t = te at *
        go_enter Tryz.func6, Tryz.ntmps6
        go_wp2_with fail
        refine HCK.out.mono ?_
        rintro e w2 ⟨rfl, hu2⟩
        go_wp2_with fail
        refine (HAW.out _).mono ?_
        rintro e w3 ⟨rfl, hu3⟩
        go_wp2_with fail
        go_ret
        exact ⟨rfl, (HU.out.trans hu2).trans hu3⟩
end Go.Proofs.YtgjcfkadioblfaaGreat
