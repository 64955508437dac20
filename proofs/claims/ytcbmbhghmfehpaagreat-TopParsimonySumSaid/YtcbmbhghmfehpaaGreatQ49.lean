/- The walk of TopParsimonySum. -/
import Derived.Test.YtcbmbhghmfehpaaGreatQ35
import Derived.Test.YtcbmbhghmfehpaaGreatQ47
import Derived.Test.YtcbmbhghmfehpaaGreatQ48
import Derived.Test.YtcbmbhghmfehpaaGreatQ8
namespace Go.Proofs.YtcbmbhghmfehpaaGreat
open Go.RowKit Go.Deep
theorem len1_d (S : Nat → Prop) (w : World) (rb : Nat) (rp : Option Addr) (n rc : Nat) (v : Value) (x m : Nat) (f : Nat → Value) (hb : w.cell? ⟨rb, 0, none⟩ = some (.slice rp n rc)) (h0 : 0 < n)
    (hr : ∃ b off q c, rp = some ⟨b, off, none⟩ ∧ w.cell? ⟨b, off, none⟩ = some (.slice q m c)) (h : SlAt S w v x f) :
    FnD 35 #[.pointer (some ⟨rb, 0, none⟩)] #[v] (.bool (decide (x ≠ m))) w := by
  intro d
  show Calls Tryz.prog 35 #[v, .pointer (some ⟨rb, 0, none⟩)] (w.drewN d) _
  have hd := Up.drewN w d
  obtain ⟨b, off, q, c, rfl, hc⟩ := hr
  have c1 := hd.cell hb
  have c2 := hd.cell hc
  obtain ⟨p, cap, rfl, hcap, _⟩ := SlAt.open h
  have i0 : (0 : Int) < (n : Int) := by omega
  have HE : Hid (decide (x ≠ m) = ((x : Int) != (m : Int))) := by
    unfold Hid; rw [Bool.eq_iff_iff, decide_eq_true_eq, bne_iff_ne]; omega
  obtain ⟨W, hW⟩ : ∃ W, W = w.drewN d := ⟨_, rfl⟩
  have HW := Lib.hid hW
  rw [← hW] at c1 c2 ⊢
  clear hd hb hc h hW hcap h0
  generalize decide (x ≠ m) = r at *
  go_enter Tryz.func35, Tryz.ntmps35
  go_wp2_with fail
  go_ret
  exact ⟨ret_bool HE.out.symm, d, HW.out⟩
def ragB (rows : List (List Int)) : Bool := (List.range rows.length).any fun k => decide ((gl rows k).length ≠ (gl rows 0).length)
theorem rag_has (S : Nat → Prop) (w : World) (v : Value) (rows : List (List Int)) (rb : Nat) (hb : w.cell? ⟨rb, 0, none⟩ = some v) (h : BRows S w v rows) (h0 : 0 < rows.length) (hn : rows.length ≤ 1000000) :
    Calls Tryz.prog 34 #[v, .func (.func 35) #[] #[.pointer (some ⟨rb, 0, none⟩)]] w fun e w' => e = .returned (.bool (ragB rows)) ∧ ∃ q, w' = w.drewN q := by
  obtain ⟨f, hf1, hf2⟩ := h
  obtain ⟨p, cap, rfl, -, -⟩ := SlAt.open hf1
  obtain ⟨b, off, q, c, rfl, hc, _⟩ := brows_get ⟨f, hf1, hf2⟩ h0
  rw [Nat.add_zero] at hc
  exact brows_has_d 35 #[.pointer (some ⟨rb, 0, none⟩)] (enters_of Tryz.func35 (by kernel_rfl) rfl) S w _ rows.length f (fun k => decide ((gl rows k).length ≠ (gl rows 0).length)) hf1 hn
    fun k hk => len1_d S w rb _ _ _ _ _ _ _ hb h0 ⟨b, off, q, c, rfl, hc⟩ (hf2 k hk)
theorem strs_front {S : Nat → Prop} {w : World} {b off n cap : Nat} {xs : List ByteArray} (h : StrsAt S w (.slice (some ⟨b, off, none⟩) n cap) xs) {k : Nat} (hk : k ≤ xs.length) : StrsAt S w (.slice (some ⟨b, off, none⟩) k cap) (xs.take k) := by
  obtain ⟨q, c, e, hn, h⟩ := h
  injection e with e1 e2 e3
  subst e1; subst e2; subst e3
  have hl : (xs.take k).length = k := by rw [List.length_take]; omega
  unfold StrsAt
  rw [hl]
  refine ⟨_, cap, rfl, by omega, ?_⟩
  rcases h with h | ⟨b', o', e, hS, h⟩
  · exact .inl (by omega)
  · refine .inr ⟨b', o', e, hS, fun j hj => ?_⟩
    rw [h j (by omega)]
    simp [gs, List.getD_eq_getElem?_getD, hj]
theorem gs_far {l : List ByteArray} {k : Nat} (h : l.length ≤ k) : (gs l k).size = 0 := by
  have : gs l k = ByteArray.empty := by simp [gs, List.getD_eq_getElem?_getD, List.getElem?_eq_none h]
  rw [this]; rfl
theorem nm6_small {n : Nat} : ∀ k, (gs (names6.take n) k).size ≤ 70000 := fun k => by
  by_cases hk : k < n
  · have e : gs (names6.take n) k = gs names6 k := by simp [gs, List.getD_eq_getElem?_getD, hk]
    rw [e]
    by_cases h6 : k < 6
    · have : k = 0 ∨ k = 1 ∨ k = 2 ∨ k = 3 ∨ k = 4 ∨ k = 5 := by omega
      rcases this with rfl | rfl | rfl | rfl | rfl | rfl <;> decide
    · rw [gs_far (show names6.length ≤ k by show 6 ≤ k; omega)]; decide
  · rw [gs_far (show (names6.take n).length ≤ k by rw [List.length_take]; omega)]; decide
theorem prB_lt {l : List (List Int)} (h : pairI l < 0) : prB l = true := by unfold prB; exact decide_eq_true h
theorem prB_ge {l : List (List Int)} (h : ¬ pairI l < 0) : prB l = false := by unfold prB; exact decide_eq_false h
theorem sum_good {rows : List (List Int)} {k : Nat} (h4 : 4 ≤ rows.length) (h6 : rows.length ≤ 6) (hk : k ≤ 6) (hp : pairI (spK rows k) < 0) :
    bldErr (names6.take rows.length) (spK rows k) = 0 := by
  rw [(sum_bld h4 h6 hk).1, if_neg (by omega)]
theorem sum_bad {rows : List (List Int)} {k : Nat} (h4 : 4 ≤ rows.length) (h6 : rows.length ≤ 6) (hk : k ≤ 6) (hp : ¬ pairI (spK rows k) < 0) :
    bldErr (names6.take rows.length) (spK rows k) = 17 := by
  rw [(sum_bld h4 h6 hk).1, if_pos (by omega)]
set_option maxRecDepth 100000 in
set_option maxHeartbeats 16000000 in
theorem psum_law (w : World) (v : Value) (rows : List (List Int)) (h : BRows Any w v rows) (hn : rows.length ≤ 9223372036854775807) (h255 : ∀ k j, 0 ≤ gi (gl rows k) j ∧ gi (gl rows k) j ≤ 255) :
    Calls Tryz.prog 4 #[v] w fun e w' => e = .returned (.bool true) ∧ Up w w' := by
  have HAW := Lib.hid awake33T_t
  obtain ⟨p, cap, rfl, -, -⟩ : ∃ p cap, v = .slice p rows.length cap ∧ True ∧ True := by
    obtain ⟨f, hf1, _⟩ := h
    obtain ⟨p, cap, rfl, -, -⟩ := SlAt.open hf1
    exact ⟨p, cap, rfl, trivial, trivial⟩
  have hu1 := Up.alloc w (.cells #[.slice p rows.length cap] 54)
  have hb1 := box1_0 w (.slice p rows.length cap) 54
  have hz1 : (w.alloc (.cells #[.slice p rows.length cap] 54)).heap.size = w.heap.size + 1 := World.size_alloc _ _
  have h1 := h.keep (hu1.kept _)
  generalize hw1 : w.alloc (.cells #[.slice p rows.length cap] 54) = w1 at *
  have hu2 := Up.alloc w1 (.cells #[.string ⟨#[65]⟩, .string ⟨#[66]⟩, .string ⟨#[67]⟩, .string ⟨#[68]⟩, .string ⟨#[69]⟩, .string ⟨#[70]⟩] 9)
  have hs2 := lit_strs w1 #[.string ⟨#[65]⟩, .string ⟨#[66]⟩, .string ⟨#[67]⟩, .string ⟨#[68]⟩, .string ⟨#[69]⟩, .string ⟨#[70]⟩] 9 names6 rfl 6 rfl
  have hb2 := hu2.cell hb1
  have h2 := h1.keep (hu2.kept _)
  have HW1 := Lib.hid hw1
  have HU2 := Lib.hid (hu1.trans hu2)
  have HS2 := Lib.hid hs2
  have HB2 := Lib.hid hb2
  have HR2 := Lib.hid h2
  have H255 := Lib.hid h255
  clear hu1 hb1 h1 h hu2 hs2 h2 hz1 h255
  by_cases q1 : rows.length < 4
  · have d1 : decide ((rows.length : Int) < 4) = true := decide_eq_true (by omega)
    clear q1
    go_enter Tryz.func4, Tryz.ntmps4
    go_wp2_with fail
    refine (HAW.out _).mono ?_
    rintro e w' ⟨rfl, hu⟩
    go_wp2_with fail
    go_ret
    exact ⟨rfl, HU2.out.trans hu⟩
  have d1 : decide ((rows.length : Int) < 4) = false := decide_eq_false (by omega)
  by_cases q2 : 6 < rows.length
  · have d2 : decide ((6 : Int) < (rows.length : Int)) = true := decide_eq_true (by omega)
    clear q1 q2
    go_enter Tryz.func4, Tryz.ntmps4
    go_wp2_with fail
    refine (HAW.out _).mono ?_
    rintro e w' ⟨rfl, hu⟩
    go_wp2_with fail
    go_ret
    exact ⟨rfl, HU2.out.trans hu⟩
  have d2 : decide ((6 : Int) < (rows.length : Int)) = false := decide_eq_false (by omega)
  have n4 : 4 ≤ rows.length := by omega
  have n6 : rows.length ≤ 6 := by omega
  have HN46 : Hid (4 ≤ rows.length ∧ rows.length ≤ 6) := ⟨n4, n6⟩
  obtain ⟨b, off, q, c, rfl, hc0, _⟩ := brows_get HR2.out (show 0 < rows.length by omega)
  rw [Nat.add_zero] at hc0
  have HC0 := Lib.hid hc0
  have i0 : (0 : Int) < (rows.length : Int) := by omega
  have i0n : 0 < rows.length := by omega
  have HRG := Lib.hid (rag_has Any _ _ rows w.heap.size HB2.out HR2.out (by omega) (by omega))
  obtain ⟨m, hm⟩ : ∃ m, (gl rows 0).length = m := ⟨_, rfl⟩
  rw [hm] at hc0
  have HM := Lib.hid hm
  clear q1 q2
  by_cases q3 : 6 < m
  · have d3 : decide ((6 : Int) < (m : Int)) = true := decide_eq_true (by omega)
    clear q3 hm
    go_enter Tryz.func4, Tryz.ntmps4
    go_wp2_with fail
    refine (HAW.out _).mono ?_
    rintro e w' ⟨rfl, hu⟩
    go_wp2_with fail
    go_ret
    exact ⟨rfl, HU2.out.trans hu⟩
  have d3 : decide ((6 : Int) < (m : Int)) = false := decide_eq_false (by omega)
  have m6 : m ≤ 6 := by omega
  clear q3
  cases hrag : ragB rows
  case true =>
    rw [hrag] at HRG
    clear hrag hm
    go_enter Tryz.func4, Tryz.ntmps4
    go_wp2_with fail
    refine HRG.out.mono ?_
    rintro e w3 ⟨rfl, n3, rfl⟩
    have HU3 := Lib.hid (HU2.out.trans (Up.drewN _ n3))
    go_wp2_with fail
    refine (HAW.out _).mono ?_
    rintro e w' ⟨rfl, hu⟩
    go_wp2_with fail
    go_ret
    exact ⟨rfl, HU3.out.trans hu⟩
  have HROW : Hid (∀ j, j < rows.length → (gl rows j).length = m) := fun j hj => by
    have h1 := of_decide_eq_false (any_false hrag hj)
    rw [← hm]; exact Classical.not_not.1 h1
  rw [hrag] at HRG
  clear hrag hm hn HM
  go_enter Tryz.func4, Tryz.ntmps4
  go_wp2_with fail
  generalize w1.alloc (.cells #[.string ⟨#[65]⟩, .string ⟨#[66]⟩, .string ⟨#[67]⟩, .string ⟨#[68]⟩, .string ⟨#[69]⟩, .string ⟨#[70]⟩] 9) = w2 at *
  generalize w1.heap.size = nb at *
  clear hw1 HW1
  refine HRG.out.mono ?_
  rintro e w3 ⟨rfl, n3, rfl⟩
  have hu3 := Up.drewN w2 n3
  have hb2 := hu3.cell HB2.out
  have hc0 := hu3.cell hc0
  have HB3 := Lib.hid hb2
  have HR3 := Lib.hid (HR2.out.keep (hu3.kept _))
  have HS3 := Lib.hid (StrsAt.keep HS2.out (hu3.kept _))
  have HU3 := Lib.hid (HU2.out.trans hu3)
  clear hu3 HRG HB2 HR2 HS2 HU2 HC0
  generalize w2.drewN n3 = w3 at *
  go_wp2_with fail
  clear hc0
  go_loopw [5, 6, 7, 8, 10, 11, 12, 13, 56] (fun c s _ _ _ _ _ _ i wr => ∃ k : Nat, k ≤ m ∧ i = .int .i64 k ∧ Hid (∃ cv sv, Ch2 w3.heap.size wr c s cv sv (chK rows k) (spK rows k)) ∧ Hid (Up w3 wr)) (fun _ _ _ _ _ _ _ _ i _ => m - (intOf i).toNat)
  case atStart => exact ⟨0, Nat.zero_le _, rfl, ⟨[], [], Ch2.start _ _⟩, Up.refl _⟩
  case round =>
    obtain ⟨k, hk, rfl, hCh, hUr⟩ := hrel
    obtain ⟨wo, rfl⟩ : ∃ wo : World, wo = wr := ⟨_, rfl⟩
    by_cases hlt : k < m
    · have hbo := hUr.out.cell HB3.out
      have HRo := Lib.hid (HR3.out.keep (hUr.out.kept _))
      have i1 : (0 : Int) ≤ (k : Int) := Int.natCast_nonneg _
      have i2 : (k : Int) < (m : Int) := Int.ofNat_lt.2 hlt
      have i3 : (k : Int) < 64 := by omega
      have HLT := Lib.hid hlt
      have HUo := Lib.hid hUr.out
      clear hlt hk hUr
      go_wp2_with fail
      go_loopw [8, 10, 61] (fun o _ i wr => ∃ j : Nat, j ≤ rows.length ∧ i = .int .i64 j ∧ Hid (Owns wo.heap.size 3 wr o (((stC rows k).take j).map (Value.int .i64))) ∧ Hid (Up wo wr)) (fun _ _ i _ => rows.length - (intOf i).toNat)
      case atStart => exact ⟨0, Nat.zero_le _, rfl, Owns.nil _ _ _, Up.refl _⟩
      case round =>
        obtain ⟨j, hj, rfl, hO, hUi⟩ := hrel
        obtain ⟨wi, rfl⟩ : ∃ wi : World, wi = wr := ⟨_, rfl⟩
        by_cases hjl : j < rows.length
        · obtain ⟨bb, oo, rq, rc, e0, hrc, hri⟩ := brows_get (HRo.out.keep (hUi.out.kept _)) hjl
          injection e0 with e0
          injection e0 with e1 e2
          subst e1; subst e2
          have hrl := HROW.out j hjl
          rw [hrl] at hrc hri
          obtain ⟨cb, co, rfl, hcc⟩ := sl_get hri (show k < m from HLT.out)
          have HTK : Hid ((stC rows k).take (j + 1) = (stC rows k).take j ++ [gi (gl rows j) k % 2]) := by
            have hj2 : j < (stC rows k).length := by rw [stC_len]; exact hjl
            unfold Hid
            rw [List.take_succ_eq_append_getElem hj2, ← stC_gi hjl]
            simp [gi, hj2]
          have hx := H255.out j k
          have HLL : Hid ((((stC rows k).take j).map (Value.int .i64)).length = j ∧ j ≤ 1000000) := ⟨by rw [List.length_map, List.length_take, stC_len]; omega, by omega⟩
          have HWZ : Hid (wo.heap.size ≤ wi.heap.size) := hUi.out.size
          have j1 : (0 : Int) ≤ (j : Int) := Int.natCast_nonneg _
          have j2 : (j : Int) < (rows.length : Int) := Int.ofNat_lt.2 hjl
          have j3 : (j : Int) < 64 := by omega
          have HJL := Lib.hid hjl
          have HUI := Lib.hid hUi.out
          generalize gi (gl rows j) k = x at *
          have htm : x.tmod 2 = x % 2 := Int.tmod_eq_emod_of_nonneg hx.1
          have hy : 0 ≤ x % 2 ∧ x % 2 ≤ 1 := by omega
          have x1 : 0 ≤ x := hx.1
          have x2 : x ≤ 255 := hx.2
          generalize x % 2 = y at *
          have y1 : 0 ≤ y := hy.1
          have y2 : y ≤ 1 := hy.2
          clear hri hjl hj hUi hx hy hrl
          go_wp2_with (at_builtin; refine wpList_appM wi rfl _ _ 26 rfl wo.heap.size 3 (.int .i64 0) 8 Tryz.underlying26 Tryz.infoI rfl (by decide) hO.out rfl (.int .i64 y) _ rfl rfl rfl _ HLL.out.1 HLL.out.2 HWZ.out ?_; intro g8 cap8 w8 hown1 hgr1 hbe1)
          go_roundw
          case rel => exact ⟨j + 1, HJL.out, by go_num, by unfold Hid; rw [HTK.out, List.map_append]; exact hown1, Below.trans HUI.out hbe1⟩
          case measure => have := HJL.out; simp [intOf]; omega
        · obtain rfl : j = rows.length := by omega
          have hO2 := hO.out
          rw [List.take_of_length_le (by rw [stC_len]; exact Nat.le_refl _)] at hO2
          obtain ⟨sp, sc, hov, _⟩ := Owns.form (n := rows.length) hO2 (by rw [List.length_map, stC_len])
          have HST := Lib.hid (Owns.ints hO2)
          obtain ⟨cv, sv, hch⟩ := hCh.out
          have HCH := Lib.hid (hch.up hUi.out)
          have HCO := Lib.hid hch
          have HUI := Lib.hid hUi.out
          have hse : osErr (stC rows k) = 0 := stC_err (by omega)
          have HSE := Lib.hid hse
          have hov2 : osV (stC rows k) = osB (stC rows k) := by unfold osV; rw [hse]; rfl
          have HOV := Lib.hid hov2
          have HCK : Hid (chK rows (k + 1) = if osB (stC rows k) then chK rows k ++ [stC rows k] else chK rows k) := rfl
          have HSK : Hid (spK rows (k + 1) = if osB (stC rows k) then spK rows k ++ [osO (stC rows k) (stC rows k).length] else spK rows k) := rfl
          have HRR : Hid (osB (stC rows k) = true → osR (stC rows k) = osO (stC rows k) (stC rows k).length) := fun h => by unfold osR; rw [if_pos ⟨hse, h⟩]
          have HOS := Lib.hid (ofStatesN_t _ wi _ (stC rows k) (Owns.ints hO2) (by rw [stC_len]; omega))
          clear hj hjl hO hO2 hUi hCh hch hse hov2
          subst hov
          go_wp2_with fail
          refine HOS.out.mono ?_
          rintro e w5 ⟨hu5, xv, rfl, hx5⟩
          rw [HSE.out, HOV.out]
          obtain ⟨xp, xc, rfl, _, _⟩ := SlAt.open hx5
          have HX5 := Lib.hid hx5
          have HCH5 := Lib.hid (HCH.out.up hu5)
          have HST5 := Lib.hid (IntsAt.keep HST.out (hu5.kept _))
          have HU5 := Lib.hid (HUI.out.trans hu5)
          have HW5 := Lib.hid hu5
          clear hu5 hx5 HOS HCH HST
          cases hB : osB (stC rows k)
          · rw [hB] at HCK HSK
            clear hB HRR
            generalize (osR (stC rows k)).length = xl at *
            go_wp2_with fail
            go_roundw
            case rel => exact ⟨k + 1, HLT.out, by go_num, ⟨cv, sv, by rw [HCK.out, HSK.out]; exact HCH5.out⟩, HUo.out.trans HU5.out⟩
            case measure => have := HLT.out; simp [intOf]; omega
          · rw [hB] at HCK HSK
            have hRR := HRR.out hB
            generalize (osR (stC rows k)).length = xl at *
            rw [hRR] at HX5
            have hcl := chK_len rows k
            have HLC : Hid (cv.length = (chK rows k).length ∧ (chK rows k).length ≤ 1000000 ∧ sv.length = (chK rows k).length) := ⟨HCH5.out.lc, by have := HLT.out; omega, by rw [HCH5.out.ls]; exact hcl.2⟩
            have HZ5 : Hid (w3.heap.size ≤ w5.heap.size) := Nat.le_trans HUo.out.size HU5.out.size
            have hfar : ∀ z : Nat, wo.heap.size ≤ z → u5.ownBlock ≠ some z ∧ u6.ownBlock ≠ some z := fun z hz => ⟨fun e => by have := (ownBlock_lt HCO.out.co e).2; omega, fun e => by have := (ownBlock_lt HCO.out.so e).2; omega⟩
            have HRC : Hid (IntsAt (fun z => u5.ownBlock ≠ some z ∧ u6.ownBlock ≠ some z) w5 (.slice sp rows.length sc) (stC rows k)) := HST5.out.sub fun z hz _ => hfar z hz
            have HRS : Hid (IntsAt (fun z => u5.ownBlock ≠ some z ∧ u6.ownBlock ≠ some z) w5 (.slice xp xl xc) (osO (stC rows k) (stC rows k).length)) := HX5.out.sub fun z hz _ => hfar z (Nat.le_trans HUI.out.size hz)
            clear hB HRR hRR hcl hfar HX5 HST5 HCO
            go_wp2_with (first
              | (at_builtin; refine wpList_appG w5 rfl _ _ 22 rfl w3.heap.size 26 (.slice none 0 0) 24 Tryz.underlying22 Tryz.infoSI3 rfl (by decide) HCH5.out.co rfl (.slice sp rows.length sc) rfl rfl _ HLC.out.1 HLC.out.2.1 HZ5.out ?_; intro g8 cap8 w8 hown8 hgr8 hor8; have HCH8 := Lib.hid (HCH5.out.appC HRC.out hown8 hgr8 hor8); have HRS8 := Lib.hid (row_growC (k := (chK rows k).length + 1) (cap := cap8) HRS.out hgr8 hor8); have HB8 : Hid (Below w3.heap.size w5 w8) := HCH5.out.co.grown_below hgr8 HZ5.out; clear hown8 hgr8 hor8)
              | (at_builtin; refine wpList_appG w8 rfl _ _ 22 rfl w3.heap.size 26 (.slice none 0 0) 24 Tryz.underlying22 Tryz.infoSI3 rfl (by decide) HCH8.out.so rfl (.slice xp xl xc) rfl rfl _ HLC.out.2.2 HLC.out.2.1 (Nat.le_trans HZ5.out HB8.out.size) ?_; intro g9 cap9 w9 hown9 hgr9 hor9; have HCH9 := Lib.hid (HCH8.out.appS HRS8.out hown9 hgr9 hor9); have HB9 : Hid (Below w3.heap.size w5 w9) := Below.trans HB8.out (HCH8.out.so.grown_below hgr9 (Nat.le_trans HZ5.out HB8.out.size)); clear hown9 hgr9 hor9))
            go_roundw
            case rel => exact ⟨k + 1, HLT.out, by go_num, ⟨_, _, by rw [HCK.out, HSK.out]; exact HCH9.out⟩, Below.trans (HUo.out.trans HU5.out) HB9.out⟩
            case measure => have := HLT.out; simp [intOf]; omega
    · obtain rfl : k = m := by omega
      obtain ⟨cv, sv, hch⟩ := hCh.out
      have h4 := HN46.out.1
      have h6 := HN46.out.2
      obtain ⟨hb17, hall⟩ := sum_bld h4 h6 (k := k) m6
      obtain ⟨ha1, ha2, ha3⟩ := al_good hall
      obtain ⟨cp, cc, rfl, _⟩ := hch.co.form (n := (chK rows k).length) hch.lc
      obtain ⟨sp, sc, rfl, _⟩ := hch.so.form (n := (spK rows k).length) hch.ls
      have hcl := chK_len rows k
      have hrS : ∀ i, (gl (spK rows k) i).length ≤ 1000000 := fun i => by
        by_cases hi : i < (spK rows k).length
        · have := (spK_ok (by omega) (gl_in hi)).len; omega
        · have : gl (spK rows k) i = [] := by simp [gl, show (spK rows k).length ≤ i by omega]
          rw [this]; decide
      have HAL := Lib.hid (all_t Any wo _ (rows.length : Int) (spK rows k) hch.rowsS (by omega) hrS)
      rw [ha1, ha2, ha3, hall] at HAL
      have HNM := Lib.hid (strs_front (StrsAt.keep HS3.out (hUr.out.kept _)) (k := rows.length) (show rows.length ≤ 6 by omega))
      have HBD : Hid (∀ W, Up wo W → Calls Tryz.prog 39 #[.slice (some ⟨nb, 0, none⟩) rows.length 6, .slice sp (spK rows k).length sc] W (BdPost W (names6.take rows.length) (spK rows k))) := fun W hW =>
        build_t Any W _ _ _ _ (StrsAt.keep HNM.out (hW.kept _)) (RowsAt.keep hch.rowsS (hW.kept _)) (by rw [nm6_len h6]; omega) nm6_small (by omega) hrS
      have HU := Lib.hid (HU3.out.trans hUr.out)
      have HCR := Lib.hid hch.rowsC
      by_cases hp : pairI (spK rows k) < 0
      · have hpr : prB (spK rows k) = true := prB_lt hp
        have he0 := sum_good h4 h6 m6 hp
        obtain ⟨ho, hte, hst⟩ := sum_law h6 he0
        rw [hpr] at HAL
        have HE0 := Lib.hid he0
        have HO := Lib.hid ho
        have HTE := Lib.hid hte
        have HST := Lib.hid hst
        have hnm := nm6_len h6
        have HNL := Lib.hid hnm
        have hcm : (chK rows k).length ≤ 6 := by omega
        clear hch hUr hCh hb17 hall ha1 ha2 ha3 hcl hrS hp hpr he0 ho hte hst hnm hk hlt HN46 H255 HROW HB3 HR3 HS3 HU3 h4 h6 n4
        go_wp2_with fail
        refine HAL.out.mono ?_
        rintro e w5 ⟨rfl, hu5⟩
        have HU5 := Lib.hid hu5
        clear hu5 HAL
        go_wp2_with fail
        refine (HBD.out w5 HU5.out).mono ?_
        rintro e w6 ⟨hu6, bv, rfl, htb⟩
        rw [HE0.out]
        obtain ⟨BP, BN, rfl, hBP, hBN⟩ := htb
        obtain ⟨bp, bc, rfl, _, _⟩ := SlAt.open hBP
        obtain ⟨np, nc, rfl, _, _⟩ := SlAt.open hBN
        clear HBD HE0
        generalize bldR (names6.take rows.length) (spK rows k) = T at *
        generalize names6.take rows.length = names at *
        have hal := Up.alloc w6 (.cells #[.slice bp T.ps.length bc, .slice np T.ns.length nc] 45)
        have HX7 := Lib.hid ((HU5.out.trans hu6).trans hal)
        have b0 := box2_0 w6 (.slice bp T.ps.length bc) (.slice np T.ns.length nc) 45
        have b1 := box2_1 w6 (.slice bp T.ps.length bc) (.slice np T.ns.length nc) 45
        have HT7 : Hid (TreeAt Any (w6.alloc (.cells #[.slice bp T.ps.length bc, .slice np T.ns.length nc] 45)) (.agg #[.slice bp T.ps.length bc, .slice np T.ns.length nc]) T) := TreeAt.keep ⟨_, _, rfl, hBP, hBN⟩ (hal.kept _)
        obtain ⟨_, hp64, hnl, _, _⟩ := treeErr_zero HTE.out
        have hll := HO.out.len
        rw [HNL.out] at hll
        have HTS := Lib.hid (tree_small HTE.out)
        have HSZ : Hid (T.ps.length ≤ 64 ∧ T.ns.length = T.ps.length) := ⟨hp64, hnl⟩
        have HLL := Lib.hid hll
        clear hal hu6 hBP hBN HU5 hp64 hnl hll
        go_wp2_with fail
        generalize w6.alloc (.cells #[.slice bp T.ps.length bc, .slice np T.ns.length nc] 45) = w7 at *
        have HB0 := Lib.hid b0
        have HB1 := Lib.hid b1
        clear b0 b1
        generalize w6.heap.size = tb at *
        refine (leaves_t Any w7 _ T HT7.out (by have := HSZ.out; omega) (by have := HSZ.out; omega) HTS.out).mono ?_
        rintro e w8 ⟨hu8, hc8⟩
        obtain ⟨lv, rfl, hlv⟩ : ∃ v, e = .returned (.tuple #[v, .int .i64 0]) ∧ IntsAt (fun b => w7.heap.size ≤ b) w8 v (leavesL T.ns) := by
          rcases hc8 with ⟨h, _⟩ | ⟨_, h⟩
          · exact absurd HTE.out h
          · exact h
        obtain ⟨lp, lc, rfl, hls⟩ : ∃ lp lc, lv = .slice lp rows.length lc ∧ SlAt Any w8 (.slice lp rows.length lc) rows.length (fun k => .int .i64 (gi (leavesL T.ns) k)) := by
          have h := hlv
          unfold IntsAt at h
          rw [HLL.out] at h
          obtain ⟨lp, lc, rfl, _⟩ := SlAt.open h
          exact ⟨lp, lc, rfl, h.sub fun _ _ _ => trivial⟩
        have hu8 : Up w7 w8 := hu8
        have HLS := Lib.hid hls
        have HX8 := Lib.hid (HX7.out.trans hu8)
        have HT8 := Lib.hid (HT7.out.keep (hu8.kept _))
        have HB0 := Lib.hid (hu8.cell HB0.out)
        have HB1 := Lib.hid (hu8.cell HB1.out)
        have HNM8 := Lib.hid (StrsAt.keep HNM.out (HX8.out.kept _))
        have HCR8 := Lib.hid (HCR.out.keep (HX8.out.kept _))
        have HU8 := Lib.hid (HU.out.trans HX8.out)
        have d5 : ((rows.length : Int) != (rows.length : Int)) = false := bne_self_eq_false _
        clear hu8 hc8 hlv hls HT7 HX7 HX8 HNM HCR HU
        go_wp2_with fail
        go_loopw [23, 24, 26, 27, 28, 29, 143] (fun _ _ _ _ _ _ i wr => ∃ j : Nat, j ≤ (chK rows k).length ∧ i = .int .i64 j ∧ Hid (Up w8 wr)) (fun _ _ _ _ _ _ i _ => (chK rows k).length - (intOf i).toNat)
        case atStart => exact ⟨0, Nat.zero_le _, rfl, Up.refl _⟩
        case round =>
          obtain ⟨j, hj, rfl, hUr⟩ := hrel
          obtain ⟨wo, rfl⟩ : ∃ wo : World, wo = wr := ⟨_, rfl⟩
          by_cases hjl : j < (chK rows k).length
          · obtain ⟨cb, co, rq, rc, rfl, hrc, hri⟩ := rows_get (HCR8.out.keep (hUr.out.kept _)) hjl
            obtain ⟨hs1, hs2, hs3⟩ := HST.out _ (gl_in hjl)
            rw [hs1] at hrc
            have HRI : Hid (IntsAt Any wo (.slice rq rows.length rc) (gl (chK rows k) j)) := by
              have h := hri; rw [hs1] at h; exact h
            have HS1 := Lib.hid hs1
            have HS2 := Lib.hid hs2
            have HS3 := Lib.hid hs3
            have HJ := Lib.hid hjl
            have HUo := Lib.hid hUr.out
            have j1 : (0 : Int) ≤ (j : Int) := Int.natCast_nonneg _
            have j2 : (j : Int) < ((chK rows k).length : Int) := Int.ofNat_lt.2 hjl
            have j3 : (j : Int) < 64 := by omega
            generalize gl (chK rows k) j = st at *
            clear hri hs1 hs2 hs3 hj hjl hUr
            go_wp2_with fail
            go_loopw [24, 26, 27, 149] (fun o _ _ i wr => ∃ b : Nat, b ≤ rows.length ∧ i = .int .i64 b ∧ Hid (Owns wo.heap.size 3 wr o ((ownP T names st b).map (Value.int .i64))) ∧ Hid (Up wo wr)) (fun _ _ _ i _ => rows.length - (intOf i).toNat)
            case atStart => exact ⟨0, Nat.zero_le _, rfl, Owns.nil _ _ _, Up.refl _⟩
            case round =>
              obtain ⟨x, hx, rfl, hO, hUi⟩ := hrel
              obtain ⟨wi, rfl⟩ : ∃ wi : World, wi = wr := ⟨_, rfl⟩
              have HXi := Lib.hid (HUo.out.trans hUi.out)
              by_cases hxl : x < rows.length
              · obtain ⟨lb, lo, rfl, hlc⟩ := sl_get (SlAt.keep HLS.out (HXi.out.kept _)) hxl
                obtain ⟨v, hv, hvn, hv0⟩ := leaf_nat (show x < (leavesL T.ns).length by rw [HLL.out]; exact hxl)
                rw [hv] at hlc
                have hvp : v < T.ps.length := by have := HSZ.out; omega
                obtain ⟨s, hs, _, fs⟩ := leaf_b HO.out hvp hv0
                rw [HNL.out] at hs
                obtain ⟨nbb, noo, rfl, hnc⟩ := strs_get (StrsAt.keep (show StrsAt Any w8 (.slice np T.ns.length nc) T.ns by obtain ⟨P9, N9, e9, _, h9⟩ := HT8.out; injection e9 with e9; cases e9; exact h9) (HXi.out.kept _)) hvn
                obtain ⟨sb, so, rfl, hsc⟩ := sl_get (show SlAt Any wi (.slice rq rows.length rc) rows.length (fun k => .int .i64 (gi st k)) by have h := IntsAt.keep HRI.out (hUi.out.kept _); unfold IntsAt at h; rw [HS1.out] at h; exact h) hs
                have HIX : Hid (∀ W, Up wi W → Calls Tryz.prog 41 #[.slice (some ⟨nb, 0, none⟩) rows.length 6, .string (gs T.ns v)] W fun e w' => e = .returned (.int .i64 (s : Int)) ∧ W = w') := fun W hW => by
                  have h := index_str_t Any W _ names.length (gs names) (gs T.ns v) (StrsAt.keep HNM8.out ((HXi.out.trans hW).kept _)) (by rw [HNL.out]; omega)
                  have fs' : firstIx (fun j => decide (gs T.ns v = gs names j)) names.length = (s : Int) := fs
                  rw [fs'] at h
                  exact h
                have HOW : Hid (ownP T names st (x + 1) = ownP T names st x ++ [gi st s]) := by
                  unfold Hid
                  rw [ownP_succ, hv, Int.toNat_natCast, fs, Int.toNat_natCast]
                have hb0 := HXi.out.cell HB0.out
                have hb1 := HXi.out.cell HB1.out
                have HSC := Lib.hid hsc
                have HC0 := Lib.hid hb0
                have HC1 := Lib.hid hb1
                have HNC := Lib.hid hnc
                have n1 : (0 : Int) ≤ (rows.length : Int) := Int.natCast_nonneg _
                have n2 : (rows.length : Int) ≤ 6 := by omega
                have v1 : (0 : Int) ≤ (v : Int) := Int.natCast_nonneg _
                have v2 : (v : Int) < (T.ns.length : Int) := Int.ofNat_lt.2 hvn
                have s1 : (0 : Int) ≤ (s : Int) := Int.natCast_nonneg _
                have s2 : (s : Int) < (rows.length : Int) := Int.ofNat_lt.2 hs
                have x1 : (0 : Int) ≤ (x : Int) := Int.natCast_nonneg _
                have x2 : (x : Int) < (rows.length : Int) := Int.ofNat_lt.2 hxl
                have x3 : (x : Int) < 64 := by omega
                have d6 : decide ((v : Int) < 0) = false := decide_eq_false (by omega)
                have d7 : decide ((T.ns.length : Int) ≤ (v : Int)) = false := decide_eq_false (by omega)
                have d8 : decide ((s : Int) < 0) = false := decide_eq_false (by omega)
                have HV2 : Hid (v < T.ns.length ∧ T.ns.length ≤ 64 ∧ s < rows.length) := ⟨hvn, by have := HSZ.out; omega, hs⟩
                have HLO : Hid (((ownP T names st x).map (Value.int .i64)).length = x ∧ x ≤ 1000000) := ⟨by rw [List.length_map, ownP_len], by omega⟩
                have HWZ : Hid (wo.heap.size ≤ wi.heap.size) := hUi.out.size
                have HXL := Lib.hid hxl
                have HOO := Lib.hid hO.out
                have HUI := Lib.hid hUi.out
                clear hv0 hvp hv fs hsc hnc hx hO hUi
                go_wp2_with fail
                have hup : Hid (Up wi (wi.drewN 1)) := Up.drewN wi 1
                go_region_held3 (fun w' => Hid (Up wi w') ∧ w'.cell? ⟨tb, 0, none⟩ = some (.slice bp T.ps.length bc) ∧ w'.cell? ⟨tb, 1, none⟩ = some (.slice (some ⟨nbb, noo, none⟩) T.ns.length nc) ∧ w'.cell? ⟨nbb, noo + v, none⟩ = some (.string (gs T.ns v))) (exact ⟨hup, hup.out.cell HC0.out, hup.out.cell HC1.out, hup.out.cell HNC.out⟩) (first
                  | (go_at_call 41; refine (HIX.out _ hup.out).mono ?_; rintro e w9 ⟨rfl, rfl⟩))
                have HO9 := Lib.hid (HOO.out.same2 fun b hb => Below.block hup.out b (ownBlock_lt HOO.out hb).2)
                have hsc := hup.out.cell HSC.out
                have HU9 := Lib.hid (HUI.out.trans hup.out)
                have HWZ9 : Hid (wo.heap.size ≤ (wi.drewN 1).heap.size) := HU9.out.size
                clear hup HOO HIX HSC HC0 HC1 HNC HWZ HUI
                generalize wi.drewN 1 = w9 at *
                go_wp2_with (at_builtin; refine wpList_appM w9 rfl _ _ 26 rfl wo.heap.size 3 (.int .i64 0) 8 Tryz.underlying26 Tryz.infoI rfl (by decide) HO9.out rfl (.int .i64 (gi st s)) _ rfl rfl rfl _ HLO.out.1 HLO.out.2 HWZ9.out ?_; intro g8 cap8 w8' hown1 hgr1 hbe1)
                go_roundw
                case rel => exact ⟨x + 1, HXL.out, by go_num, by unfold Hid; rw [HOW.out, List.map_append]; exact hown1, Below.trans HU9.out hbe1⟩
                case measure => have := HXL.out; simp [intOf]; omega
              · obtain rfl : x = rows.length := by omega
                have hO2 := hO.out
                rw [← HLL.out] at hO2
                obtain ⟨op, oc, rfl, _⟩ := Owns.form (n := rows.length) hO2 (by rw [List.length_map, ownP_len, HLL.out])
                have HOI := Lib.hid (Owns.ints hO2)
                have HFI := Lib.hid (fitch_t Any wi _ _ T _ (HT8.out.keep (HXi.out.kept _)) ((Owns.ints hO2).sub (T := Any) fun _ _ _ => trivial) (by have := HSZ.out; omega) (by have := HSZ.out; omega) HTS.out (by rw [ownP_len, HLL.out]; omega))
                have hb0 := HXi.out.cell HB0.out
                have hb1 := HXi.out.cell HB1.out
                clear hO hO2 hx hxl
                go_wp2_with fail
                refine HFI.out.mono ?_
                rintro e w9 ⟨hu9, rfl⟩
                rw [HS2.out, HS3.out]
                have HU9 := Lib.hid (HXi.out.trans hu9)
                clear hu9 HFI hUi
                go_wp2_with fail
                go_roundw
                case rel => exact ⟨j + 1, HJ.out, by go_num, HU9.out⟩
                case measure => have := HJ.out; simp [intOf]; omega
          · obtain rfl : j = (chK rows k).length := by omega
            go_wp2_with fail
            refine (HAW.out _).mono ?_
            rintro e w' ⟨rfl, hu⟩
            go_wp2_with fail
            go_ret
            exact ⟨rfl, (HU8.out.trans hUr.out).trans hu⟩
      · have hpr : prB (spK rows k) = false := prB_ge hp
        have he0 := sum_bad h4 h6 m6 hp
        rw [hpr] at HAL
        have HE0 := Lib.hid he0
        clear hch hUr hCh hb17 hall ha1 ha2 ha3 hcl hrS hp hpr he0 hk hlt HNM HCR HN46 H255 HROW HB3 HR3 HS3 HU3 h4 h6 n4
        go_wp2_with fail
        refine HAL.out.mono ?_
        rintro e w5 ⟨rfl, hu5⟩
        have HU5 := Lib.hid hu5
        clear hu5 HAL
        go_wp2_with fail
        refine (HBD.out w5 HU5.out).mono ?_
        rintro e w6 ⟨hu6, bv, rfl, htb⟩
        rw [HE0.out]
        obtain ⟨BP, BN, rfl, hBP, hBN⟩ := htb
        obtain ⟨bp, bc, rfl, _, _⟩ := SlAt.open hBP
        obtain ⟨np, nc, rfl, _, _⟩ := SlAt.open hBN
        have HU6 := Lib.hid (HU5.out.trans hu6)
        clear hu6 hBP hBN HBD HU5 HE0
        generalize (bldR (names6.take rows.length) (spK rows k)).ps.length = x at *
        generalize (bldR (names6.take rows.length) (spK rows k)).ns.length = y at *
        have hal := Up.alloc w6 (.cells #[.slice bp x bc, .slice np y nc] 45)
        have HU7 := Lib.hid (HU.out.trans (HU6.out.trans hal))
        clear hal HU6 HU
        go_wp2_with fail
        refine (HAW.out _).mono ?_
        rintro e w' ⟨rfl, hu⟩
        go_wp2_with fail
        go_ret
        exact ⟨rfl, HU7.out.trans hu⟩
end Go.Proofs.YtcbmbhghmfehpaaGreat
