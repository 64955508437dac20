/- The contract of slices.CompactFunc at lists of ints that the caller owns. The contract of slices.SortFunc at lists of ints: the laying. slices.SortFunc at lists of ints with slices.Compare: what the caller owns, sorted. -/
import Derived.Test.YtpjijbophjdgaaaGreatQ21
import Derived.Test.YtpjijbophjdgaaaGreatQ4
import Derived.Shelf.SlGeneric
import Derived.Shelf.SlSortCmp.NoneTotal
import Derived.Test.YtpjijbophjdgaaaGreatProg
import Derived.Test.YtpjijbophjdgaaaGreatQ45
import Derived.Test.YtpjijbophjdgaaaGreatQ6
namespace Go.Proofs.YtpjijbophjdgaaaGreat
open Go.RowKit Go.Deep
def kpC (P : Nat → Bool) (j : Nat) : List Nat := (List.range j).filter fun i => !P i
theorem kpC_len (P : Nat → Bool) (j : Nat) : (kpC P j).length ≤ j := by
  unfold kpC
  refine Nat.le_trans (List.length_filter_le _ _) ?_
  rw [List.length_range]; exact Nat.le_refl _
theorem kpC_succ (P : Nat → Bool) (j : Nat) : kpC P (j + 1) = if P j then kpC P j else kpC P j ++ [j] := by
  unfold kpC
  rw [List.range_succ, List.filter_append]
  cases h : P j
  · rw [if_neg (by decide), List.filter_cons_of_pos (by rw [h]; rfl)]; rfl
  · rw [if_pos rfl, List.filter_cons_of_neg (by rw [h]; decide)]; simp
theorem kpC_all {P : Nat → Bool} {j : Nat} (h : ∀ i, i < j → P i = false) : kpC P j = List.range j := by
  unfold kpC
  rw [List.filter_eq_self]
  intro i hi
  rw [h i (List.mem_range.1 hi)]; rfl
def at0 (vs : List Value) (j : Nat) : Value := vs.getD j undef
structure CfW (vs : List Value) (P : Nat → Bool) (base : Nat) (w wr : World) (g cap j : Nat) (X : List Value) : Prop where
  own : Owns base 26 wr (.slice (some ⟨g, 0, none⟩) vs.length cap) X
  len : X.length = vs.length
  head : X.take (kpC P j).length = (kpC P j).map (at0 vs)
  rest : ∀ q, (kpC P j).length ≤ q → X[q]? = vs[q]?
  up : w.grownBy wr (some g)
section
variable {vs : List Value} {P : Nat → Bool} {base : Nat} {w wr : World} {g cap : Nat} {X : List Value}
theorem at0_some {j : Nat} (hj : j < vs.length) : vs[j]? = some (at0 vs j) := by unfold at0; rw [List.getD_eq_getElem?_getD, List.getElem?_eq_getElem hj]; rfl
theorem CfW.start (h : Owns base 26 w (.slice (some ⟨g, 0, none⟩) vs.length cap) vs) {j : Nat} (hj : j < vs.length) (hno : ∀ i, i < j → P i = false) (hP : P j = true) (m : Nat) :
    CfW vs P base w (w.drewN m) g cap (j + 1) vs ∧ (kpC P (j + 1)).length = j := by
  have e : kpC P (j + 1) = List.range j := by rw [kpC_succ, hP, if_pos rfl, kpC_all hno]
  refine ⟨⟨h.same2 fun _ _ => rfl, rfl, ?_, fun _ _ => rfl, grown_up (Up.drewN w m) _⟩, by rw [e, List.length_range]⟩
  rw [e, List.length_range]
  apply List.ext_getElem?
  intro i
  by_cases hi : i < j
  · rw [List.getElem?_take_of_lt hi, List.getElem?_map, List.getElem?_range hi, at0_some (by omega)]; rfl
  · rw [List.getElem?_take_eq_none (by omega), List.getElem?_eq_none (by simp; omega)]
theorem CfW.skip {j : Nat} (h : CfW vs P base w wr g cap j X) (hP : P j = true) (m : Nat) : CfW vs P base w (wr.drewN m) g cap (j + 1) X := by
  have e : kpC P (j + 1) = kpC P j := by rw [kpC_succ, if_pos hP]
  exact ⟨h.own.same2 fun _ _ => rfl, h.len, by rw [e]; exact h.head, by rw [e]; exact h.rest, grown_trans h.up (grown_up (Up.drewN wr m) _)⟩
theorem CfW.drewn {j : Nat} (h : CfW vs P base w wr g cap j X) (m : Nat) : CfW vs P base w (wr.drewN m) g cap j X :=
  ⟨h.own.same2 fun _ _ => rfl, h.len, h.head, h.rest, grown_trans h.up (grown_up (Up.drewN wr m) _)⟩
theorem CfW.cells {j : Nat} (h : CfW vs P base w wr g cap j X) {q : Nat} (hq : (kpC P j).length ≤ q) (hl : q < vs.length) : wr.cell? ⟨g, q, none⟩ = some (at0 vs q) :=
  (owns_cell h.own (by rw [h.rest q hq]; exact at0_some hl)).1
theorem CfW.push {j : Nat} (h : CfW vs P base w wr g cap j X) (hj : j < vs.length) (hP : P j = false) (hk : (kpC P j).length < j) :
    (∃ x, wr.cell? ⟨g, (kpC P j).length, none⟩ = some x) ∧ wr.frozen? ⟨g, (kpC P j).length, none⟩ = false ∧ (kpC P (j + 1)).length = (kpC P j).length + 1 ∧
      ∃ X', CfW vs P base w (wr.setCell ⟨g, (kpC P j).length, none⟩ (at0 vs j)) g cap (j + 1) X' := by
  obtain ⟨g2, cap2, e1, _, _, hc, hf, hs⟩ := h.own.set (j := (kpC P j).length) (by rw [h.len]; omega)
  injection e1 with a1 a2 a3
  injection a1 with a1
  injection a1 with a1
  subst a1
  have hkk := kpC_succ P j
  rw [if_neg (by rw [hP]; decide)] at hkk
  have hl : (kpC P (j + 1)).length = (kpC P j).length + 1 := by rw [hkk, List.length_append]; rfl
  refine ⟨⟨_, hc⟩, hf, hl, X.set (kpC P j).length (at0 vs j), hs _, by rw [List.length_set]; exact h.len, ?_, fun q hq => ?_, grown_trans h.up grown_set⟩
  · rw [hl, hkk, List.map_append, ← h.head]
    have hlt : (kpC P j).length < (X.set (kpC P j).length (at0 vs j)).length := by rw [List.length_set, h.len]; omega
    rw [List.take_succ_eq_append_getElem hlt, List.take_set_of_le (Nat.le_refl _), List.getElem_set_self]; rfl
  · rw [hl] at hq
    rw [List.getElem?_set_ne (by omega)]; exact h.rest q (by omega)
theorem CfW.done {m : Nat} (h : CfW vs P base w wr g cap vs.length X) (hm : (kpC P vs.length).length = m) (hlt : m < vs.length) :
    (∀ i, i < vs.length - m → (wr.cell? ⟨g, m + i, none⟩).isSome = true) ∧ (∀ i, i < vs.length - m → wr.frozen? ⟨g, m + i, none⟩ = false) ∧
      Owns base 26 (wr.setCells g m (List.replicate (vs.length - m) (.slice none 0 0))) (.slice (some ⟨g, 0, none⟩) m cap) ((kpC P vs.length).map (at0 vs)) ∧
      w.grownBy (wr.setCells g m (List.replicate (vs.length - m) (.slice none 0 0))) (some g) := by
  have hcell : ∀ i, i < vs.length - m → wr.cell? ⟨g, m + i, none⟩ = some (X.getD (m + i) undef) ∧ wr.frozen? ⟨g, m + i, none⟩ = false := fun i hi => by
    have hl : m + i < X.length := by rw [h.len]; omega
    exact owns_cell h.own (by rw [List.getD_eq_getElem?_getD, List.getElem?_eq_getElem hl]; rfl)
  refine ⟨fun i hi => by rw [(hcell i hi).1]; rfl, fun i hi => (hcell i hi).2, ?_, grown_trans h.up (grown_sets _ _ _)⟩
  refine owns_tails _ _ _ (Nat.le_refl _) ?_
  have := owns_take h.own (m := m) (by omega)
  rw [← hm, h.head] at this
  rw [← hm]; exact this
end
theorem Tryz.zeroSlI : ∀ w, (zeroValue 26).run Tryz.prog w = .ok (.slice none 0 0) w := fun w => by simp [Tryz.zeroValue26]
set_option maxRecDepth 100000 in
set_option maxHeartbeats 4000000 in
theorem compactF_t {P : Nat → Bool} (g : Nat) (lb : Array Value) (eg : ∀ args w, (callFunc g args).run Tryz.prog w = .ok (.enter g args) w) {base : Nat} {w : World} {bk cap : Nat} {vs : List Value} (h : Owns base 26 w (.slice (some ⟨bk, 0, none⟩) vs.length cap) vs) (hn : vs.length ≤ 1000000) (hP0 : P 0 = false)
    (hsl : ∀ j, j < vs.length → ∃ q n c, at0 vs j = .slice q n c)
    (hp : ∀ j, 0 < j → j < vs.length → ∀ W, w.grownBy W (some bk) → Calls Tryz.prog g (#[at0 vs j, at0 vs (j - 1)] ++ lb) W fun e W' => e = .returned (.bool (P j)) ∧ ∃ m, W' = W.drewN m) :
    Calls Tryz.prog 86 #[.slice (some ⟨bk, 0, none⟩) vs.length cap, .func (.func g) #[] lb] w fun e w' => ∃ m, e = .returned (.slice (some ⟨bk, 0, none⟩) m cap) ∧ Owns base 26 w' (.slice (some ⟨bk, 0, none⟩) m cap) ((kpC P vs.length).map (at0 vs)) ∧ w.grownBy w' (some bk) := by
  have HO := Lib.hid h
  have HP := Lib.hid hp
  have HSL := Lib.hid hsl
  have HALL : Hid ((∀ i, i < vs.length → P i = false) → (kpC P vs.length).map (at0 vs) = vs) := fun hno => by
    rw [kpC_all hno]
    apply List.ext_getElem?
    intro i
    by_cases hi : i < vs.length
    · rw [List.getElem?_map, List.getElem?_range hi, at0_some hi]; rfl
    · rw [List.getElem?_eq_none (by simp; omega), List.getElem?_eq_none (by omega)]
  have hcap : vs.length ≤ cap := owns_cap h
  clear h hp hsl
  by_cases h2 : vs.length < 2
  · have h2i : (vs.length : Int) < 2 := by omega
    have HN : Hid (∀ i, i < vs.length → P i = false) := fun i hi => by rw [show i = 0 by omega]; exact hP0
    clear h2
    go_enter Tryz.func86, Tryz.ntmps86
    go_wp2_with fail
    go_ret
    exact ⟨_, rfl, by rw [HALL.out HN.out]; exact HO.out, grown_refl _ _⟩
  have h2i : ¬ (vs.length : Int) < 2 := by omega
  have n6 : (vs.length : Int) ≤ 1000000 := by omega
  have HP0 := Lib.hid hP0
  go_enter Tryz.func86, Tryz.ntmps86
  go_wp2_with fail
  go_loopw [5, 6, 7] (fun x _ _ wr => ∃ k : Nat, 1 ≤ k ∧ k ≤ vs.length ∧ x = .int .i64 k ∧ Hid (∀ i, i < k → P i = false) ∧ Hid (∃ m, wr = w.drewN m)) (fun x _ _ _ => vs.length - (intOf x).toNat)
  case atStart => exact ⟨1, Nat.le_refl _, by omega, by go_num, fun i hi => by rw [show i = 0 by omega]; exact HP0.out, 0, rfl⟩
  case round =>
    obtain ⟨k, hk1, hk, rfl, hno, hm⟩ := hrel
    obtain ⟨m1, hwo⟩ := hm.out
    obtain ⟨wo, rfl⟩ : ∃ wo : World, wo = wr := ⟨_, rfl⟩
    have HWO := Lib.hid hwo
    have hup : w.grownBy wo (some bk) := by rw [hwo]; exact grown_up (Up.drewN w m1) _
    have hownw : Owns base 26 wo (.slice (some ⟨bk, 0, none⟩) vs.length cap) vs := by rw [hwo]; exact HO.out.same2 fun _ _ => rfl
    clear hm hwo
    by_cases hlt : k < vs.length
    · have c1 := (owns_cell hownw (at0_some hlt)).1
      have c2 := (owns_cell hownw (at0_some (show k - 1 < vs.length by omega))).1
      have i1 : (0 : Int) ≤ (k : Int) := by omega
      have i2 : (k : Int) < (vs.length : Int) := by omega
      have i3 : (k : Int) < 1000000 := by omega
      have j1 : (0 : Int) ≤ (k : Int) - 1 := by omega
      have j2 : (k : Int) - 1 < (vs.length : Int) := by omega
      have j3 : ((k : Int) - 1).toNat = k - 1 := by omega
      have j4 : wrap64 ((k : Int) - 1) = (k : Int) - 1 := by unfold wrap64; omega
      obtain ⟨q1, n1, d1, e1⟩ := HSL.out k hlt
      obtain ⟨q2, n2, d2, e2⟩ := HSL.out (k - 1) (by omega)
      have HCA : Hid (∀ n, Calls Tryz.prog g (#[.slice q1 n1 d1, .slice q2 n2 d2] ++ lb) (wo.drewN n) fun e W' => e = .returned (.bool (P k)) ∧ ∃ q, W' = wo.drewN q) := fun n => by
        rw [← e1, ← e2]
        refine (HP.out k hk1 hlt (wo.drewN n) (grown_trans hup (grown_up (Up.drewN wo n) _))).mono ?_
        rintro e W' ⟨rfl, q, rfl⟩
        exact ⟨rfl, n + q, by rw [World.drewN_drewN]⟩
      rw [e1] at c1
      rw [e2] at c2
      have HPK : Hid (∃ x, P k = x) := ⟨_, rfl⟩
      clear hup e1 e2
      cases hPk : P k
      · rw [hPk] at HCA
        have HN2 : Hid (∀ i, i < k + 1 → P i = false) := fun i hi => by
          by_cases e : i = k
          · rw [e]; exact hPk
          · exact hno.out i (by omega)
        clear hPk
        go_wp2_with fail
        go_big_quiet (first | with_reducible exact HCA.out _)
        go_wp2_with fail
        clear j4
        go_roundw
        case rel => exact ⟨k + 1, by omega, by omega, by go_num, HN2, m1 + nq, by rw [HWO.out, World.drewN_drewN]⟩
        case measure => simp [intOf]; omega
      · rw [hPk] at HCA
        have HST : Hid (∀ m, CfW vs P base w (w.drewN m) bk cap (k + 1) vs ∧ (kpC P (k + 1)).length = k) := fun m => CfW.start HO.out hlt hno.out hPk m
        clear hPk
        go_wp2_with fail
        go_big_quiet (first | with_reducible exact HCA.out _)
        have HS1 := Lib.hid (HST.out (m1 + nq))
        rw [← World.drewN_drewN, ← HWO.out] at HS1
        generalize wo.drewN nq = w1 at *
        clear j4 c1 c2 HCA HWO hownw
        have n3 : (k : Int) ≤ (vs.length : Int) := by omega
        have n4 : (k : Int) ≤ (cap : Int) := by omega
        go_wp2_with fail
        obtain ⟨M, hM⟩ : ∃ M, vs.length = k + M := ⟨vs.length - k, by omega⟩
        have HM := Lib.hid hM
        have hM2 : vs.length - k = M := by omega
        have M0 : 0 < M := by omega
        have M6 : (M : Int) ≤ 1000000 := by omega
        rw [hM2]
        clear hM hM2
        go_loopw [5, 7] (fun x y wr => ∃ d : Nat, 1 ≤ d ∧ d ≤ M ∧ y = .int .i64 d ∧ x = .int .i64 ((kpC P (k + d)).length : Nat) ∧ Hid (∃ X, CfW vs P base w wr bk cap (k + d) X) ∧ Hid ((kpC P (k + d)).length < k + d)) (fun _ y _ => M - (intOf y).toNat)
        case atStart => exact ⟨1, Nat.le_refl _, by omega, by go_num, by rw [HS1.out.2], ⟨_, HS1.out.1⟩, by unfold Hid; rw [HS1.out.2]; omega⟩
        case round =>
          obtain ⟨d, hd1, hd, rfl, rfl, hX, hK⟩ := hrel
          obtain ⟨wz, rfl⟩ : ∃ wz : World, wz = wr := ⟨_, rfl⟩
          obtain ⟨X, hX⟩ := hX.out
          by_cases hdlt : d < M
          · have hjl : k + d < vs.length := by have := HM.out; omega
            have c1 := hX.cells (q := k + d) (by have := hK.out; omega) hjl
            have c2 := hX.cells (q := k + (d - 1)) (by have := hK.out; omega) (by omega)
            obtain ⟨q3, n3', d3, e3⟩ := HSL.out (k + d) hjl
            obtain ⟨q4, n4', d4, e4⟩ := HSL.out (k + (d - 1)) (by omega)
            have HCB : Hid (∀ n, Calls Tryz.prog g (#[.slice q3 n3' d3, .slice q4 n4' d4] ++ lb) (wz.drewN n) fun e W' => e = .returned (.bool (P (k + d))) ∧ ∃ q, W' = wz.drewN q) := fun n => by
              rw [← e3, ← e4]
              have h := HP.out (k + d) (by omega) hjl (wz.drewN n) (grown_trans hX.up (grown_up (Up.drewN wz n) _))
              rw [show k + d - 1 = k + (d - 1) by omega] at h
              refine h.mono ?_
              rintro e W' ⟨rfl, q, rfl⟩
              exact ⟨rfl, n + q, by rw [World.drewN_drewN]⟩
            have HPU : Hid (∀ m, P (k + d) = false → (∃ x, (wz.drewN m).cell? ⟨bk, (kpC P (k + d)).length, none⟩ = some x) ∧ (wz.drewN m).frozen? ⟨bk, (kpC P (k + d)).length, none⟩ = false ∧ (kpC P (k + d + 1)).length = (kpC P (k + d)).length + 1 ∧
              ∃ X', CfW vs P base w ((wz.drewN m).setCell ⟨bk, (kpC P (k + d)).length, none⟩ (.slice q3 n3' d3)) bk cap (k + d + 1) X') := fun m hPf => by
              have h := (hX.drewn m).push hjl hPf hK.out
              rw [e3] at h; exact h
            have HSK : Hid (∀ m, P (k + d) = true → CfW vs P base w (wz.drewN m) bk cap (k + d + 1) X ∧ (kpC P (k + d + 1)).length = (kpC P (k + d)).length) := fun m hPt => ⟨hX.skip hPt m, by rw [kpC_succ, if_pos hPt]⟩
            have HC1 : Hid (∀ m, (wz.drewN m).cell? ⟨bk, k + d, none⟩ = some (.slice q3 n3' d3)) := fun m => by rw [← e3]; exact (Up.drewN wz m).cell c1
            rw [e3] at c1
            rw [e4] at c2
            have a1 : (0 : Int) ≤ (d : Int) := by omega
            have a2 : (d : Int) < (M : Int) := by omega
            have a3 : (d : Int) < 1000000 := by omega
            have b1 : (0 : Int) ≤ (d : Int) - 1 := by omega
            have b2 : (d : Int) - 1 < (M : Int) := by omega
            have b3 : ((d : Int) - 1).toNat = d - 1 := by omega
            have b4 : wrap64 ((d : Int) - 1) = (d : Int) - 1 := by unfold wrap64; omega
            have HKL := Lib.hid (kpC_len P (k + d))
            have HJL := Lib.hid hjl
            have HNL : Hid (vs.length ≤ 1000000) := hn
            clear e3 e4 hX hjl
            cases hPd : P (k + d)
            · rw [hPd] at HCB
              have HPU2 : Hid (∀ m, _) := fun m => HPU.out m hPd
              clear hPd HPU HSK
              have k0 : (0 : Int) ≤ ((kpC P (k + d)).length : Int) := by omega
              have k1' : ((kpC P (k + d)).length : Int) < (vs.length : Int) := by have := hK.out; have := HJL.out; omega
              have k2' : ((kpC P (k + d)).length : Int) < 1000000 := by have := HNL.out; omega
              go_wp2_with fail
              go_big_quiet (first | with_reducible exact HCB.out _)
              obtain ⟨⟨cx, hcx⟩, hff, hl, X', hX'⟩ := HPU2.out nq
              have c1 := HC1.out nq
              have HX' := Lib.hid hX'
              have HL := Lib.hid hl
              clear hX' hl b4 c2 HCB HPU2
              generalize wz.drewN nq = wy at *
              go_wp2_with fail
              go_roundw
              case rel => exact ⟨d + 1, by omega, by omega, by go_num, by rw [show k + (d + 1) = k + d + 1 by omega, HL.out]; go_num, ⟨X', HX'.out⟩, by unfold Hid; rw [show k + (d + 1) = k + d + 1 by omega, HL.out]; have := hK.out; omega⟩
              case measure => simp [intOf]; omega
            · rw [hPd] at HCB
              have HSK2 : Hid (∀ m, _) := fun m => HSK.out m hPd
              clear hPd HPU HSK
              go_wp2_with fail
              go_big_quiet (first | with_reducible exact HCB.out _)
              obtain ⟨hx1, hl⟩ := HSK2.out nq
              have HX1 := Lib.hid hx1
              have HL := Lib.hid hl
              clear hx1 hl b4 c1 c2 HCB HSK2
              go_wp2_with fail
              go_roundw
              case rel => exact ⟨d + 1, by omega, by omega, by go_num, by rw [show k + (d + 1) = k + d + 1 by omega, HL.out], ⟨X, HX1.out⟩, by unfold Hid; rw [show k + (d + 1) = k + d + 1 by omega, HL.out]; have := hK.out; omega⟩
              case measure => simp [intOf]; omega
          · obtain rfl : d = M := by omega
            have hMl := HM.out
            rw [← hMl] at hX hK ⊢
            obtain ⟨mm, hmm⟩ : ∃ mm, (kpC P vs.length).length = mm := ⟨_, rfl⟩
            have hml : mm < vs.length := by rw [← hmm]; exact hK.out
            obtain ⟨hc, hf, ho, hg⟩ := hX.done hmm hml
            have HO2 := Lib.hid ho
            have HG2 := Lib.hid hg
            have hcl := Lib.run_clear_slice (P := Tryz.prog) wz 22 26 0 (.slice none 0 0) Tryz.underlying22 Tryz.zeroSlI rfl rfl bk mm (vs.length - mm) (cap - mm) (by omega) hc hf
            rw [hmm]
            have e1 : (0 : Int) ≤ (mm : Int) := by omega
            have e2 : (mm : Int) ≤ (vs.length : Int) := by omega
            have e3 : (mm : Int) < (vs.length : Int) := by omega
            have e4 : mm ≤ cap := by omega
            have e5 : (mm : Int) ≤ (cap : Int) := by omega
            clear hc hf ho hg hX hK hmm hMl HM M0 M6 hd hd1 hdlt
            go_wp2_with fail
            go_ret
            exact ⟨mm, rfl, HO2.out, HG2.out⟩
    · obtain rfl : k = vs.length := by omega
      go_wp2_with fail
      go_ret
      exact ⟨_, rfl, by rw [HALL.out hno.out]; exact hownw, hup⟩
end Go.Proofs.YtpjijbophjdgaaaGreat
namespace Go.Proofs
open Go.Shelf
def Tryz.sortRow_ren : Go.Shelf.Ren := ⟨fun | 6 => 26 | 15 => 89 | 14 => 88 | 28 => 168 | 29 => 169 | 20 => 160 | 21 => 161 | 22 => 162 | 23 => 163 | 24 => 164 | 25 => 165 | 26 => 166 | 27 => 167 | 46 => 197 | 47 => 198 | 48 => 199 | 49 => 200 | 50 => 201 | 57 => 230 | n => n, fun | 22 => 22 | 24 => 26 | 25 => 50 | 3 => 3 | 39 => 106 | 0 => 0 | 53 => 187 | 55 => 81 | 4 => 4 | 46 => 180 | 45 => 179 | 50 => 184 | 5 => 5 | 9 => 9 | 66 => 211 | 70 => 215 | 76 => 236 | 77 => 237 | n => n, fun | n => n⟩
theorem Tryz.sortRow : Go.Proofs.SlLaysF.n6 Tryz.prog Tryz.sortRow_ren := {
  mixed := by kernel_rfl
  f6 := ⟨Tryz.f26.name, by decide, Tryz.func26.trans (congrArg some (by kernel_rfl))⟩
  f14 := ⟨Tryz.f88.name, by decide, Tryz.func88.trans (congrArg some (by kernel_rfl))⟩
  f15 := Tryz.func89.trans (congrArg some (by kernel_rfl))
  f20 := ⟨Tryz.f160.name, by decide, Tryz.func160.trans (congrArg some (by kernel_rfl))⟩
  f21 := ⟨Tryz.f161.name, by decide, Tryz.func161.trans (congrArg some (by kernel_rfl))⟩
  f22 := ⟨Tryz.f162.name, by decide, Tryz.func162.trans (congrArg some (by kernel_rfl))⟩
  f23 := ⟨Tryz.f163.name, by decide, Tryz.func163.trans (congrArg some (by kernel_rfl))⟩
  f24 := ⟨Tryz.f164.name, by decide, Tryz.func164.trans (congrArg some (by kernel_rfl))⟩
  f25 := ⟨Tryz.f165.name, by decide, Tryz.func165.trans (congrArg some (by kernel_rfl))⟩
  f26 := ⟨Tryz.f166.name, by decide, Tryz.func166.trans (congrArg some (by kernel_rfl))⟩
  f27 := ⟨Tryz.f167.name, by decide, Tryz.func167.trans (congrArg some (by kernel_rfl))⟩
  f28 := Tryz.func168.trans (congrArg some (by kernel_rfl))
  f29 := Tryz.func169.trans (congrArg some (by kernel_rfl))
  f46 := ⟨Tryz.f197.name, by decide, Tryz.func197.trans (congrArg some (by kernel_rfl))⟩
  f47 := Tryz.func198.trans (congrArg some (by kernel_rfl))
  f48 := Tryz.func199.trans (congrArg some (by kernel_rfl))
  f49 := ⟨Tryz.f200.name, by decide, Tryz.func200.trans (congrArg some (by kernel_rfl))⟩
  f50 := ⟨Tryz.f201.name, by decide, Tryz.func201.trans (congrArg some (by kernel_rfl))⟩
  f57 := ⟨Tryz.f230.name, by decide, Tryz.func230.trans (congrArg some (by kernel_rfl))⟩
  t0 := Tryz.underlying0
  a0 := Tryz.isAgg0
  z0 := Tryz.sizeOf0
  v0 := Tryz.zeroValue0
  t3 := Tryz.underlying3
  a3 := Tryz.isAgg3
  z3 := Tryz.sizeOf3
  v3 := Tryz.zeroValue3
  t4 := Tryz.underlying4
  a4 := Tryz.isAgg4
  z4 := Tryz.sizeOf4
  v4 := Tryz.zeroValue4
  t5 := Tryz.underlying5
  a5 := Tryz.isAgg5
  z5 := Tryz.sizeOf5
  v5 := Tryz.zeroValue5
  t9 := Tryz.underlying9
  a9 := Tryz.isAgg9
  z9 := Tryz.sizeOf9
  v9 := Tryz.zeroValue9
  t22 := Tryz.underlying22
  a22 := Tryz.isAgg22
  z22 := Tryz.sizeOf22
  v22 := Tryz.zeroValue22
  a24 := Tryz.isAgg26
  z24 := Tryz.sizeOf26
  t25 := Tryz.underlying50
  a25 := Tryz.isAgg50
  z25 := Tryz.sizeOf50
  v25 := Tryz.zeroValue50
  t39 := Tryz.underlying106
  a39 := Tryz.isAgg106
  z39 := Tryz.sizeOf106
  v39 := Tryz.zeroValue106
  t45 := Tryz.underlying179
  a45 := Tryz.isAgg179
  z45 := Tryz.sizeOf179
  v45 := Tryz.zeroValue179
  t46 := Tryz.underlying180
  a46 := Tryz.isAgg180
  z46 := Tryz.sizeOf180
  v46 := Tryz.zeroValue180
  t50 := Tryz.underlying184
  a50 := Tryz.isAgg184
  z50 := Tryz.sizeOf184
  v50 := Tryz.zeroValue184
  t53 := Tryz.underlying187
  a53 := Tryz.isAgg187
  z53 := Tryz.sizeOf187
  v53 := Tryz.zeroValue187
  t55 := Tryz.underlying81
  a55 := Tryz.isAgg81
  z55 := Tryz.sizeOf81
  v55 := Tryz.zeroValue81
  t66 := Tryz.underlying211
  a66 := Tryz.isAgg211
  z66 := Tryz.sizeOf211
  v66 := Tryz.zeroValue211
  t70 := Tryz.underlying215
  a70 := Tryz.isAgg215
  z70 := Tryz.sizeOf215
  v70 := Tryz.zeroValue215
  t76 := Tryz.underlying236
  a76 := Tryz.isAgg236
  z76 := Tryz.sizeOf236
  v76 := Tryz.zeroValue236
  t77 := Tryz.underlying237
  a77 := Tryz.isAgg237
  z77 := Tryz.sizeOf237
  v77 := Tryz.zeroValue237 }
end Go.Proofs
namespace Go.Proofs.YtpjijbophjdgaaaGreat
open Go.RowKit Go.Deep Go.Sort Go.Shelf Go.Lib
structure RwS (base : Nat) (w : World) (v : Value) (ps : List (List Int × Value)) : Prop where
  own : Owns base 26 w v (ps.map (·.2))
  shape : ∀ p ∈ ps, ∃ q c, p.2 = .slice q p.1.length c
  row : ∀ p ∈ ps, IntsAt (fun b => v.ownBlock ≠ some b) w p.2 p.1
theorem swo_of {α : Type} {f : α → List Int} {cf : List Int → List Int → Int} (h0 : ∀ a, cf a a = 0) (hz : ∀ {a b}, cf a b = 0 → a = b) (ha : ∀ a b, cf b a = - cf a b) (ht : ∀ {a b c}, cf a b < 0 → cf b c < 0 → cf a c < 0) : SWO (ltOf fun (x y : α) => cf (f x) (f y)) where
  irrefl x := by simp [ltOf, h0]
  trans x y z h1 h2 := by
    simp only [ltOf, decide_eq_true_eq] at *
    exact ht h1 h2
  ntrans x y z h1 h2 := by
    simp only [ltOf, decide_eq_false_iff_not] at *
    intro h3
    by_cases e : cf (f x) (f y) = 0
    · rw [hz e] at h3; exact h2 h3
    · have h4 : cf (f y) (f x) < 0 := by have := ha (f x) (f y); omega
      exact h2 (ht h4 h3)
theorem sortRows_m {cf : List Int → List Int → Int} (h0 : ∀ a, cf a a = 0) (hz : ∀ {a b}, cf a b = 0 → a = b) (ha : ∀ a b, cf b a = - cf a b) (ht : ∀ {a b c}, cf a b < 0 → cf b c < 0 → cf a c < 0)
    (g : Nat) (cb : Array Value) (eg : ∀ args w, (callFunc g args).run Tryz.prog w = .ok (.enter g args) w) {base : Nat} {w : World} {v : Value} {ps : List (List Int × Value)} (h : RwS base w v ps) (hn : ps.length ≤ 1000000)
    (hc : ∀ p ∈ ps, ∀ q ∈ ps, ∀ W, w.grownBy W v.ownBlock → Calls Tryz.prog g (#[p.2, q.2] ++ cb) W fun e w' => e = .returned (.int .i64 (cf p.1 q.1)) ∧ ∃ n os, w' = grow (W.drewN n) os) :
    Calls Tryz.prog 26 #[v, .func (.func g) #[] cb] w fun e w' => e = .returned (.tuple #[]) ∧ w.grownBy w' v.ownBlock ∧ ∃ ps', (ps'.map (·.1)).Perm (ps.map (·.1)) ∧ (ps'.map (·.1)).Pairwise (fun a b => cf a b ≤ 0) ∧ RwS base w' v ps' ∧ ∀ p ∈ ps', p ∈ ps := by
  by_cases hp : ps = []
  · subst hp
    have ho := h.own
    obtain ⟨q, c, hv, _⟩ := ho.form (n := 0) (by simp)
    subst hv
    refine (AnyF.slices_SortFunc_none (P := Tryz.prog) (ρ := Tryz.sortRow_ren) { Tryz.sortRow with } q c _ w).mono ?_
    rintro e w' ⟨rfl, rfl⟩
    exact ⟨rfl, grown_refl _ _, [], .nil, .nil, h, fun p hp => hp⟩
  obtain ⟨p0, hp0⟩ : ∃ p, p ∈ ps := List.exists_mem_of_ne_nil _ hp
  letI : Inhabited {p // p ∈ ps} := ⟨⟨p0, hp0⟩⟩
  have hown := h.own
  obtain ⟨q, cap, hv, _⟩ := hown.form (n := ps.length) (by simp)
  obtain ⟨blk, hq⟩ : ∃ blk, q = some ⟨blk, 0, none⟩ := by
    obtain ⟨_, ⟨h1, _⟩ | ⟨g', cap', cur, h1, _⟩⟩ := hown
    · rw [hv] at h1
      injection h1 with _ h1 _
      exact absurd (List.length_eq_zero_iff.1 h1) hp
    · rw [hv] at h1
      injection h1 with h1 _ _
      exact ⟨g', h1⟩
  subst hq
  subst hv
  have hgl := (ownBlock_lt hown rfl).2
  have hgl : blk < w.heap.size := hgl
  have hsize : (ps.attach.toArray).size = ps.length := by simp
  have hmlen : (ps.map (·.2)).length = ps.length := by simp
  have hH : Holds (fun (x : {p // p ∈ ps}) => x.1.2) w blk 0 ps.attach.toArray := by
    intro j hj
    rw [hsize] at hj
    obtain ⟨p, c, e, _, H⟩ := hown.slAt.open
    injection e with e1
    subst e1
    obtain ⟨b, off, e, hcc⟩ := H j (by rw [hmlen]; exact hj)
    injection e with e
    injection e with e1 e2
    subst e1; subst e2
    refine ⟨?_, ?_⟩
    · rw [hcc, getElem!_pos _ _ (by simpa using hj)]; simp [hj]
    · obtain ⟨_, ⟨h1, _⟩ | ⟨g', cap', cur, hs', _, hc', _⟩⟩ := hown
      · cases h1
      · injection hs' with hs1
        injection hs1 with hs1
        injection hs1 with hs1
        subst hs1
        simp [World.frozen?, hc']
  have hgb : ∀ (m : Nat) (os : Array Obj) (dk : Array {p // p ∈ ps}), w.grownBy (sortWorld (fun (x : {p // p ∈ ps}) => x.1.2) w blk 0 m dk os) (some blk) := fun m os dk => ⟨rfl, rfl, rfl, sortWorld_size _ _ _ _ _, fun b hb hne => sortWorld_other (fun e => hne (by rw [e])) hb⟩
  have hcmp : CmpLays1 Tryz.prog g cb (fun (x : {p // p ∈ ps}) => x.1.2) (fun x y => cf x.1.1 y.1.1) blk 0 ps.attach.toArray.size w := by
    intro m os dk hdk x y
    refine (hc x.1 x.2 y.1 y.2 _ (hgb m os dk)).mono fun e w' ⟨he, n, os', hw⟩ => ⟨he, n, os', hw⟩
  have hcon := Any.slices_SortFunc Tryz.sortRow (fun (x : {p // p ∈ ps}) => x.1.2) (fun x => by obtain ⟨q, c, e⟩ := h.shape x.1 x.2; show x.1.2.oneCell' = true; rw [e]; rfl) (fun x y => cf x.1.1 y.1.1) (swo_of (f := fun (x : {p // p ∈ ps}) => x.1.1) h0 hz ha ht) g cb blk 0 cap ps.attach.toArray w eg hcmp hH hgl (by rw [hsize]; omega)
  rw [hsize] at hcon
  refine hcon.mono fun e w' ⟨he, d', m, os, hpm, hso, hw⟩ => ⟨he, by rw [hw]; exact hgb m os d', d'.toList.map (·.1), ?_, ?_, ?_, fun p hp => by obtain ⟨x, _, rfl⟩ := List.mem_map.1 hp; exact x.2⟩
  · obtain ⟨hsz, _, hperm⟩ := hpm
    have e1 : d'.extract 0 ps.length = d' := by rw [← hsize, ← hsz]; exact Array.extract_size
    have e2 : ps.attach.toArray.extract 0 ps.length = ps.attach.toArray := by rw [← hsize]; exact Array.extract_size
    rw [e1, e2] at hperm
    have h3 : (d'.toList.map (·.1)).Perm ps := by
      have h2 := hperm.map (fun (x : {p // p ∈ ps}) => x.1)
      rw [List.toList_toArray, List.attach_map_subtype_val] at h2
      exact h2
    exact h3.map _
  · obtain ⟨hsz, _, _⟩ := hpm
    rw [hsize] at hsz
    rw [List.map_map, List.pairwise_map, List.pairwise_iff_getElem]
    intro i j hi hj hij
    have hi' : i < d'.size := by simpa using hi
    have hj' : j < d'.size := by simpa using hj
    have h3 := hso i j (Nat.zero_le _) hij (by omega)
    rw [getElem!_pos d' j hj', getElem!_pos d' i hi'] at h3
    simp only [ltOf, decide_eq_false_iff_not] at h3
    have h4 := ha ((d'[i]'hi').1.1) ((d'[j]'hj').1.1)
    show cf ((d'.toList[i]'(by simpa using hi)).1.1) ((d'.toList[j]'(by simpa using hj)).1.1) ≤ 0
    rw [Array.getElem_toList, Array.getElem_toList]
    omega
  · have hd : d'.toList.length = ps.length := by have := hpm.1; rw [hsize] at this; simpa using this
    have hmem : ∀ p ∈ d'.toList.map (·.1), p ∈ ps := fun p hp => by
      obtain ⟨x, _, rfl⟩ := List.mem_map.1 hp
      exact x.2
    refine ⟨?_, fun p hp => h.shape p (hmem p hp), fun p hp => ?_⟩
    · have h4 := Owns.sorted (enc := fun (x : {p // p ∈ ps}) => x.1.2) (n := m) (os := os) (ts := d'.toList) (vs := ps.map (·.2)) (by rw [hmlen]; exact hown) (by rw [hmlen]; exact hd)
      rw [hmlen] at h4
      rw [hw, List.map_map]
      exact h4
    · have h5 := h.row p (hmem p hp)
      rw [hw]
      refine SlAt.keep h5 fun b hb hbl => (hgb m os d').block b hbl fun e => hb e.symm
theorem grow_same (W : World) : ∃ n os, W = grow (W.drewN n) os := ⟨0, #[], by rw [grow_empty]; rfl⟩
end Go.Proofs.YtpjijbophjdgaaaGreat
