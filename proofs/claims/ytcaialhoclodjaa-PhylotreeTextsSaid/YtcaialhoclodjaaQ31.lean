/- PhylotreeTexts, plain. The walk of PhylotreeTexts. -/
import Derived.Test.YtcaialhoclodjaaQ29
import Derived.Test.YtcaialhoclodjaaQ30
namespace Go.Proofs.Ytcaialhoclodjaa
theorem fine31_nm {t : Tre} (h : fine31B t = true) (k : Nat) : (gs t.ns k).size ≤ 20 := by
  unfold fine31B at h
  simp only [Bool.and_eq_true, decide_eq_true_eq, Bool.not_eq_true'] at h
  have hg := h.1.2
  unfold gt31B at hg
  simp only [Bool.or_eq_false_iff] at hg
  by_cases hk : k < t.ns.length
  · have h1 := hg.2
    rw [List.any_eq_false] at h1
    have h2 := h1 k (List.mem_range.2 hk)
    simp only [decide_eq_true_eq] at h2
    omega
  · have : gs t.ns k = ByteArray.empty := by simp [gs, show t.ns.length ≤ k by omega]
    rw [this]; exact Nat.zero_le _
section
variable {t : Tre}
theorem txT_short (hf : fine31B t = true) : (txT t).length ≤ 400 := by
  obtain ⟨h0, h16, he⟩ := fine31_ok hf
  have hl := txR_len (M := 20) (toR t) (fun s hs => by
    have hm := (ns_perm he).mem_iff.1 hs
    obtain ⟨k, hk, e⟩ := List.mem_iff_getElem.1 hm
    have := fine31_nm hf k
    have e2 : gs t.ns k = s := by rw [← e]; simp [gs, hk]
    rw [e2] at this; exact this)
  rw [size_toR he] at hl
  rw [txT_eq he, List.length_append]
  have h2 : t.ps.length * (20 + 3) ≤ 16 * 23 := Nat.mul_le_mul_right _ h16
  simp
  omega
theorem toL_toArray (l : List UInt8) : (⟨l.toArray⟩ : ByteArray).data.toList = l := by simp
/-- What is read from the text of a tree. -/
theorem pa_of_tx (he : treeErr t = 0) : paE ⟨(txT t).toArray⟩ = 0 ∧ paT ⟨(txT t).toArray⟩ = flat (toR t) := by
  have h : paR (⟨(txT t).toArray⟩ : ByteArray).data.toList = some (toR t) := by rw [toL_toArray]; exact pa_tx he
  unfold paE paT
  rw [h]
  exact ⟨flat_ok he, if_neg (by simp [flat_ok he])⟩
theorem sm_of_tx (he : treeErr t = 0) : smE t (flat (toR t)) = 0 ∧ smB t (flat (toR t)) = true := by
  have h : smE t (flat (toR t)) = 0 := by unfold smE; rw [if_neg (by simp [he, flat_ok he])]
  refine ⟨h, ?_⟩
  unfold smB
  rw [h, decide_eq_true rfl, decide_eq_true (canT_flat_toR he).symm]; rfl
theorem flat_small (he : treeErr t = 0) : ∀ k, (gs (flat (toR t)).ns k).size ≤ 70000 := tree_small (flat_ok he)
end
/-- What is read from any string. -/
theorem pa_cases (s : ByteArray) : (paE s ≠ 0 ∧ paT s = ⟨[], []⟩) ∨ (paE s = 0 ∧ treeErr (paT s) = 0 ∧ (⟨(txT (paT s)).toArray⟩ : ByteArray) = s) := by
  unfold paE paT
  cases h : paR s.data.toList with
  | none => exact .inl ⟨by decide, rfl⟩
  | some r =>
    show (treeErr (flat r) ≠ 0 ∧ (if treeErr (flat r) ≠ 0 then (⟨[], []⟩ : Tre) else flat r) = _) ∨ (treeErr (flat r) = 0 ∧ treeErr (if treeErr (flat r) ≠ 0 then (⟨[], []⟩ : Tre) else flat r) = 0 ∧ _)
    by_cases e : treeErr (flat r) = 0
    · right
      simp only [e, ne_eq, not_true_eq_false, if_false]
      refine ⟨trivial, trivial, ?_⟩
      rw [tx_pa h e]
    · exact .inl ⟨e, if_pos e⟩
end Go.Proofs.Ytcaialhoclodjaa
namespace Go.Proofs.Ytcaialhoclodjaa
open Go.RowKit Go.Deep
set_option maxRecDepth 100000 in
set_option maxHeartbeats 8000000 in
theorem texts_law (w : World) (v : Value) (t : Tre) (s : ByteArray) (hT : TreeAt Any w v t) (hp : t.ps.length ≤ 9223372036854775807) (hn : t.ns.length ≤ 9223372036854775807) (hz : ∀ k, (gs t.ns k).size ≤ 9223372036854775807) :
    Calls Try.prog 5 #[v, .string s] w fun e w' => e = .returned (.bool true) ∧ Up w w' := by
  obtain ⟨P, N, rfl, hP, hN⟩ := hT
  obtain ⟨pp, pc, rfl, _, _⟩ := SlAt.open hP
  obtain ⟨np, nc, rfl, _, _⟩ := SlAt.open hN
  have hP : IntsAt Any w (.slice pp t.ps.length pc) t.ps := hP
  have hN : StrsAt Any w (.slice np t.ns.length nc) t.ns := hN
  have hu := Up.alloc w (.cells #[.slice pp t.ps.length pc, .slice np t.ns.length nc] 25)
  have b0 := box2_0 w (.slice pp t.ps.length pc) (.slice np t.ns.length nc) 25
  have b1 := box2_1 w (.slice pp t.ps.length pc) (.slice np t.ns.length nc) 25
  have HB0 := Lib.hid b0
  have HB1 := Lib.hid b1
  have HT : Hid (TreeAt Any (w.alloc (.cells #[.slice pp t.ps.length pc, .slice np t.ns.length nc] 25)) (.agg #[.slice pp t.ps.length pc, .slice np t.ns.length nc]) t) := TreeAt.keep ⟨_, _, rfl, hP, hN⟩ (hu.kept _)
  have HF := Lib.hid (fine31_t Any _ _ t HT.out hp hn hz)
  have HU := Lib.hid hu
  have HAW := Lib.hid awake31_t
  clear hu hP hN hn hz hp
  cases hf : fine31B t
  · rw [hf] at HF
    clear hf
    go_enter Try.func5, Try.ntmps5
    go_wp2_with (first | (go_at_call 19; refine HF.out.mono ?_; rintro e w1 ⟨rfl, hu1⟩) | (go_at_call 20; refine (HAW.out _).mono ?_; rintro e w' ⟨rfl, hu⟩) | fail)
    go_ret
    exact ⟨rfl, HU.out.trans (hu1.trans hu)⟩
  · obtain ⟨h0, h16, he⟩ := fine31_ok hf
    rw [hf] at HF
    by_cases h80 : 80 < s.size
    · have d0 : decide ((80 : Int) < (s.size : Int)) = true := decide_eq_true (by omega)
      clear hf he
      go_enter Try.func5, Try.ntmps5
      go_wp2_with (first | (go_at_call 19; refine HF.out.mono ?_; rintro e w1 ⟨rfl, hu1⟩) | (go_at_call 20; refine (HAW.out _).mono ?_; rintro e w' ⟨rfl, hu⟩) | fail)
      go_ret
      exact ⟨rfl, HU.out.trans (hu1.trans hu)⟩
    · have d0 : decide ((80 : Int) < (s.size : Int)) = false := decide_eq_false (by omega)
      obtain ⟨_, _, hl, _, _⟩ := treeErr_zero he
      have HSM := Lib.hid (tree_small he)
      have HTX : Hid (txE t = 0) := by unfold Hid txE; rw [if_neg (by simp [he])]
      have HPT : Hid (∀ W v, TreeAt Any W v t → Calls Try.prog 23 #[v] W fun e w' => Up W w' ∧ e = .returned (.tuple #[.string ⟨(txT t).toArray⟩, .int .i64 0])) := fun W v hv => by
        refine (print_t Any W v t hv (by omega) (by omega) HSM.out).mono ?_
        rintro e w' ⟨h1, rfl⟩
        exact ⟨h1, by rw [HTX.out]⟩
      have HPA : Hid (∀ W, Calls Try.prog 24 #[.string ⟨(txT t).toArray⟩] W fun e w' => Up W w' ∧ ∃ v, e = .returned (.tuple #[v, .int .i64 0]) ∧ TreeAt Any w' v (flat (toR t))) := fun W => by
        refine (parse31_t W ⟨(txT t).toArray⟩ (by have := txT_short hf; show (txT t).toArray.size ≤ 1000; rw [List.size_toArray]; omega)).mono ?_
        rintro e w' ⟨h1, v, rfl, h2⟩
        rw [(pa_of_tx he).2] at h2
        exact ⟨h1, v, by rw [(pa_of_tx he).1], h2⟩
      obtain ⟨hfp, _, hfl, _, _⟩ := treeErr_zero (flat_ok he)
      have HFL : Hid ((flat (toR t)).ps.length = t.ps.length) := by unfold Hid; rw [flat_ps, size_toR he]
      have HFN : Hid ((flat (toR t)).ns.length = t.ps.length) := by unfold Hid; rw [hfl, HFL.out]
      have HSA : Hid (∀ W v u, TreeAt Any W v t → TreeAt Any W u (flat (toR t)) → Calls Try.prog 25 #[v, u] W fun e w' => e = .returned (.tuple #[.bool true, .int .i64 0]) ∧ Up W w') := fun W v u hv hu => by
        have h := same31_t Any W v u t (flat (toR t)) hv hu (by omega) (by omega) HSM.out (by rw [HFL.out]; omega) (by rw [HFN.out]; omega) (flat_small he)
        rw [(sm_of_tx he).1, (sm_of_tx he).2] at h; exact h
      have HP2 : Hid (∀ W v, TreeAt Any W v (flat (toR t)) → Calls Try.prog 23 #[v] W fun e w' => Up W w' ∧ e = .returned (.tuple #[.string ⟨(txT t).toArray⟩, .int .i64 0])) := fun W v hv => by
        refine (print_t Any W v (flat (toR t)) hv (by rw [HFL.out]; omega) (by rw [HFN.out]; omega) (flat_small he)).mono ?_
        rintro e w' ⟨h1, rfl⟩
        have e1 : txE (flat (toR t)) = 0 := by unfold txE; rw [if_neg (by simp [flat_ok he])]
        exact ⟨h1, by rw [e1, txT_flat he]⟩
      have HPS : Hid (∀ W, Calls Try.prog 24 #[.string s] W (PaPost W s)) := fun W => parse31_t W s (by omega)
      have HPC := Lib.hid (pa_cases s)
      clear hf he hl hfp hfl HTX
      generalize (⟨(txT t).toArray⟩ : ByteArray) = tx at *
      generalize flat (toR t) = T2 at *
      go_enter Try.func5, Try.ntmps5
      go_wp2_with fail
      generalize w.alloc (.cells #[.slice pp t.ps.length pc, .slice np t.ns.length nc] 25) = w1 at *
      refine HF.out.mono ?_
      rintro e w2 ⟨rfl, hu2⟩
      have b0 := hu2.cell HB0.out
      have b1 := hu2.cell HB1.out
      have HU2 := Lib.hid hu2
      clear hu2 HF
      go_wp2_with fail
      refine (HPT.out w2 _ (HT.out.keep (HU2.out.kept _))).mono ?_
      rintro e w3 ⟨hu3, rfl⟩
      have HU3 := Lib.hid (HU2.out.trans hu3)
      have b0 := HU3.out.cell HB0.out
      have b1 := HU3.out.cell HB1.out
      clear hu3
      go_wp2_with fail
      refine (HPA.out w3).mono ?_
      rintro e w4 ⟨hu4, v4, rfl, ht4⟩
      obtain ⟨P4, N4, rfl, hP4, hN4⟩ := ht4
      obtain ⟨pp4, pc4, rfl, _, _⟩ := SlAt.open hP4
      obtain ⟨np4, nc4, rfl, _, _⟩ := SlAt.open hN4
      have hP4 : IntsAt Any w4 (.slice pp4 T2.ps.length pc4) T2.ps := hP4
      have hN4 : StrsAt Any w4 (.slice np4 T2.ns.length nc4) T2.ns := hN4
      have hal := Up.alloc w4 (.cells #[.slice pp4 T2.ps.length pc4, .slice np4 T2.ns.length nc4] 25)
      have c0 := box2_0 w4 (.slice pp4 T2.ps.length pc4) (.slice np4 T2.ns.length nc4) 25
      have c1 := box2_1 w4 (.slice pp4 T2.ps.length pc4) (.slice np4 T2.ns.length nc4) 25
      have HC0 := Lib.hid c0
      have HC1 := Lib.hid c1
      have HT5 : Hid (TreeAt Any (w4.alloc (.cells #[.slice pp4 T2.ps.length pc4, .slice np4 T2.ns.length nc4] 25)) (.agg #[.slice pp4 T2.ps.length pc4, .slice np4 T2.ns.length nc4]) T2) := TreeAt.keep ⟨_, _, rfl, hP4, hN4⟩ (hal.kept _)
      have HU5 := Lib.hid (HU3.out.trans (hu4.trans hal))
      have b0 := HU5.out.cell HB0.out
      have b1 := HU5.out.cell HB1.out
      clear hu4 hal hP4 hN4
      go_wp2_with fail
      generalize w4.alloc (.cells #[.slice pp4 T2.ps.length pc4, .slice np4 T2.ns.length nc4] 25) = w5 at *
      refine (HSA.out w5 _ _ (HT.out.keep (HU5.out.kept _)) HT5.out).mono ?_
      rintro e w6 ⟨rfl, hu6⟩
      have HU6 := Lib.hid (HU5.out.trans hu6)
      have b0 := HU6.out.cell HB0.out
      have b1 := HU6.out.cell HB1.out
      have c0 := hu6.cell HC0.out
      have c1 := hu6.cell HC1.out
      have HC06 := Lib.hid c0
      have HC16 := Lib.hid c1
      have HT6 := Lib.hid (HT5.out.keep (hu6.kept _))
      clear hu6
      go_wp2_with fail
      refine (HP2.out w6 _ HT6.out).mono ?_
      rintro e w7 ⟨hu7, rfl⟩
      have HU7 := Lib.hid (HU6.out.trans hu7)
      have b0 := HU7.out.cell HB0.out
      have b1 := HU7.out.cell HB1.out
      have c0 := hu7.cell HC06.out
      have c1 := hu7.cell HC16.out
      have d5 : ((T2.ps.length : Int) != (t.ps.length : Int)) = false := by rw [HFL.out]; simp
      clear hu7
      go_wp2_with fail
      refine (HPS.out w7).mono ?_
      rintro e w8 ⟨hu8, v8, rfl, ht8⟩
      have HU8 := Lib.hid (HU7.out.trans hu8)
      clear hu8 b0 b1 c0 c1 d5
      rcases HPC.out with ⟨he, hT0⟩ | ⟨he, ht0, htx⟩
      · rw [hT0] at ht8
        obtain ⟨P8, N8, rfl, hP8, hN8⟩ := ht8
        obtain ⟨pp8, pc8, rfl, _, _⟩ := SlAt.open hP8
        obtain ⟨np8, nc8, rfl, _, _⟩ := SlAt.open hN8
        have c0 := box2_0 w8 (.slice pp8 0 pc8) (.slice np8 0 nc8) 25
        have c1 := box2_1 w8 (.slice pp8 0 pc8) (.slice np8 0 nc8) 25
        have HU9 := Lib.hid (HU8.out.trans (Up.alloc w8 (.cells #[.slice pp8 0 pc8, .slice np8 0 nc8] 25)))
        have he1 : (paE s != 0) = true := by simpa using he
        clear hP8 hN8 he HPC hT0
        generalize paE s = pe at *
        go_wp2_with (first | (go_at_call 20; refine (HAW.out _).mono ?_; rintro e w' ⟨rfl, hu⟩) | fail)
        go_ret
        exact ⟨rfl, HU.out.trans (HU9.out.trans hu)⟩
      · rw [he]
        obtain ⟨_, h64, hl8, _, _⟩ := treeErr_zero ht0
        have hsm := tree_small ht0
        have HTX : Hid (txE (paT s) = 0) := by unfold Hid txE; rw [if_neg (by simp [ht0])]
        have HTE := Lib.hid ht0
        have HST := Lib.hid htx
        clear HPC he ht0 htx HPS
        generalize paT s = T8 at *
        obtain ⟨P8, N8, rfl, hP8, hN8⟩ := ht8
        obtain ⟨pp8, pc8, rfl, _, _⟩ := SlAt.open hP8
        obtain ⟨np8, nc8, rfl, _, _⟩ := SlAt.open hN8
        have hP8 : IntsAt Any w8 (.slice pp8 T8.ps.length pc8) T8.ps := hP8
        have hN8 : StrsAt Any w8 (.slice np8 T8.ns.length nc8) T8.ns := hN8
        have hal := Up.alloc w8 (.cells #[.slice pp8 T8.ps.length pc8, .slice np8 T8.ns.length nc8] 25)
        have c0 := box2_0 w8 (.slice pp8 T8.ps.length pc8) (.slice np8 T8.ns.length nc8) 25
        have c1 := box2_1 w8 (.slice pp8 T8.ps.length pc8) (.slice np8 T8.ns.length nc8) 25
        have HC0 := Lib.hid c0
        have HC1 := Lib.hid c1
        have HT9 : Hid (TreeAt Any (w8.alloc (.cells #[.slice pp8 T8.ps.length pc8, .slice np8 T8.ns.length nc8] 25)) (.agg #[.slice pp8 T8.ps.length pc8, .slice np8 T8.ns.length nc8]) T8) := TreeAt.keep ⟨_, _, rfl, hP8, hN8⟩ (hal.kept _)
        have HU9 := Lib.hid (HU8.out.trans hal)
        have HPR := Lib.hid (print_t Any _ _ T8 HT9.out (by omega) (by omega) hsm)
        have HCK : Hid (∀ W v, TreeAt Any W v T8 → Calls Try.prog 26 #[v] W fun e w' => e = .returned (.int .i64 0) ∧ Up W w') := fun W v hv => by
          have h := check_t Any W v T8 hv (by omega) (by omega) hsm
          rw [HTE.out] at h; exact h
        clear hal hP8 hN8 h64 hl8 hsm
        go_wp2_with fail
        generalize w8.alloc (.cells #[.slice pp8 T8.ps.length pc8, .slice np8 T8.ns.length nc8] 25) = w9 at *
        refine HPR.out.mono ?_
        rintro e w10 ⟨hu10, rfl⟩
        rw [HTX.out, HST.out]
        have HU10 := Lib.hid (HU9.out.trans hu10)
        have c0 := hu10.cell HC0.out
        have c1 := hu10.cell HC1.out
        have HC := Lib.hid (HCK.out w10 _ (HT9.out.keep (hu10.kept _)))
        clear hu10
        go_wp2_with fail
        refine HC.out.mono ?_
        rintro e w11 ⟨rfl, hu11⟩
        have HU11 := Lib.hid (HU10.out.trans hu11)
        clear hu11 c0 c1
        go_wp2_with (first | (go_at_call 20; refine (HAW.out _).mono ?_; rintro e w' ⟨rfl, hu⟩) | fail)
        go_ret
        exact ⟨rfl, HU.out.trans (HU11.out.trans hu)⟩
end Go.Proofs.Ytcaialhoclodjaa
