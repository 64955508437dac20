/- PhylotreeTexts, plain. The walk of PhylotreeCanonical. -/
import Derived.Test.YtcaialhoclodjaaQ29
import Derived.Test.YtcaialhoclodjaaQ30
namespace Go.Proofs.Ytcaialhoclodjaa
section
variable {t : Tre}
end
end Go.Proofs.Ytcaialhoclodjaa
namespace Go.Proofs.Ytcaialhoclodjaa
open Go.RowKit Go.Deep
theorem can_sorted {t : Tre} (he : treeErr t = 0) : sortS (fltN (canT t).ns) = sortS (fltN t.ns) := sortS_perm (can_names he)
theorem flt_first {ns : List ByteArray} {k : Nat} {m : ByteArray} {l : List ByteArray} (hk : k < ns.length) (h : fltN ns = m :: l) (h0 : ∀ j, j < k → (gs ns j).size = 0) (h1 : (gs ns k).size ≠ 0) : gs ns k = m := by
  have e : ns = ns.take k ++ gs ns k :: ns.drop (k + 1) := by
    have hg : gs ns k = ns[k] := by simp [gs, hk]
    rw [hg, ← List.drop_eq_getElem_cons hk, List.take_append_drop]
  have e1 : fltN (ns.take k) = [] := List.filter_eq_nil_iff.2 fun x hx => by
    obtain ⟨j, hj, rfl⟩ := List.mem_iff_getElem.1 hx
    rw [List.length_take] at hj
    have := h0 j (by omega)
    have e2 : gs ns j = (ns.take k)[j] := by simp [gs, List.getElem_take, show j < ns.length by omega]
    rw [e2] at this
    exact fun hc => (of_decide_eq_true hc) this
  rw [e, fltN_app, e1, List.nil_append] at h
  have e3 : fltN (gs ns k :: ns.drop (k + 1)) = gs ns k :: fltN (ns.drop (k + 1)) := List.filter_cons_of_pos (by simpa using h1)
  rw [e3] at h
  injection h
theorem flt_none {ns : List ByteArray} (h0 : ∀ j, j < ns.length → (gs ns j).size = 0) : fltN ns = [] := List.filter_eq_nil_iff.2 fun x hx => by
  obtain ⟨j, hj, rfl⟩ := List.mem_iff_getElem.1 hx
  have := h0 j hj
  have e2 : gs ns j = ns[j] := by simp [gs, hj]
  rw [e2] at this
  exact fun hc => (of_decide_eq_true hc) this
set_option maxRecDepth 100000 in
set_option maxHeartbeats 8000000 in
theorem canonical_law (w : World) (v : Value) (t : Tre) (hT : TreeAt Any w v t) (hp : t.ps.length ≤ 9223372036854775807) (hn : t.ns.length ≤ 9223372036854775807) (hz : ∀ k, (gs t.ns k).size ≤ 9223372036854775807) :
    Calls Try.prog 8 #[v] w fun e w' => e = .returned (.bool true) ∧ Up w w' := by
  obtain ⟨P, N, rfl, hP, hN⟩ := hT
  obtain ⟨pp, pc, rfl, _, _⟩ := SlAt.open hP
  obtain ⟨np, nc, rfl, _, _⟩ := SlAt.open hN
  have hP : IntsAt Any w (.slice pp t.ps.length pc) t.ps := hP
  have hN : StrsAt Any w (.slice np t.ns.length nc) t.ns := hN
  have hu := Up.alloc w (.cells #[.slice pp t.ps.length pc, .slice np t.ns.length nc] 25)
  have b0 := box2_0 w (.slice pp t.ps.length pc) (.slice np t.ns.length nc) 25
  have b1 := box2_1 w (.slice pp t.ps.length pc) (.slice np t.ns.length nc) 25
  have HB0 := Lib.hid b0
  have HB1 := Lib.hid b1
  have HT : Hid (TreeAt Any (w.alloc (.cells #[.slice pp t.ps.length pc, .slice np t.ns.length nc] 25)) (.agg #[.slice pp t.ps.length pc, .slice np t.ns.length nc]) t) := TreeAt.keep ⟨_, _, rfl, hP, hN⟩ (hu.kept _)
  have HF := Lib.hid (fine31_t Any _ _ t HT.out hp hn hz)
  have HU := Lib.hid hu
  have HAW := Lib.hid awake31_t
  clear hu hP hN hn hz hp
  cases hf : fine31B t
  · rw [hf] at HF
    clear hf
    go_enter Try.func8, Try.ntmps8
    go_wp2_with (first | (go_at_call 19; refine HF.out.mono ?_; rintro e w1 ⟨rfl, hu1⟩) | (go_at_call 20; refine (HAW.out _).mono ?_; rintro e w' ⟨rfl, hu⟩) | fail)
    go_ret
    exact ⟨rfl, HU.out.trans (hu1.trans hu)⟩
  · obtain ⟨h0, h16, he⟩ := fine31_ok hf
    rw [hf] at HF
    obtain ⟨_, _, hl, _, _⟩ := treeErr_zero he
    have hce := canT_ok he
    obtain ⟨_, hc64, hcl, _, _⟩ := treeErr_zero hce
    have HSM := Lib.hid (tree_small he)
    have HCM := Lib.hid (tree_small hce)
    have HCA : Hid (∀ W v, TreeAt Any W v t → Calls Try.prog 27 #[v] W fun e w' => Up W w' ∧ ∃ u, e = .returned (.tuple #[u, .int .i64 0]) ∧ TreeAt Any w' u (canT t)) := fun W v hv => by
      refine (pcanonical_t Any W v t hv (by omega) (by omega) HSM.out).mono ?_
      rintro e w' ⟨h1, ⟨h2, _⟩ | ⟨_, u, rfl, h3⟩⟩
      · exact absurd he h2
      · exact ⟨h1, u, rfl, h3.sub fun _ _ _ => trivial⟩
    have HCC : Hid (∀ W v, TreeAt Any W v (canT t) → Calls Try.prog 27 #[v] W fun e w' => Up W w' ∧ ∃ u, e = .returned (.tuple #[u, .int .i64 0]) ∧ TreeAt Any w' u (canT t)) := fun W v hv => by
      refine (pcanonical_t Any W v (canT t) hv (by omega) (by omega) HCM.out).mono ?_
      rintro e w' ⟨h1, ⟨h2, _⟩ | ⟨_, u, rfl, h3⟩⟩
      · exact absurd hce h2
      · rw [canT_idem he] at h3
        exact ⟨h1, u, rfl, h3.sub fun _ _ _ => trivial⟩
    have HSA : Hid (∀ W v u, TreeAt Any W v t → TreeAt Any W u (canT t) → Calls Try.prog 25 #[v, u] W fun e w' => e = .returned (.tuple #[.bool true, .int .i64 0]) ∧ Up W w') := fun W v u hv hu => by
      have h := same31_t Any W v u t (canT t) hv hu (by omega) (by omega) HSM.out (by omega) (by omega) HCM.out
      have e1 : smE t (canT t) = 0 := by unfold smE; rw [if_neg (by simp [he, hce])]
      have e2 : smB t (canT t) = true := by unfold smB; rw [e1, decide_eq_true rfl, decide_eq_true (canT_idem he).symm]; rfl
      rw [e1, e2] at h; exact h
    have HCK : Hid (∀ W v, TreeAt Any W v (canT t) → Calls Try.prog 26 #[v] W fun e w' => e = .returned (.int .i64 0) ∧ Up W w') := fun W v hv => by
      have h := check_t Any W v (canT t) hv (by omega) (by omega) HCM.out
      rw [hce] at h; exact h
    have HST : Hid (∀ W v u, TreeAt Any W v (canT t) → TreeAt Any W u (canT t) → Calls Try.prog 32 #[v, u] W fun e w' => e = .returned (.bool true) ∧ Up W w') := fun W v u hv hu => sameTree_yes Any Any W v u (canT t) hv hu (by omega) (by omega)
    have HLL : Hid ((sortS (fltN t.ns)).length ≤ 1000000) := by
      unfold Hid
      rw [sortS_len]
      have h1 : (fltN t.ns).length ≤ t.ns.length := List.length_filter_le _ _
      omega
    have HNC : Hid (∀ W v, TreeAt Any W v (canT t) → Calls Try.prog 31 #[v] W fun e w' => Up W w' ∧ ∃ u, e = .returned u ∧ StrsAt Any w' u (sortS (fltN t.ns))) := fun W v hv => by
      refine (names31_t Any W v (canT t) hv (by omega)).mono ?_
      rintro e w' ⟨h1, u, rfl, h2⟩
      rw [can_sorted he] at h2
      exact ⟨h1, u, rfl, h2.strs.sub fun _ _ _ => trivial⟩
    have HNT : Hid (∀ W v, TreeAt Any W v t → Calls Try.prog 31 #[v] W fun e w' => Up W w' ∧ ∃ u, e = .returned u ∧ StrsAt Any w' u (sortS (fltN t.ns))) := fun W v hv => by
      refine (names31_t Any W v t hv (by omega)).mono ?_
      rintro e w' ⟨h1, u, rfl, h2⟩
      exact ⟨h1, u, rfl, h2.strs.sub fun _ _ _ => trivial⟩
    have HEQ : Hid (∀ W u v, StrsAt Any W u (sortS (fltN t.ns)) → StrsAt Any W v (sortS (fltN t.ns)) → Calls Try.prog 30 #[u, v] W (EqPost W true)) := fun W u v h1 h2 => by
      have h := equal_str_t Any Any W u v _ _ h1 h2 HLL.out HLL.out
      rw [decide_eq_true rfl] at h; exact h
    obtain ⟨lf, hlf⟩ := can_first he
    have HFI : Hid (∀ k, k < (canT t).ns.length → (∀ j, j < k → (gs (canT t).ns j).size = 0) → (gs (canT t).ns k).size ≠ 0 → gs (canT t).ns k = gs (sortS (fltN t.ns)) 0) := fun k hk h1 h2 => flt_first hk hlf h1 h2
    have HNO : Hid (¬ ∀ j, j < (canT t).ns.length → (gs (canT t).ns j).size = 0) := fun h => by
      have := flt_none h
      rw [hlf] at this; cases this
    have HPS : Hid (0 < (sortS (fltN t.ns)).length) := by
      unfold Hid
      rw [sortS_len]
      have h1 := (can_names he).length_eq
      rw [hlf] at h1
      simp at h1; omega
    have H64 : Hid ((canT t).ns.length ≤ 64) := by unfold Hid; omega
    clear hf he hl hce hc64 hcl hlf HSM HCM
    generalize canT t = c at *
    generalize sortS (fltN t.ns) = SN at *
    go_enter Try.func8, Try.ntmps8
    go_wp2_with fail
    generalize w.alloc (.cells #[.slice pp t.ps.length pc, .slice np t.ns.length nc] 25) = w1 at *
    refine HF.out.mono ?_
    rintro e w2 ⟨rfl, hu2⟩
    have HU2 := Lib.hid hu2
    have b0 := hu2.cell HB0.out
    have b1 := hu2.cell HB1.out
    clear hu2 HF
    go_wp2_with fail
    refine (HCA.out w2 _ (HT.out.keep (HU2.out.kept _))).mono ?_
    rintro e w4 ⟨hu4, v4, rfl, ht4⟩
    obtain ⟨P4, N4, rfl, hP4, hN4⟩ := ht4
    obtain ⟨pp4, pc4, rfl, _, _⟩ := SlAt.open hP4
    obtain ⟨np4, nc4, rfl, _, _⟩ := SlAt.open hN4
    have hP4 : IntsAt Any w4 (.slice pp4 c.ps.length pc4) c.ps := hP4
    have hN4 : StrsAt Any w4 (.slice np4 c.ns.length nc4) c.ns := hN4
    have hal := Up.alloc w4 (.cells #[.slice pp4 c.ps.length pc4, .slice np4 c.ns.length nc4] 25)
    have c0 := box2_0 w4 (.slice pp4 c.ps.length pc4) (.slice np4 c.ns.length nc4) 25
    have c1 := box2_1 w4 (.slice pp4 c.ps.length pc4) (.slice np4 c.ns.length nc4) 25
    have HC0 := Lib.hid c0
    have HC1 := Lib.hid c1
    have HN5 := Lib.hid (StrsAt.keep hN4 (hal.kept _))
    have HT5 : Hid (TreeAt Any (w4.alloc (.cells #[.slice pp4 c.ps.length pc4, .slice np4 c.ns.length nc4] 25)) (.agg #[.slice pp4 c.ps.length pc4, .slice np4 c.ns.length nc4]) c) := TreeAt.keep ⟨_, _, rfl, hP4, hN4⟩ (hal.kept _)
    have HU5 := Lib.hid (HU2.out.trans (hu4.trans hal))
    clear hu4 hal hP4 hN4 b0 b1
    go_wp2_with fail
    generalize w4.alloc (.cells #[.slice pp4 c.ps.length pc4, .slice np4 c.ns.length nc4] 25) = w5 at *
    refine (HCC.out w5 _ HT5.out).mono ?_
    rintro e w6 ⟨hu6, v6, rfl, ht6⟩
    obtain ⟨P6, N6, rfl, hP6, hN6⟩ := ht6
    obtain ⟨pp6, pc6, rfl, _, _⟩ := SlAt.open hP6
    obtain ⟨np6, nc6, rfl, _, _⟩ := SlAt.open hN6
    have hP6 : IntsAt Any w6 (.slice pp6 c.ps.length pc6) c.ps := hP6
    have hN6 : StrsAt Any w6 (.slice np6 c.ns.length nc6) c.ns := hN6
    have hal := Up.alloc w6 (.cells #[.slice pp6 c.ps.length pc6, .slice np6 c.ns.length nc6] 25)
    have d0 := box2_0 w6 (.slice pp6 c.ps.length pc6) (.slice np6 c.ns.length nc6) 25
    have d1 := box2_1 w6 (.slice pp6 c.ps.length pc6) (.slice np6 c.ns.length nc6) 25
    have HD0 := Lib.hid d0
    have HD1 := Lib.hid d1
    have HT7 : Hid (TreeAt Any (w6.alloc (.cells #[.slice pp6 c.ps.length pc6, .slice np6 c.ns.length nc6] 25)) (.agg #[.slice pp6 c.ps.length pc6, .slice np6 c.ns.length nc6]) c) := TreeAt.keep ⟨_, _, rfl, hP6, hN6⟩ (hal.kept _)
    have hu67 := hu6.trans hal
    have HU7 := Lib.hid (HU5.out.trans hu67)
    have b0 := HU7.out.cell HB0.out
    have b1 := HU7.out.cell HB1.out
    have c0 := hu67.cell HC0.out
    have c1 := hu67.cell HC1.out
    have HC07 := Lib.hid c0
    have HC17 := Lib.hid c1
    have HT57 := Lib.hid (HT5.out.keep (hu67.kept _))
    have HN7 := Lib.hid (HN5.out.keep (hu67.kept _))
    clear hu6 hal hu67 hP6 hN6 HT5 HC0 HC1 HN5
    go_wp2_with fail
    generalize w6.alloc (.cells #[.slice pp6 c.ps.length pc6, .slice np6 c.ns.length nc6] 25) = w7 at *
    refine (HSA.out w7 _ _ (HT.out.keep (HU7.out.kept _)) HT57.out).mono ?_
    rintro e w8 ⟨rfl, hu8⟩
    have HU8 := Lib.hid (HU7.out.trans hu8)
    have HB08 := Lib.hid (HU8.out.cell HB0.out)
    have HB18 := Lib.hid (HU8.out.cell HB1.out)
    have HC08 := Lib.hid (hu8.cell HC07.out)
    have HC18 := Lib.hid (hu8.cell HC17.out)
    have HD08 := Lib.hid (hu8.cell HD0.out)
    have HD18 := Lib.hid (hu8.cell HD1.out)
    have HT58 := Lib.hid (HT57.out.keep (hu8.kept _))
    have HT78 := Lib.hid (HT7.out.keep (hu8.kept _))
    have HN8 := Lib.hid (HN7.out.keep (hu8.kept _))
    have HT8 := Lib.hid (HT.out.keep (HU8.out.kept _))
    clear hu8 b0 b1 c0 c1 d0 d1 HT57 HT7 HC07 HC17 HD0 HD1 HN7 HT
    go_wp2_with fail
    have HNA8 : Hid (∀ W v, Up w8 W → (v = .agg #[.slice pp4 c.ps.length pc4, .slice np4 c.ns.length nc4] ∨ v = .agg #[.slice pp t.ps.length pc, .slice np t.ns.length nc]) → Calls Try.prog 31 #[v] W fun e w' => Up W w' ∧ ∃ u, e = .returned u ∧ StrsAt Any w' u SN) := fun W v hW hv => by
      rcases hv with rfl | rfl
      · exact HNC.out W _ (HT58.out.keep (hW.kept _))
      · exact HNT.out W _ (HT8.out.keep (hW.kept _))
    have HCK8 : Hid (∀ W, Up w8 W → Calls Try.prog 26 #[.agg #[.slice pp4 c.ps.length pc4, .slice np4 c.ns.length nc4]] W fun e w' => e = .returned (.int .i64 0) ∧ Up W w') := fun W hW => HCK.out W _ (HT58.out.keep (hW.kept _))
    have HST8 : Hid (∀ W, Up w8 W → Calls Try.prog 32 #[.agg #[.slice pp4 c.ps.length pc4, .slice np4 c.ns.length nc4], .agg #[.slice pp6 c.ps.length pc6, .slice np6 c.ns.length nc6]] W fun e w' => e = .returned (.bool true) ∧ Up W w') := fun W hW => HST.out W _ _ (HT58.out.keep (hW.kept _)) (HT78.out.keep (hW.kept _))
    clear HCA HCC HSA HCK HST HNC
    have hup : Hid (Up w8 (w8.drewN 1)) := Up.drewN w8 1
    go_region_held3 (fun w' => Hid (Up w8 w') ∧ w'.cell? ⟨w.heap.size, 0, none⟩ = some (.slice pp t.ps.length pc) ∧ w'.cell? ⟨w.heap.size, 1, none⟩ = some (.slice np t.ns.length nc) ∧ w'.cell? ⟨w4.heap.size, 0, none⟩ = some (.slice pp4 c.ps.length pc4) ∧ w'.cell? ⟨w4.heap.size, 1, none⟩ = some (.slice np4 c.ns.length nc4) ∧ w'.cell? ⟨w6.heap.size, 0, none⟩ = some (.slice pp6 c.ps.length pc6) ∧ w'.cell? ⟨w6.heap.size, 1, none⟩ = some (.slice np6 c.ns.length nc6)) (exact ⟨hup, hup.out.cell HB08.out, hup.out.cell HB18.out, hup.out.cell HC08.out, hup.out.cell HC18.out, hup.out.cell HD08.out, hup.out.cell HD18.out⟩) (first
      | (go_at_call 26; refine (HCK8.out _ hup.out).mono ?_; rintro e w10 ⟨rfl, hb10⟩; have hup : Hid (Up w8 w10) := hup.out.trans hb10; clear hb10)
      | (go_at_call 32; refine (HST8.out _ hup.out).mono ?_; rintro e w11 ⟨rfl, hb11⟩; have hup : Hid (Up w8 w11) := hup.out.trans hb11; clear hb11)
      | (go_at_call 31; have hq := HS12.out; refine (HNA8.out _ _ hup.out (by first | exact .inr rfl | exact .inl rfl)).mono ?_; rintro e w13 ⟨hb13, v13, rfl, ho13⟩; have HS13 := Lib.hid ho13; have HS12 := Lib.hid (hq.keep (hb13.kept _)); have hup : Hid (Up w8 w13) := hup.out.trans hb13; clear hb13 ho13 hq)
      | (go_at_call 31; refine (HNA8.out _ _ hup.out (by first | exact .inl rfl | exact .inr rfl)).mono ?_; rintro e w12 ⟨hb12, v12, rfl, ho12⟩; have HS12 := Lib.hid ho12; have hup : Hid (Up w8 w12) := hup.out.trans hb12; clear hb12 ho12)
      | (go_at_call 30; refine (HEQ.out _ _ _ HS12.out HS13.out).mono ?_; rintro e w14 ⟨rfl, n14, rfl⟩; have hup : Hid (Up w8 (w13.drewN n14)) := hup.out.trans (Up.drewN _ _)))
    have HUW := Lib.hid (HU8.out.trans hup.out)
    have c0 := hup.out.cell HC08.out
    have c1 := hup.out.cell HC18.out
    have HN15 := Lib.hid (HN8.out.keep (hup.out.kept _))
    have HT15 := Lib.hid (HT8.out.keep (hup.out.kept _))
    have HB015 := Lib.hid (hup.out.cell HB08.out)
    have HB115 := Lib.hid (hup.out.cell HB18.out)
    clear hup HC08 HC18 HN8 HT8 HB08 HB18 HD08 HD18 HS12 HS13 HNA8 HCK8 HST8
    generalize w13.drewN n14 = w15 at *
    go_wp2_with fail
    clear c0 c1
    go_loopw [10, 62] (fun _ i wr => ∃ k : Nat, k ≤ c.ns.length ∧ i = .int .i64 k ∧ Hid (Up w15 wr) ∧ Hid (∀ j, j < k → (gs c.ns j).size = 0)) (fun _ i _ => c.ns.length - (intOf i).toNat)
    case atStart => exact ⟨0, Nat.zero_le _, rfl, Up.refl _, fun j hj => absurd hj (Nat.not_lt_zero _)⟩
    case round =>
      obtain ⟨k, hk, rfl, hur, hno⟩ := hrel
      obtain ⟨wo, rfl⟩ : ∃ wo : World, wo = wr := ⟨_, rfl⟩
      by_cases hlt : k < c.ns.length
      · obtain ⟨b2, off, rfl, hcell⟩ := strs_get (StrsAt.keep HN15.out (hur.out.kept _)) hlt
        have i1 : (0 : Int) ≤ (k : Int) := by omega
        have i2 : (k : Int) < (c.ns.length : Int) := by omega
        have i3 : (k : Int) < 64 := by have := H64.out; omega
        have HUR := Lib.hid hur.out
        have HLT := Lib.hid hlt
        have HNIL := Lib.hid (toList_nil (gs c.ns k))
        by_cases hs0 : (gs c.ns k).size = 0
        · have hs1 : (gs c.ns k).toList = [] := HNIL.out.2 hs0
          have HNX : Hid (∀ j, j < k + 1 → (gs c.ns j).size = 0) := fun j hj => by
            by_cases e : j = k
            · subst e; exact hs0
            · exact hno.out j (by omega)
          clear hs0 hur hno
          generalize gs c.ns k = s at *
          go_wp2_with fail
          go_roundw
          case rel => exact ⟨k + 1, HLT.out, by have := HLT.out; have := H64.out; go_num, HUR.out, HNX.out⟩
          case measure => have := HLT.out; simp [intOf]; omega
        · have HEQS := Lib.hid (HFI.out k hlt hno.out hs0)
          have hs1 : ((gs c.ns k).toList == []) = false := by
            rw [Bool.eq_false_iff]; intro e; exact hs0 (HNIL.out.1 (by simpa using e))
          have hs2 : ((gs c.ns k).toList != []) = true := by
            rw [bne_iff_ne]; intro e; exact hs0 (HNIL.out.1 (by simpa using e))
          have b0 := HUR.out.cell HB015.out
          have b1 := HUR.out.cell HB115.out
          clear hs0 hur hno
          generalize gs c.ns k = s at *
          go_wp2_with fail
          refine (HNT.out wo _ (HT15.out.keep (HUR.out.kept _))).mono ?_
          rintro e w16 ⟨hu16, v16, rfl, hs16⟩
          obtain ⟨sp, sc, rfl, _, _⟩ := SlAt.open hs16
          have hs16 : StrsAt Any w16 (.slice sp SN.length sc) SN := hs16
          obtain ⟨b3, off3, rfl, hcell3⟩ := strs_get hs16 HPS.out
          rw [← HEQS.out] at hcell3
          rw [Nat.add_zero] at hcell3
          have i5 : (0 : Int) < (SN.length : Int) := by have := HPS.out; omega
          have HU16 := Lib.hid (HUR.out.trans hu16)
          clear hu16 hs16 b0 b1
          go_wp2_with (first | (go_at_call 20; refine (HAW.out _).mono ?_; rintro e w' ⟨rfl, hu⟩) | fail)
          go_ret
          exact ⟨rfl, HU.out.trans (HUW.out.trans (HU16.out.trans hu))⟩
      · obtain rfl : k = c.ns.length := by omega
        exact absurd hno.out HNO.out
end Go.Proofs.Ytcaialhoclodjaa
