/- The names of a tree, beginning with one of them (the statements on layer 32). Sets and splits: what intset and split compute. Plain. -/
import Derived.Test.YtpjijbophjdgaaaGreatQ30
import Derived.Test.YtpjijbophjdgaaaGreatQ15
import Derived.Test.YtpjijbophjdgaaaGreatQ10
import Derived.Test.YtpjijbophjdgaaaGreatQ1
namespace Go.Proofs.YtpjijbophjdgaaaGreat
open Go.RowKit Go.Deep
def rotN (l : List ByteArray) (k : Nat) : List ByteArray := l.drop k ++ l.take k
def NmPost32 (w : World) (l : List ByteArray) (e : Ending) (w' : World) : Prop := Up w w' ∧ ∃ v, e = .returned v ∧ StrsAt Any w' v l
set_option maxRecDepth 100000 in
set_option maxHeartbeats 4000000 in
theorem names32_t (S : Nat → Prop) (w : World) (v : Value) (t : Tre) (f k : Nat) (hT : TreeAt S w v t) (hn : t.ns.length ≤ 1000) (hf : f ≤ 255) (h0 : 0 < (fltN t.ns).length) (hk : f % (fltN t.ns).length = k) :
    Calls Tryz.prog 61 #[v, .int .i64 f] w (NmPost32 w (rotN (fltN t.ns) k)) := by
  obtain ⟨P, N, rfl, hP, hN⟩ := hT
  obtain ⟨np, nc, rfl, _, _⟩ := SlAt.open hN
  have hN : StrsAt S w (.slice np t.ns.length nc) t.ns := hN
  have hu := Up.alloc w (.cells #[P, .slice np t.ns.length nc] 45)
  have b1 := box2_1 w P (.slice np t.ns.length nc) 45
  have HN1 := Lib.hid (StrsAt.keep hN (hu.kept S))
  have HU := Lib.hid hu
  have HSZ := Lib.hid hn
  have HF := Lib.hid hf
  have H0 := Lib.hid h0
  have HK := Lib.hid hk
  clear hu hP hN hf h0 hk
  go_enter Tryz.func61, Tryz.ntmps61
  go_wp2_with fail
  clear b1
  generalize w.alloc (.cells #[P, .slice np t.ns.length nc] 45) = w7 at *
  go_loopw [5, 7, 12] (fun d _ i wr => ∃ k : Nat, k ≤ t.ns.length ∧ i = .int .i64 k ∧ Hid (Owns w7.heap.size 9 wr d ((fltN (t.ns.take k)).map Value.string)) ∧ Hid (Up w7 wr)) (fun _ _ i _ => t.ns.length - (intOf i).toNat)
  case atStart => exact ⟨0, Nat.zero_le _, rfl, Owns.nil _ _ _, Up.refl _⟩
  case round =>
    obtain ⟨k, hk, rfl, hD, hUr⟩ := hrel
    obtain ⟨wo, rfl⟩ : ∃ wo : World, wo = wr := ⟨_, rfl⟩
    obtain ⟨d, rfl⟩ : ∃ d : Value, d = u5 := ⟨_, rfl⟩
    by_cases hlt : k < t.ns.length
    · obtain ⟨b, off, rfl, hcell⟩ := strs_get (StrsAt.keep HN1.out (hUr.out.kept _)) hlt
      have i1 : (0 : Int) ≤ (k : Int) := by omega
      have i2 : (k : Int) < (t.ns.length : Int) := by omega
      have i3 : (k : Int) < 1000 := by have := HSZ.out; omega
      have HTK := Lib.hid (flt_take31 hlt)
      have HNIL := Lib.hid (toList_nil (gs t.ns k))
      have HLN : Hid ((fltN (t.ns.take k)).length ≤ 1000) := by
        have h1 : (fltN (t.ns.take k)).length ≤ (t.ns.take k).length := List.length_filter_le _ _
        rw [List.length_take] at h1
        have := HSZ.out; unfold Hid; omega
      have HUA := Lib.hid hUr.out
      have HDA := Lib.hid hD.out
      have hsz := hUr.out.size
      have HLT := Lib.hid hlt
      clear hUr hD hk
      generalize gs t.ns k = s at *
      by_cases hs0 : s.size = 0
      · have hs1 : s.toList = [] := HNIL.out.2 hs0
        have HF : Hid (fltN (t.ns.take (k + 1)) = fltN (t.ns.take k)) := by unfold Hid; rw [HTK.out, if_pos hs0, List.append_nil]
        clear hs0
        go_wp2_with fail
        go_roundw
        case rel => exact ⟨k + 1, HLT.out, by have := HLT.out; have := HSZ.out; go_num, by rw [HF.out]; exact HDA.out, HUA.out⟩
        case measure => have := HLT.out; have := HSZ.out; simp [intOf]; omega
      · have hs1 : (s.toList == []) = false := by
          rw [Bool.eq_false_iff]; intro e; exact hs0 (HNIL.out.1 (by simpa using e))
        have hs2 : (s.toList != []) = true := by
          rw [bne_iff_ne]; intro e; exact hs0 (HNIL.out.1 (by simpa using e))
        have HF : Hid (fltN (t.ns.take (k + 1)) = fltN (t.ns.take k) ++ [s]) := by unfold Hid; rw [HTK.out, if_neg hs0]
        have HLM : Hid (((fltN (t.ns.take k)).map Value.string).length = (fltN (t.ns.take k)).length) := List.length_map _
        have HL6 : Hid ((fltN (t.ns.take k)).length ≤ 1000000) := by have := HLN.out; unfold Hid; omega
        clear hs0
        go_wp2_with (at_builtin; refine wpList_appM wo rfl _ _ 43 rfl w7.heap.size 9 (.string ⟨#[]⟩) 16 Tryz.underlying43 Tryz.infoStr2 rfl (by decide) HDA.out rfl (.string s) _ rfl rfl rfl _ HLM.out HL6.out hsz ?_; intro g8 cap8 w8 hown1 hgr1 hbe1)
        go_roundw
        case rel => exact ⟨k + 1, HLT.out, by have := HLT.out; have := HSZ.out; go_num, by unfold Hid; rw [HF.out, List.map_append]; exact hown1, Below.trans HUA.out hbe1⟩
        case measure => have := HLT.out; have := HSZ.out; simp [intOf]; omega
    · obtain rfl : k = t.ns.length := by omega
      have hD2 := hD.out
      rw [List.take_length] at hD2
      have hUW := hUr.out
      clear hlt hk hD hUr
      have hfl : (fltN t.ns).length ≤ 1000 := by
        have h1 : (fltN t.ns).length ≤ t.ns.length := List.length_filter_le _ _
        have := HSZ.out; omega
      have h0 := H0.out
      have hkk := HK.out
      have hf := HF.out
      generalize fltN t.ns = L at *
      obtain ⟨g, c, hdv, hmc⟩ : ∃ g c, d = .slice (some ⟨g, 0, none⟩) L.length c ∧ L.length ≤ c := by
        obtain ⟨q, c, hv, hle, hh⟩ := Owns.slAt hD2
        rw [List.length_map] at hv hle hh
        rcases hh with hh | ⟨b, off, rfl, _, _⟩
        · omega
        obtain ⟨_, h1 | ⟨g2, c2, cur, h1, _⟩⟩ := hD2
        · rw [h1.1] at hv; cases hv
        · rw [h1] at hv; injection hv with e1 _ e2; injection e1 with e1
          exact ⟨g2, c2, by rw [h1, List.length_map], by omega⟩
      have HD := Lib.hid (StrsAt.sub (Owns.strs hD2) (T := Any) fun _ _ _ => trivial)
      have HUA := Lib.hid hUW
      have HLM : Hid (L.length ≤ 1000) := hfl
      subst hdv
      have hkm : k < L.length := by rw [← hkk]; exact Nat.mod_lt _ h0
      have htm : ((f : Int)).tmod (L.length : Int) = (k : Int) := by
        rw [Int.tmod_eq_emod_of_nonneg (by omega), ← Int.natCast_emod, hkk]
      have i1 : (0 : Int) < (L.length : Int) := by omega
      have i2 : (0 : Int) ≤ (k : Int) := by omega
      have i3 : (k : Int) ≤ (L.length : Int) := by omega
      have i4 : (L.length : Int) ≤ (c : Int) := by omega
      have i5 : (k : Int) < 1000 := by omega
      have i6 : (k : Int) ≤ (c : Int) := by omega
      have i7 : (f : Int) ≤ 255 := by omega
      have HKM := Lib.hid hkm
      have HMC := Lib.hid hmc
      clear hD2 hUW hkk hf h0 HK HF H0 hkm hmc
      go_wp2_with fail
      refine region_T (by kernel_rfl) 12 (fun _ => True) trivial (fun hS => ?_)
      simp only [List.size_toArray, List.length_cons, List.length_nil, Nat.reduceAdd, Array.replicate_succ, Array.replicate_zero, List.push_toArray, List.nil_append, List.cons_append]
      have HUD0 : Hid (Up w7 wo.drew) := HUA.out.trans (Up.drewN wo 1)
      have HDD0 : Hid (StrsAt Any wo.drew (.slice (some ⟨g, 0, none⟩) L.length c) L) := StrsAt.keep HD.out ((Up.drewN wo 1).kept _)
      generalize wo.drew = Wd at *
      refine anyT.take (i := 0) (v := ?gv0) rfl (by kernel_rfl) (fun _ _ _ h => h) (by rfl) (fun w hSw => ?gy0) hS ?gr0
      case gy0 =>
        (try dsimp only at hSw)
        go_simp
        try with_reducible rfl
      try simp only [Act.put, List.setIfInBounds_toArray, List.set_cons_zero, List.set_cons_succ]
      refine anyT.take (i := 1) (v := ?gv1) rfl (by kernel_rfl) (fun _ _ _ h => h) (by rfl) (fun w hSw => ?gy1) hS ?gr1
      case gy1 =>
        (try dsimp only at hSw)
        go_simp
        try with_reducible rfl
      try simp only [Act.put, List.setIfInBounds_toArray, List.set_cons_zero, List.set_cons_succ]
      refine anyT.take (i := 2) (v := ?gv2) rfl (by kernel_rfl) (fun _ _ _ h => h) (by rfl) (fun w hSw => ?gy2) hS ?gr2
      case gy2 =>
        (try dsimp only at hSw)
        go_simp
        try with_reducible rfl
      try simp only [Act.put, List.setIfInBounds_toArray, List.set_cons_zero, List.set_cons_succ]
      refine anyT.take (i := 3) (v := ?gv3) rfl (by kernel_rfl) (fun _ _ _ h => h) (by rfl) (fun w hSw => ?gy3) hS ?gr3
      case gy3 =>
        (try dsimp only at hSw)
        go_simp
        try with_reducible rfl
      try simp only [Act.put, List.setIfInBounds_toArray, List.set_cons_zero, List.set_cons_succ]
      refine anyT.take (i := 4) (v := ?gv4) rfl (by kernel_rfl) (fun _ _ _ h => h) (by rfl) (fun w hSw => ?gy4) hS ?gr4
      case gy4 =>
        (try dsimp only at hSw)
        go_simp
        try with_reducible rfl
      try simp only [Act.put, List.setIfInBounds_toArray, List.set_cons_zero, List.set_cons_succ]
      refine anyT.take (i := 5) (v := ?gv5) rfl (by kernel_rfl) (fun _ _ _ h => h) (by rfl) (fun w hSw => ?gy5) hS ?gr5
      case gy5 =>
        (try dsimp only at hSw)
        go_simp
        try with_reducible rfl
      try simp only [Act.put, List.setIfInBounds_toArray, List.set_cons_zero, List.set_cons_succ]
      refine anyT.take (i := 6) (v := ?gv6) rfl (by kernel_rfl) (fun _ _ _ h => h) (by rfl) (fun w hSw => ?gy6) hS ?gr6
      case gy6 =>
        (try dsimp only at hSw)
        go_simp
        try with_reducible rfl
      try simp only [Act.put, List.setIfInBounds_toArray, List.set_cons_zero, List.set_cons_succ]
      refine anyT.take (i := 7) (v := ?gv7) rfl (by kernel_rfl) (fun _ _ _ h => h) (by rfl) (fun w hSw => ?gy7) hS ?gr7
      case gy7 =>
        (try dsimp only at hSw)
        go_simp
        try with_reducible rfl
      try simp only [Act.put, List.setIfInBounds_toArray, List.set_cons_zero, List.set_cons_succ]
      refine anyT.take (i := 8) (v := ?gv8) rfl (by kernel_rfl) (fun _ _ _ h => h) (by rfl) (fun w hSw => ?gy8) hS ?gr8
      case gy8 =>
        (try dsimp only at hSw)
        go_simp
        try with_reducible rfl
      try simp only [Act.put, List.setIfInBounds_toArray, List.set_cons_zero, List.set_cons_succ]
      refine anyT.take (i := 9) (v := ?gv9) rfl (by kernel_rfl) (fun _ _ _ h => h) (by rfl) (fun w hSw => ?gy9) hS ?gr9
      case gy9 =>
        (try dsimp only at hSw)
        go_simp
        try with_reducible rfl
      try simp only [Act.put, List.setIfInBounds_toArray, List.set_cons_zero, List.set_cons_succ]
      have hne : ¬ L.length = k := by have := HKM.out; omega
      simp only [if_neg hne]
      have HUD : Hid (Up w7 Wd) := HUD0.out
      have HDD : Hid (StrsAt Any Wd (.slice (some ⟨g, 0, none⟩) L.length c) L) := HDD0.out
      by_cases k0 : k = 0
      · subst k0
        refine anyT.step (i := 10) rfl (by kernel_rfl) (fun K' hK => ?_)
        refine step_app0 (by rfl) _ _ _ (by rfl) 9 (.string ⟨#[]⟩) 16 Tryz.underlying43 Tryz.infoStr2 (by rfl) (Nat.le_refl _) (by rfl) ?_
        refine hK.out _ _ (fun _ => trivial) (fun _ => ?_)
        try simp only [Act.put, List.setIfInBounds_toArray, List.set_cons_zero, List.set_cons_succ]
        refine anyT.step (i := 11) rfl (by kernel_rfl) (fun K' hK => ?_)
        go_simp
        refine hK.out _ _ (not_more (by kernel_rfl)) (fun _ => ?_)
        refine anyT.done (by kernel_rfl) ?_
        try simp only [Act.put, List.setIfInBounds_toArray, List.set_cons_zero, List.set_cons_succ]
        have HR : Hid (NmPost32 w (rotN L 0) (.returned (.slice (some ⟨g, 0, none⟩) (L.length - 0) (L.length - 0))) Wd) := ⟨HU.out.trans HUD.out, _, rfl, by
          unfold rotN
          rw [List.drop_zero, List.take_zero, List.append_nil, Nat.sub_zero]
          refine ⟨_, _, rfl, Nat.le_refl _, .inr ⟨g, 0, rfl, trivial, fun j hj => ?_⟩⟩
          obtain ⟨b', o', e, hcell⟩ := strs_get HDD.out hj
          injection e with e; injection e with e1 e2; subst e1; subst e2; exact hcell⟩
        go_wp2_with fail
        go_ret
        exact HR.out
      · have hk1 : 0 < k := by omega
        have hcellD : ∀ j, j < L.length → Wd.cell? ⟨g, j, none⟩ = some (.string (gs L j)) := fun j hj => by
          obtain ⟨b', o', e, hcell⟩ := strs_get HDD.out hj
          injection e with e; injection e with e1 e2; subst e1; subst e2
          rwa [Nat.zero_add] at hcell
        have hln : ((L.drop k).map Value.string).length = L.length - k := by rw [List.length_map, List.length_drop]
        have hln2 : ((L.take k).map Value.string).length = k := by rw [List.length_map, List.length_take]; have := HKM.out; omega
        refine anyT.step (i := 10) rfl (by kernel_rfl) (fun K' hK => ?_)
        refine step_appF (by rfl) _ _ _ (by rfl) 9 (.string ⟨#[]⟩) 16 Tryz.underlying43 Tryz.infoStr2 (by rfl) (by decide) (by rfl) (fun e => by cases e) hln (fun b hb j u hj => by
            injection hb with hb; subst hb
            have hj2 := (List.getElem?_eq_some_iff.1 hj).1
            rw [hln] at hj2
            have hadd : (⟨g, k, none⟩ : Addr).add j = ⟨g, k + j, none⟩ := by unfold Addr.add; split <;> simp_all
            rw [hadd, hcellD (k + j) (by omega)]
            rw [List.getElem?_map, List.getElem?_drop] at hj
            obtain ⟨x, hx, rfl⟩ := Option.map_eq_some_iff.1 hj
            simp [gs, hx]) (by rfl) hln2 (fun j u hj => by
            have hj2 := (List.getElem?_eq_some_iff.1 hj).1
            rw [hln2] at hj2
            have hadd : (⟨g, 0, none⟩ : Addr).add j = ⟨g, j, none⟩ := by unfold Addr.add; split <;> simp_all
            rw [hadd, hcellD j (by have := HKM.out; omega)]
            rw [List.getElem?_map, List.getElem?_take_of_lt hj2] at hj
            obtain ⟨x, hx, rfl⟩ := Option.map_eq_some_iff.1 hj
            simp [gs, hx]) (fun u hu => by obtain ⟨x, _, rfl⟩ := List.mem_map.1 hu; rfl) hk1 (by have := HLM.out; omega) ?_
        intro g2 cap2 w9 ho9 hu9
        refine hK.out _ _ (fun _ => trivial) (fun _ => ?_)
        try simp only [Act.put, List.setIfInBounds_toArray, List.set_cons_zero, List.set_cons_succ]
        refine anyT.step (i := 11) rfl (by kernel_rfl) (fun K' hK => ?_)
        go_simp
        refine hK.out _ _ (not_more (by kernel_rfl)) (fun _ => ?_)
        refine anyT.done (by kernel_rfl) ?_
        try simp only [Act.put, List.setIfInBounds_toArray, List.set_cons_zero, List.set_cons_succ]
        have HR : Hid (NmPost32 w (rotN L k) (.returned (.slice (some ⟨g2, 0, none⟩) (L.length - k + k) cap2)) w9) := ⟨HU.out.trans (HUD.out.trans hu9), _, rfl, by
          rw [← List.map_append] at ho9
          exact (Owns.strs ho9).sub fun _ _ _ => trivial⟩
        clear ho9 hu9 hcellD
        go_wp2_with fail
        go_ret
        exact HR.out
end Go.Proofs.YtpjijbophjdgaaaGreat
namespace Go.Proofs.YtpjijbophjdgaaaGreat
def setBad (l : List Int) (i : Nat) : Int := if gi l i < 0 ∨ 63 < gi l i then 2 else if 0 < i ∧ gi l i ≤ gi l (i - 1) then 10 else 0
def setErr (l : List Int) : Int := firstNZ (setBad l) l.length
structure SetOk (l : List Int) : Prop where
  asc : l.Pairwise (· < ·)
  bd : ∀ x ∈ l, 0 ≤ x ∧ x ≤ 63
theorem pair_of_next {l : List Int} (h : ∀ i, i + 1 < l.length → gi l i < gi l (i + 1)) : l.Pairwise (· < ·) := by
  have key : ∀ d i, i + d + 1 < l.length → gi l i < gi l (i + d + 1) := by
    intro d
    induction d with
    | zero => intro i hi; exact h i hi
    | succ d ih =>
      intro i hi
      have h1 := ih i (by omega)
      have h2 := h (i + d + 1) (by omega)
      rw [show i + (d + 1) + 1 = i + d + 1 + 1 by omega]
      omega
  refine List.pairwise_iff_getElem.2 fun i j hi hj hij => ?_
  have h1 := key (j - i - 1) i (by omega)
  rw [show i + (j - i - 1) + 1 = j by omega] at h1
  simpa [gi, hi, hj] using h1
theorem pair_lt {l : List Int} (h : l.Pairwise (· < ·)) {i j : Nat} (hij : i < j) (hj : j < l.length) : gi l i < gi l j := by
  have := List.pairwise_iff_getElem.1 h i j (by omega) hj hij
  simpa [gi, hj, show i < l.length by omega] using this
theorem gi_in {l : List Int} {k : Nat} (h : k < l.length) : gi l k ∈ l := by simp [gi, h]
theorem in_gi {l : List Int} {x : Int} (h : x ∈ l) : ∃ k, k < l.length ∧ gi l k = x := by
  obtain ⟨k, hk, e⟩ := List.mem_iff_getElem.1 h
  exact ⟨k, hk, by simp [gi, hk, e]⟩
theorem setErr_zero {l : List Int} : setErr l = 0 ↔ SetOk l := by
  constructor
  · intro h
    have hb := firstNZ_eq_zero h
    refine ⟨pair_of_next fun i hi => ?_, fun x hx => ?_⟩
    · have := hb (i + 1) hi
      unfold setBad at this
      split at this
      · cases this
      · split at this
        · cases this
        · rename_i h2
          rw [Nat.add_sub_cancel] at h2
          omega
    · obtain ⟨k, hk, e⟩ := in_gi hx
      have := hb k hk
      unfold setBad at this
      split at this
      · cases this
      · omega
  · intro h
    refine firstNZ_zero fun j hj => ?_
    have hb := h.bd _ (gi_in hj)
    unfold setBad
    rw [if_neg (by omega), if_neg]
    rintro ⟨h1, h2⟩
    have := pair_lt h.asc (i := j - 1) (j := j) (by omega) hj
    omega
def splErr (n : Int) (s : List Int) : Int :=
  if n < 1 ∨ 32 < n then 2 else if setErr s ≠ 0 then setErr s else if 0 < s.length ∧ (gi s 0 = 0 ∨ n ≤ gi s (s.length - 1)) then 2 else if (s.length : Int) < 2 ∨ n - 2 < s.length then 8 else 0
structure SplOk (n : Int) (s : List Int) : Prop where
  n1 : 1 ≤ n ∧ n ≤ 32
  set : SetOk s
  bd : ∀ x ∈ s, 1 ≤ x ∧ x < n
  len : 2 ≤ s.length ∧ (s.length : Int) ≤ n - 2
theorem set_last {s : List Int} (h : SetOk s) {x : Int} (hx : x ∈ s) : gi s 0 ≤ x ∧ x ≤ gi s (s.length - 1) := by
  obtain ⟨k, hk, rfl⟩ := in_gi hx
  constructor
  · by_cases e : k = 0
    · subst e; exact Int.le_refl _
    · exact Int.le_of_lt (pair_lt h.asc (by omega) hk)
  · by_cases e : k = s.length - 1
    · subst e; exact Int.le_refl _
    · exact Int.le_of_lt (pair_lt h.asc (by omega) (by omega))
theorem splErr_zero {n : Int} {s : List Int} : splErr n s = 0 ↔ SplOk n s := by
  constructor
  · intro h
    unfold splErr at h
    split at h
    · cases h
    · split at h
      · rename_i h2; exact absurd h h2
      · rename_i h2
        have hs := setErr_zero.1 (Classical.not_not.1 h2)
        split at h
        · cases h
        · rename_i h3
          split at h
          · cases h
          · refine ⟨by omega, hs, fun x hx => ?_, by omega⟩
            have h4 := set_last hs hx
            have h5 := hs.bd x hx
            have h6 : 0 < s.length := List.length_pos_of_mem hx
            have h7 := hs.bd _ (gi_in h6)
            omega
  · intro h
    have h1 := h.n1
    have h2 := h.len
    unfold splErr
    rw [if_neg (by omega), if_neg (fun e => e (setErr_zero.2 h.set)), if_neg, if_neg (by omega)]
    rintro ⟨h3, h4⟩
    have h5 := h.bd _ (gi_in h3)
    have h6 := h.bd _ (gi_in (l := s) (k := s.length - 1) (by omega))
    omega
def memK (p : Int → Bool) (n : Nat) : List Int := ((List.range n).map fun (i : Nat) => (i : Int)).filter p
theorem memK_succ (p : Int → Bool) (n : Nat) : memK p (n + 1) = memK p n ++ if p n = true then [(n : Int)] else [] := by
  unfold memK
  rw [List.range_succ, List.map_append, List.filter_append]
  congr 1
  simp only [List.map_cons, List.map_nil, List.filter_cons, List.filter_nil]
theorem memK_len (p : Int → Bool) (n : Nat) : (memK p n).length ≤ n := by
  unfold memK; exact Nat.le_trans (List.length_filter_le _ _) (by simp)
theorem mem_memK {p : Int → Bool} {n : Nat} {x : Int} : x ∈ memK p n ↔ 0 ≤ x ∧ x < n ∧ p x = true := by
  unfold memK
  rw [List.mem_filter, List.mem_map]
  constructor
  · rintro ⟨⟨i, hi, rfl⟩, h2⟩
    have := List.mem_range.1 hi
    exact ⟨by omega, by omega, h2⟩
  · rintro ⟨h0, h1, h2⟩
    obtain ⟨i, rfl⟩ := Int.eq_ofNat_of_zero_le h0
    exact ⟨⟨i, List.mem_range.2 (by omega), rfl⟩, h2⟩
theorem memK_asc (p : Int → Bool) (n : Nat) : (memK p n).Pairwise (· < ·) := by
  refine List.Pairwise.filter _ ?_
  rw [List.pairwise_map]
  exact List.pairwise_lt_range.imp fun h => by omega
theorem asc_ext {a b : List Int} (ha : a.Pairwise (· < ·)) (hb : b.Pairwise (· < ·)) (h : ∀ x, x ∈ a ↔ x ∈ b) : a = b := by
  induction a generalizing b with
  | nil =>
    cases b with
    | nil => rfl
    | cons y b => exact absurd ((h y).2 (by simp)) (by simp)
  | cons x a ih =>
    cases b with
    | nil => exact absurd ((h x).1 (by simp)) (by simp)
    | cons y b =>
      rw [List.pairwise_cons] at ha hb
      have e : x = y := by
        have h1 := (h x).1 (by simp)
        have h2 := (h y).2 (by simp)
        rw [List.mem_cons] at h1 h2
        rcases h1 with h1 | h1
        · exact h1
        · rcases h2 with h2 | h2
          · exact h2.symm
          · have := ha.1 y h2; have := hb.1 x h1; omega
      subst e
      congr 1
      refine ih ha.2 hb.2 fun z => ?_
      constructor
      · intro hz
        have h1 := (h z).1 (by simp [hz])
        rw [List.mem_cons] at h1
        rcases h1 with rfl | h1
        · have := ha.1 _ hz; omega
        · exact h1
      · intro hz
        have h1 := (h z).2 (by simp [hz])
        rw [List.mem_cons] at h1
        rcases h1 with rfl | h1
        · have := hb.1 _ hz; omega
        · exact h1
def interL (a b : List Int) : List Int := memK (fun x => a.contains x && b.contains x) 64
def complL (n : Int) (a : List Int) : List Int := memK (fun x => !a.contains x) n.toNat
theorem mem_interL {a b : List Int} (ha : SetOk a) {x : Int} : x ∈ interL a b ↔ x ∈ a ∧ x ∈ b := by
  unfold interL
  rw [mem_memK]
  simp only [Bool.and_eq_true, List.contains_iff_mem]
  exact ⟨fun h => h.2.2, fun h => by have := ha.bd x h.1; exact ⟨by omega, by omega, h⟩⟩
theorem mem_complL {n : Int} {a : List Int} {x : Int} : x ∈ complL n a ↔ 0 ≤ x ∧ x < n ∧ x ∉ a := by
  unfold complL
  rw [mem_memK]
  constructor
  · rintro ⟨h1, h2, h3⟩
    exact ⟨h1, by omega, fun h => by rw [List.contains_iff_mem.2 h] at h3; cases h3⟩
  · rintro ⟨h1, h2, h3⟩
    refine ⟨h1, by omega, ?_⟩
    cases e : a.contains x with
    | false => rfl
    | true => exact absurd (List.contains_iff_mem.1 e) h3
theorem set_nodup {a : List Int} (h : a.Pairwise (· < ·)) : a.Nodup := h.imp fun h e => by omega
theorem asc_filter {a b : List Int} (ha : a.Pairwise (· < ·)) (hb : b.Pairwise (· < ·)) (h : ∀ x ∈ a, x ∈ b) : b.filter (fun x => a.contains x) = a :=
  asc_ext (hb.filter _) ha fun x => by
    rw [List.mem_filter, List.contains_iff_mem]
    exact ⟨fun e => e.2, fun e => ⟨h x e, e⟩⟩
theorem asc_sub_len {a b : List Int} (ha : a.Pairwise (· < ·)) (hb : b.Pairwise (· < ·)) (h : ∀ x ∈ a, x ∈ b) : a.length ≤ b.length := by
  rw [← asc_filter ha hb h]; exact List.length_filter_le _ _
theorem asc_sub_eq {a b : List Int} (ha : a.Pairwise (· < ·)) (hb : b.Pairwise (· < ·)) (h : ∀ x ∈ a, x ∈ b) (hl : a.length = b.length) : ∀ x ∈ b, x ∈ a := by
  have h1 := asc_filter ha hb h
  have h2 : (b.filter (fun x => a.contains x)).length = b.length := by rw [h1, hl]
  exact fun x hx => List.contains_iff_mem.1 (List.length_filter_eq_length_iff.1 h2 x hx)
def compB (a b : List Int) : Bool := decide ((interL a b).length = 0) || decide ((interL a b).length = a.length) || decide ((interL a b).length = b.length)
theorem interL_asc (a b : List Int) : (interL a b).Pairwise (· < ·) := memK_asc _ _
theorem compB_iff {a b : List Int} (ha : SetOk a) (hb : SetOk b) : compB a b = true ↔ (∀ x ∈ a, x ∉ b) ∨ (∀ x ∈ a, x ∈ b) ∨ (∀ x ∈ b, x ∈ a) := by
  unfold compB
  simp only [Bool.or_eq_true, decide_eq_true_eq]
  have e0 : (interL a b).length = 0 ↔ ∀ x ∈ a, x ∉ b := by
    rw [List.length_eq_zero_iff]
    constructor
    · intro h x h1 h2
      have := (mem_interL ha).2 ⟨h1, h2⟩
      rw [h] at this; cases this
    · intro h
      refine List.eq_nil_iff_forall_not_mem.2 fun x hx => ?_
      obtain ⟨h1, h2⟩ := (mem_interL ha).1 hx
      exact h x h1 h2
  have e1 : (interL a b).length = a.length ↔ ∀ x ∈ a, x ∈ b := by
    constructor
    · intro h x hx
      exact ((mem_interL ha).1 (asc_sub_eq (interL_asc a b) ha.asc (fun y hy => ((mem_interL ha).1 hy).1) h x hx)).2
    · intro h
      have h1 := asc_sub_len (interL_asc a b) ha.asc (b := a) fun y hy => ((mem_interL ha).1 hy).1
      have h2 := asc_sub_len ha.asc (interL_asc a b) fun y hy => (mem_interL ha).2 ⟨hy, h y hy⟩
      omega
  have e2 : (interL a b).length = b.length ↔ ∀ x ∈ b, x ∈ a := by
    constructor
    · intro h x hx
      exact ((mem_interL ha).1 (asc_sub_eq (interL_asc a b) hb.asc (fun y hy => ((mem_interL ha).1 hy).2) h x hx)).1
    · intro h
      have h1 := asc_sub_len (interL_asc a b) hb.asc fun y hy => ((mem_interL ha).1 hy).2
      have h2 := asc_sub_len hb.asc (interL_asc a b) fun y hy => (mem_interL ha).2 ⟨h y hy, hy⟩
      omega
  rw [e0, e1, e2, or_assoc]
def rowPair (l : List (List Int)) (i : Nat) : Int := firstIx (fun k => decide (i < k) && !compB (gl l i) (gl l k)) l.length
def pairI (l : List (List Int)) : Int := firstIx (fun i => decide (0 ≤ rowPair l i)) l.length
def pairK (l : List (List Int)) : Int := rowPair l (pairI l).toNat
end Go.Proofs.YtpjijbophjdgaaaGreat
