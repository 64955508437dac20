/- SplitTreesSaid: for every input the law returns true; each argument reads behind the call as it read before. No condition. -/
import Derived.Test.YtpnmblnahjjmhaaGreatQ1
import Derived.Test.YtpnmblnahjjmhaaGreatQ51
import Derived.Test.YtpnmblnahjjmhaaGreatQ53
import Derived.Test.YtpnmblnahjjmhaaGreatQ54
set_option maxRecDepth 100000
namespace Go.Proofs.YtpnmblnahjjmhaaGreat
namespace tF
open Go.ChangeShapes Go.WideShapes Go.ChangeAt Go.RowKit Go.Deep
set_option linter.unusedVariables false
theorem lifted (os : Os) (started : os.Started) (H : Type) (enc : TypeId × Value → H) :
  ReturnsInHanded {} Tryz.checked os 4 .any (Rows.splitTreesSpec.pre6 enc Tryz.prog Tryz.f4 Rows.splitTreesRow.domain false) (Rows.splitTreesSpec.post enc Tryz.prog Tryz.f4 false true false false) := by
 refine returnsInHanded_of_change (C := Tryz.checked) T5 started (by kernel_rfl) Tryz.func4
  (ChangeSpec.witness6 (enc := enc) (C := Tryz.checked) false ⟨#[], #[.agg #[.slice none 0 0, .slice none 0 0], .agg #[.slice none 0 0, .slice none 0 0], .slice none 0 0, .slice none 0 0], []⟩ 8 (by kernel_rfl) (by kernel_rfl) (by kernel_rfl) (by kernel_rfl)) ?_
 intro W base args ds gs before Vo hW hcnd _
 have hval : ∀ (j : Nat) t v, Tryz.f4.params[j]? = some t → args[j]? = some v → Value.okWide Tryz.prog W .any base t v := Vo
 have ki := hW
 obtain ⟨p, q, UA, hV, rfl, hfz, dZ⟩ := hW
 have hA : DataW.TrodAll enc Tryz.prog W 0 (fun _ => true) true Tryz.f4.params.toList args.toList ds p := UA
 rw [Tryz.params4] at hA hval
 obtain ⟨v0, vs0, d0, ds0, p0, q0, hargs, rfl, rfl, g0, r0⟩ := trodAll_cons hA
 obtain ⟨v1, vs1, d1, ds1, p1, q1, rfl, rfl, rfl, g1, r1⟩ := trodAll_cons r0
 obtain ⟨v2, vs2, d2, ds2, p2, q2, rfl, rfl, rfl, g2, r2⟩ := trodAll_cons r1
 obtain ⟨v3, vs3, d3, ds3, p3, q3, rfl, rfl, rfl, g3, r3⟩ := trodAll_cons r2
 obtain ⟨rfl, rfl, rfl⟩ := trodAll_nil r3
 obtain rfl : args = #[v0, v1, v2, v3] := by cases args; simp_all
 obtain ⟨rfl, rfl⟩ := trodVars_none hV
 have k0 := g0
 have lt0 := Fh g0
 obtain ⟨t0, h0, ha0, hb0, hc0⟩ := Cx (hval 0 39 v0 rfl rfl) g0
 have k1 := g1
 have lt1 := Fh g1
 obtain ⟨t1, h1, ha1, hb1, hc1⟩ := Cx (hval 1 39 v1 rfl rfl) g1
 have k2 := g2
 have lt2 := Fh g2
 obtain ⟨x2, h2, ha2, hb2⟩ := Nu (hval 2 22 v2 rfl rfl) g2
 have k3 := g3
 have lt3 := Fh g3
 obtain ⟨x3, h3, ha3, hb3⟩ := Np (hval 3 23 v3 rfl rfl) g3
 clear UA Vo
 refine (Nw W _ _ t0 t1 _ x2 _ x3 h0 h1 h2 h3 ha0 hb0 hc0 ha1 hb1 hc1 ha2 hb2 ha3 hb3).mono fun e W' ⟨he, Q1⟩ => ?_
 subst he
 exact ⟨_, rfl, _, _, _, [], _, [], ki, trodAll_mk1 (shut_bool Tryz.underlying4 _), (trodAll_cons_mk (Below.trod laidOut (by kernel_rfl) (of_decide_eq_true (by kernel_rfl)) k0 Q1 lt0) (trodAll_cons_mk (Below.trod laidOut (by kernel_rfl) (of_decide_eq_true (by kernel_rfl)) k1 Q1 lt1) (trodAll_cons_mk (Below.trod laidOut (by kernel_rfl) (of_decide_eq_true (by kernel_rfl)) k2 Q1 lt2) (trodAll_cons_mk (Below.trod laidOut (by kernel_rfl) (of_decide_eq_true (by kernel_rfl)) k3 Q1 lt3) trodAll_mk0)))), rfl, Q1.frame _, fun h => by cases h⟩
theorem dB {a b : Bool} (h1 : a = true) (h2 : b = true) : (a && b) = true := by rw [h1, h2]; rfl
theorem cf0 : (Rows.splitTreesRow.wf (OpenSpec.ofChange Rows.splitTreesSpec)) = true := by kernel_rfl
theorem cf1 : (laidOutB Tryz.pinned.checked.prog) = true := by kernel_rfl
theorem cf2 : (mapsRowed Tryz.pinned.checked.prog) = true := by kernel_rfl
theorem cf3 : (Tryz.f4.params.all (Tryz.pinned.checked.prog.readableRec ·)) = true := by kernel_rfl
theorem cf4 : (namedTie Tryz.pinned.checked.prog Rows.splitTreesRow.named Rows.splitTreesSpec.vars) = true := by kernel_rfl
theorem cf5 : ((Rows.splitTreesRow.stops == [])) = true := by kernel_rfl
theorem cf6 : ((Tryz.pinned.checked.prog.stops == [])) = true := by kernel_rfl
theorem cf7 : ((Rows.splitTreesRow.knobs == [])) = true := by kernel_rfl
theorem cf8 : ((Tryz.pinned.checked.prog.stopKnobs == [])) = true := by kernel_rfl
theorem cf9 : ((Rows.splitTreesRow.inPlace == Tryz.pinned.checked.prog.inPlace 4)) = true := by kernel_rfl
theorem cf10 : ((Rows.splitTreesRow.unfollowed == Tryz.pinned.checked.prog.unfollowed 4)) = true := by kernel_rfl
theorem cf11 : ((Rows.splitTreesRow.recurses == Tryz.pinned.checked.prog.recurses 4)) = true := by kernel_rfl
theorem cf12 : ((Rows.splitTreesRow.named == Tryz.pinned.checked.prog.varsNamed 4)) = true := by kernel_rfl
theorem cf13 : ((Rows.splitTreesRow.maps == (Tryz.f4.params.toList ++ Rows.splitTreesSpec.plain.varTypes Tryz.pinned.checked.prog).any (Tryz.pinned.checked.prog.mapsRec ·))) = true := by kernel_rfl
theorem cf14 : ((Rows.splitTreesRow.ifaces == (Tryz.f4.params.toList ++ Rows.splitTreesSpec.plain.varTypes Tryz.pinned.checked.prog).any (Tryz.pinned.checked.prog.ifacesRec ·))) = true := by kernel_rfl
theorem cf15 : ((Rows.splitTreesRow.mapsOut == Tryz.pinned.checked.prog.mapsAmong Tryz.f4.resultTypes.toList)) = true := by kernel_rfl
theorem cf16 : ((Rows.splitTreesRow.loops == (Tryz.f4.params.toList ++ Rows.splitTreesSpec.plain.varTypes Tryz.pinned.checked.prog).any (Tryz.pinned.checked.prog.loopsFrom ·))) = true := by kernel_rfl
theorem cf17 : ((Rows.splitTreesRow.wideKeys == (Tryz.f4.params.toList ++ Rows.splitTreesSpec.plain.varTypes Tryz.pinned.checked.prog ++ Tryz.f4.resultTypes.toList).any (Tryz.pinned.checked.prog.wideKeysFrom ·))) = true := by kernel_rfl
theorem cf18 : (Rows.splitTreesSpec.vars.all (Tryz.pinned.checked.prog.varReadable ·)) = true := by kernel_rfl
theorem cf19 : (Tryz.f4.resultTypes.all (fun t => Tryz.pinned.checked.prog.readableRec t && decide (t < Tryz.pinned.checked.prog.types.size))) = true := by kernel_rfl
theorem cf20 : ((Rows.splitTreesRow.ifacesOut == Tryz.f4.resultTypes.toList.any (Tryz.pinned.checked.prog.ifacesRec ·))) = true := by kernel_rfl
theorem cf21 : ((Rows.splitTreesRow.loopsOut == Tryz.f4.resultTypes.toList.any (Tryz.pinned.checked.prog.loopsFrom ·))) = true := by kernel_rfl
theorem cf22 : ((Rows.splitTreesRow.plainKeys == Tryz.pinned.checked.prog.plainKeys)) = true := by kernel_rfl
theorem cf23 : (Rows.splitTreesRow.shortTexts.isNone) = true := by kernel_rfl
theorem cf24 : (Tryz.pinned.checked.prog.stopsHeard) = true := by kernel_rfl
theorem cf25 : (Tryz.pinned.checked.prog.mayEnter) = true := by kernel_rfl
theorem cf26 : ((Rows.splitTreesRow.lifted == Tryz.pinned.checked.prog.liftsFinal)) = true := by kernel_rfl
theorem cf27 : ((Tryz.pinned.checked.prog.make == some Rows.splitTreesRow.make)) = true := by kernel_rfl
theorem cf28 : ((Rows.splitTreesRow.kinds == (if Rows.splitTreesRow.domain.isEmpty then [] else Tryz.f4.params.toList.map fun t => match Tryz.pinned.checked.prog.underlying t with | some (.int k) => some k | _ => none))) = true := by kernel_rfl
theorem cf29 : ((Rows.splitTreesRow.pinned == Rows.splitTreesRow.pinnedBy)) = true := by kernel_rfl
theorem cf30 : ((Rows.splitTreesRow.veiled == (Tryz.f4.params.toList ++ Rows.splitTreesSpec.plain.varTypes Tryz.pinned.checked.prog ++ Tryz.f4.resultTypes.toList).any (Tryz.pinned.checked.prog.veiledRec ·))) = true := by kernel_rfl
theorem cf31 : (Rows.splitTreesRow.veiledFits Tryz.pinned.checked.prog Tryz.f4.params.toList (Tryz.f4.params.toList ++ Rows.splitTreesSpec.plain.varTypes Tryz.pinned.checked.prog ++ Tryz.f4.resultTypes.toList)) = true := by kernel_rfl
theorem facts : joinedFacts Tryz.pinned.checked.prog 4 Tryz.f4 Rows.splitTreesSpec Rows.splitTreesRow = true := by
 unfold joinedFacts
 exact dB (dB (dB (dB (dB (dB (dB (dB (dB (dB (dB (dB (dB (dB (dB (dB (dB (dB (dB (dB (dB (dB (dB (dB (dB (dB (dB (dB (dB (dB (dB (cf0) cf1) cf2) cf3) cf4) cf5) cf6) cf7) cf8) cf9) cf10) cf11) cf12) cf13) cf14) cf15) cf16) cf17) cf18) cf19) cf20) cf21) cf22) cf23) cf24) cf25) cf26) cf27) cf28) cf29) cf30) cf31
theorem over : Rows.splitTreesRow.holds Tryz.pinned (OpenSpec.ofChange Rows.splitTreesSpec) :=
 OpenClaim.holds_of_wide 4 Tryz.f4 rfl rfl rfl rfl rfl rfl rfl ⟨rfl, rfl, rfl, rfl, rfl⟩ rfl rfl rfl rfl rfl (by kernel_rfl) Tryz.func4 facts
  (of_decide_eq_true (by kernel_rfl)) (by unfold Func.isWrapper; first | (rw [if_pos (by decide +kernel)]; kernel_rfl) | (rw [if_neg (by decide +kernel)]; exact ⟨rfl, rfl⟩))
  (fun os started H enc _ => lifted os started H enc)
end tF
theorem splitTrees_holds : Rows.SplitTreesSaid := tF.over
end Go.Proofs.YtpnmblnahjjmhaaGreat
