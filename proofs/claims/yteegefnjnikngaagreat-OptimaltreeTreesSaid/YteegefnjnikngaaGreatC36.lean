/- OptimaltreeTreesSaid: for every input the law returns true; each argument reads behind the call as it read before. No condition. -/
import Derived.Test.YteegefnjnikngaaGreatQ1
import Derived.Test.YteegefnjnikngaaGreatQ53
import Derived.Test.YteegefnjnikngaaGreatQ54
set_option maxRecDepth 100000
namespace Go.Proofs.YteegefnjnikngaaGreat
namespace kS
open Go.ChangeShapes Go.WideShapes Go.ChangeAt Go.RowKit Go.Deep
set_option linter.unusedVariables false
theorem lifted (os : Os) (started : os.Started) (H : Type) (enc : TypeId × Value → H) :
  ReturnsInHanded {} Tryz.checked os 4 .any (Rows.optimaltreeTreesSpec.pre6 enc Tryz.prog Tryz.f4 Rows.optimaltreeTreesRow.domain false) (Rows.optimaltreeTreesSpec.post enc Tryz.prog Tryz.f4 false true false false) := by
 refine returnsInHanded_of_change (C := Tryz.checked) OW started (by kernel_rfl) Tryz.func4
  (ChangeSpec.witness6 (enc := enc) (C := Tryz.checked) false ⟨#[], #[.int .i64 0, .slice none 0 0, .slice none 0 0], []⟩ 8 (by kernel_rfl) (by kernel_rfl) (by kernel_rfl) (by kernel_rfl)) ?_
 intro W base args ds gs before Qv hW hcnd _
 have hval : ∀ (j : Nat) t v, Tryz.f4.params[j]? = some t → args[j]? = some v → Value.okWide Tryz.prog W .any base t v := Qv
 have JQ := hW
 obtain ⟨p, q, PT, hV, rfl, hfz, fF⟩ := hW
 have hA : DataW.TrodAll enc Tryz.prog W 0 (fun _ => true) true Tryz.f4.params.toList args.toList ds p := PT
 rw [Tryz.params4] at hA hval
 obtain ⟨v0, Tw, d0, ds0, p0, q0, hargs, rfl, rfl, g0, r0⟩ := trodAll_cons hA
 obtain ⟨v1, vs1, d1, ds1, p1, q1, rfl, rfl, rfl, g1, r1⟩ := trodAll_cons r0
 obtain ⟨v2, vs2, d2, ds2, p2, q2, rfl, rfl, rfl, g2, r2⟩ := trodAll_cons r1
 obtain ⟨rfl, rfl, rfl⟩ := trodAll_nil r2
 obtain rfl : args = #[v0, v1, v2] := by cases args; simp_all
 obtain ⟨rfl, rfl⟩ := trodVars_none hV
 have k0 := g0
 have lt0 := Jy g0
 obtain ⟨x0, rfl, rfl, rfl, w0⟩ := open_int Tryz.underlying3 (hval 0 3 v0 rfl rfl) g0
 have h0 := bounds_i64 w0
 have k1 := g1
 have Qa := Jy g1
 obtain ⟨x1, h1, ha1, hb1⟩ := JC (hval 1 22 v1 rfl rfl) g1
 have k2 := g2
 have lt2 := Jy g2
 obtain ⟨x2, h2, ha2, hb2⟩ := Jz (hval 2 23 v2 rfl rfl) g2
 clear PT Qv
 refine (F7 W _ _ _ x1 x2 h1 h2 h0 ha1 hb1 ha2 hb2).mono fun e W' ⟨he, Qw⟩ => ?_
 subst he
 exact ⟨_, rfl, _, _, _, [], _, [], JQ, trodAll_mk1 (shut_bool Tryz.underlying4 _), (trodAll_cons_mk (Below.trod laidOut (by kernel_rfl) (of_decide_eq_true (by kernel_rfl)) k0 Qw lt0) (trodAll_cons_mk (Below.trod laidOut (by kernel_rfl) (of_decide_eq_true (by kernel_rfl)) k1 Qw Qa) (trodAll_cons_mk (Below.trod laidOut (by kernel_rfl) (of_decide_eq_true (by kernel_rfl)) k2 Qw lt2) trodAll_mk0))), rfl, Qw.frame _, fun h => by cases h⟩
theorem cA {a b : Bool} (h1 : a = true) (h2 : b = true) : (a && b) = true := by rw [h1, h2]; rfl
theorem cf0 : (Rows.optimaltreeTreesRow.wf (OpenSpec.ofChange Rows.optimaltreeTreesSpec)) = true := by kernel_rfl
theorem cf1 : (laidOutB Tryz.pinned.checked.prog) = true := by kernel_rfl
theorem cf2 : (mapsRowed Tryz.pinned.checked.prog) = true := by kernel_rfl
theorem cf3 : (Tryz.f4.params.all (Tryz.pinned.checked.prog.readableRec ·)) = true := by kernel_rfl
theorem cf4 : (namedTie Tryz.pinned.checked.prog Rows.optimaltreeTreesRow.named Rows.optimaltreeTreesSpec.vars) = true := by kernel_rfl
theorem cf5 : ((Rows.optimaltreeTreesRow.stops == [])) = true := by kernel_rfl
theorem cf6 : ((Tryz.pinned.checked.prog.stops == [])) = true := by kernel_rfl
theorem cf7 : ((Rows.optimaltreeTreesRow.knobs == [])) = true := by kernel_rfl
theorem cf8 : ((Tryz.pinned.checked.prog.stopKnobs == [])) = true := by kernel_rfl
theorem cf9 : ((Rows.optimaltreeTreesRow.inPlace == Tryz.pinned.checked.prog.inPlace 4)) = true := by kernel_rfl
theorem cf10 : ((Rows.optimaltreeTreesRow.unfollowed == Tryz.pinned.checked.prog.unfollowed 4)) = true := by kernel_rfl
theorem cf11 : ((Rows.optimaltreeTreesRow.recurses == Tryz.pinned.checked.prog.recurses 4)) = true := by kernel_rfl
theorem cf12 : ((Rows.optimaltreeTreesRow.named == Tryz.pinned.checked.prog.varsNamed 4)) = true := by kernel_rfl
theorem cf13 : ((Rows.optimaltreeTreesRow.maps == (Tryz.f4.params.toList ++ Rows.optimaltreeTreesSpec.plain.varTypes Tryz.pinned.checked.prog).any (Tryz.pinned.checked.prog.mapsRec ·))) = true := by kernel_rfl
theorem cf14 : ((Rows.optimaltreeTreesRow.ifaces == (Tryz.f4.params.toList ++ Rows.optimaltreeTreesSpec.plain.varTypes Tryz.pinned.checked.prog).any (Tryz.pinned.checked.prog.ifacesRec ·))) = true := by kernel_rfl
theorem cf15 : ((Rows.optimaltreeTreesRow.mapsOut == Tryz.pinned.checked.prog.mapsAmong Tryz.f4.resultTypes.toList)) = true := by kernel_rfl
theorem cf16 : ((Rows.optimaltreeTreesRow.loops == (Tryz.f4.params.toList ++ Rows.optimaltreeTreesSpec.plain.varTypes Tryz.pinned.checked.prog).any (Tryz.pinned.checked.prog.loopsFrom ·))) = true := by kernel_rfl
theorem cf17 : ((Rows.optimaltreeTreesRow.wideKeys == (Tryz.f4.params.toList ++ Rows.optimaltreeTreesSpec.plain.varTypes Tryz.pinned.checked.prog ++ Tryz.f4.resultTypes.toList).any (Tryz.pinned.checked.prog.wideKeysFrom ·))) = true := by kernel_rfl
theorem cf18 : (Rows.optimaltreeTreesSpec.vars.all (Tryz.pinned.checked.prog.varReadable ·)) = true := by kernel_rfl
theorem cf19 : (Tryz.f4.resultTypes.all (fun t => Tryz.pinned.checked.prog.readableRec t && decide (t < Tryz.pinned.checked.prog.types.size))) = true := by kernel_rfl
theorem cf20 : ((Rows.optimaltreeTreesRow.ifacesOut == Tryz.f4.resultTypes.toList.any (Tryz.pinned.checked.prog.ifacesRec ·))) = true := by kernel_rfl
theorem cf21 : ((Rows.optimaltreeTreesRow.loopsOut == Tryz.f4.resultTypes.toList.any (Tryz.pinned.checked.prog.loopsFrom ·))) = true := by kernel_rfl
theorem cf22 : ((Rows.optimaltreeTreesRow.plainKeys == Tryz.pinned.checked.prog.plainKeys)) = true := by kernel_rfl
theorem cf23 : (Rows.optimaltreeTreesRow.shortTexts.isNone) = true := by kernel_rfl
theorem cf24 : (Tryz.pinned.checked.prog.stopsHeard) = true := by kernel_rfl
theorem cf25 : (Tryz.pinned.checked.prog.mayEnter) = true := by kernel_rfl
theorem cf26 : ((Rows.optimaltreeTreesRow.lifted == Tryz.pinned.checked.prog.liftsFinal)) = true := by kernel_rfl
theorem cf27 : ((Tryz.pinned.checked.prog.make == some Rows.optimaltreeTreesRow.make)) = true := by kernel_rfl
theorem cf28 : ((Rows.optimaltreeTreesRow.kinds == (if Rows.optimaltreeTreesRow.domain.isEmpty then [] else Tryz.f4.params.toList.map fun t => match Tryz.pinned.checked.prog.underlying t with | some (.int k) => some k | _ => none))) = true := by kernel_rfl
theorem cf29 : ((Rows.optimaltreeTreesRow.pinned == Rows.optimaltreeTreesRow.pinnedBy)) = true := by kernel_rfl
theorem cf30 : ((Rows.optimaltreeTreesRow.veiled == (Tryz.f4.params.toList ++ Rows.optimaltreeTreesSpec.plain.varTypes Tryz.pinned.checked.prog ++ Tryz.f4.resultTypes.toList).any (Tryz.pinned.checked.prog.veiledRec ·))) = true := by kernel_rfl
theorem cf31 : (Rows.optimaltreeTreesRow.veiledFits Tryz.pinned.checked.prog Tryz.f4.params.toList (Tryz.f4.params.toList ++ Rows.optimaltreeTreesSpec.plain.varTypes Tryz.pinned.checked.prog ++ Tryz.f4.resultTypes.toList)) = true := by kernel_rfl
theorem facts : joinedFacts Tryz.pinned.checked.prog 4 Tryz.f4 Rows.optimaltreeTreesSpec Rows.optimaltreeTreesRow = true := by
 unfold joinedFacts
 exact cA (cA (cA (cA (cA (cA (cA (cA (cA (cA (cA (cA (cA (cA (cA (cA (cA (cA (cA (cA (cA (cA (cA (cA (cA (cA (cA (cA (cA (cA (cA (cf0) cf1) cf2) cf3) cf4) cf5) cf6) cf7) cf8) cf9) cf10) cf11) cf12) cf13) cf14) cf15) cf16) cf17) cf18) cf19) cf20) cf21) cf22) cf23) cf24) cf25) cf26) cf27) cf28) cf29) cf30) cf31
theorem over : Rows.optimaltreeTreesRow.holds Tryz.pinned (OpenSpec.ofChange Rows.optimaltreeTreesSpec) :=
 OpenClaim.holds_of_wide 4 Tryz.f4 rfl rfl rfl rfl rfl rfl rfl ⟨rfl, rfl, rfl, rfl, rfl⟩ rfl rfl rfl rfl rfl (by kernel_rfl) Tryz.func4 facts
  (of_decide_eq_true (by kernel_rfl)) (by unfold Func.isWrapper; first | (rw [if_pos (by decide +kernel)]; kernel_rfl) | (rw [if_neg (by decide +kernel)]; exact ⟨rfl, rfl⟩))
  (fun os started H enc _ => lifted os started H enc)
end kS
theorem optimaltreeTrees_holds : Rows.OptimaltreeTreesSaid := kS.over
end Go.Proofs.YteegefnjnikngaaGreat
