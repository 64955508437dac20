/- OptimaltreeRootsSaid: for every input the law returns true; each argument reads behind the call as it read before. No condition. -/
import Derived.Test.YteegefnjnikngaaGreatQ1
import Derived.Test.YteegefnjnikngaaGreatQ8
import Derived.Test.YteegefnjnikngaaGreatQ12
import Derived.Test.YteegefnjnikngaaGreatQ49
set_option maxRecDepth 100000
namespace Go.Proofs.YteegefnjnikngaaGreat
namespace nR
open Go.ChangeShapes Go.WideShapes Go.ChangeAt Go.RowKit Go.Deep
set_option linter.unusedVariables false
theorem lifted (os : Os) (started : os.Started) (H : Type) (enc : TypeId × Value → H) :
  ReturnsInHanded {} Tryz.checked os 10 .any (Rows.optimaltreeRootsSpec.pre6 enc Tryz.prog Tryz.f10 Rows.optimaltreeRootsRow.domain false) (Rows.optimaltreeRootsSpec.post enc Tryz.prog Tryz.f10 false true false false) := by
 refine returnsInHanded_of_change (C := Tryz.checked) RQ started (by kernel_rfl) Tryz.func10
  (ChangeSpec.witness6 (enc := enc) (C := Tryz.checked) false ⟨#[], #[.slice none 0 0, .slice none 0 0, .int .u8 0, .int .u8 0], []⟩ 8 (by kernel_rfl) (by kernel_rfl) (by kernel_rfl) (by kernel_rfl)) ?_
 intro W base args ds gs before VP hW hcnd _
 have hval : ∀ (j : Nat) t v, Tryz.f10.params[j]? = some t → args[j]? = some v → Value.okWide Tryz.prog W .any base t v := VP
 have Ov := hW
 obtain ⟨p, q, Vq, hV, rfl, hfz, fk⟩ := hW
 have hA : DataW.TrodAll enc Tryz.prog W 0 (fun _ => true) true Tryz.f10.params.toList args.toList ds p := Vq
 rw [Tryz.params10] at hA hval
 obtain ⟨v0, Zc, d0, ds0, p0, q0, hargs, rfl, rfl, g0, r0⟩ := trodAll_cons hA
 obtain ⟨v1, vs1, d1, ds1, p1, q1, rfl, rfl, rfl, g1, r1⟩ := trodAll_cons r0
 obtain ⟨v2, vs2, d2, ds2, p2, q2, rfl, rfl, rfl, g2, r2⟩ := trodAll_cons r1
 obtain ⟨v3, vs3, d3, ds3, p3, q3, rfl, rfl, rfl, g3, r3⟩ := trodAll_cons r2
 obtain ⟨rfl, rfl, rfl⟩ := trodAll_nil r3
 obtain rfl : args = #[v0, v1, v2, v3] := by cases args; simp_all
 obtain ⟨rfl, rfl⟩ := trodVars_none hV
 have k0 := g0
 have lt0 := F0 g0
 obtain ⟨x0, h0, ha0, hb0⟩ := MP (hval 0 22 v0 rfl rfl) g0
 have k1 := g1
 have Vy := F0 g1
 obtain ⟨x1, h1, ha1, hb1⟩ := MJ (hval 1 23 v1 rfl rfl) g1
 have k2 := g2
 have lt2 := F0 g2
 obtain ⟨x2, rfl, rfl, rfl, w2⟩ := open_int Tryz.underlying5 (hval 2 5 v2 rfl rfl) g2
 have h2 := bounds_u8 w2
 have k3 := g3
 have lt3 := F0 g3
 obtain ⟨x3, rfl, rfl, rfl, w3⟩ := open_int Tryz.underlying5 (hval 3 5 v3 rfl rfl) g3
 have h3 := bounds_u8 w3
 clear Vq VP
 refine (KW W _ _ x0 x1 x2 x3 h0 h1 ha0 hb0 ha1 hb1 h2.1 h2.2 h3.1 h3.2).mono fun e W' ⟨he, Rp⟩ => ?_
 subst he
 exact ⟨_, rfl, _, _, _, [], _, [], Ov, trodAll_mk1 (shut_bool Tryz.underlying4 _), (trodAll_cons_mk (Below.trod laidOut (by kernel_rfl) (of_decide_eq_true (by kernel_rfl)) k0 Rp lt0) (trodAll_cons_mk (Below.trod laidOut (by kernel_rfl) (of_decide_eq_true (by kernel_rfl)) k1 Rp Vy) (trodAll_cons_mk (Below.trod laidOut (by kernel_rfl) (of_decide_eq_true (by kernel_rfl)) k2 Rp lt2) (trodAll_cons_mk (Below.trod laidOut (by kernel_rfl) (of_decide_eq_true (by kernel_rfl)) k3 Rp lt3) trodAll_mk0)))), rfl, Rp.frame _, fun h => by cases h⟩
theorem dD {a b : Bool} (h1 : a = true) (h2 : b = true) : (a && b) = true := by rw [h1, h2]; rfl
theorem cf0 : (Rows.optimaltreeRootsRow.wf (OpenSpec.ofChange Rows.optimaltreeRootsSpec)) = true := by kernel_rfl
theorem cf1 : (laidOutB Tryz.pinned.checked.prog) = true := by kernel_rfl
theorem cf2 : (mapsRowed Tryz.pinned.checked.prog) = true := by kernel_rfl
theorem cf3 : (Tryz.f10.params.all (Tryz.pinned.checked.prog.readableRec ·)) = true := by kernel_rfl
theorem cf4 : (namedTie Tryz.pinned.checked.prog Rows.optimaltreeRootsRow.named Rows.optimaltreeRootsSpec.vars) = true := by kernel_rfl
theorem cf5 : ((Rows.optimaltreeRootsRow.stops == [])) = true := by kernel_rfl
theorem cf6 : ((Tryz.pinned.checked.prog.stops == [])) = true := by kernel_rfl
theorem cf7 : ((Rows.optimaltreeRootsRow.knobs == [])) = true := by kernel_rfl
theorem cf8 : ((Tryz.pinned.checked.prog.stopKnobs == [])) = true := by kernel_rfl
theorem cf9 : ((Rows.optimaltreeRootsRow.inPlace == Tryz.pinned.checked.prog.inPlace 10)) = true := by kernel_rfl
theorem cf10 : ((Rows.optimaltreeRootsRow.unfollowed == Tryz.pinned.checked.prog.unfollowed 10)) = true := by kernel_rfl
theorem cf11 : ((Rows.optimaltreeRootsRow.recurses == Tryz.pinned.checked.prog.recurses 10)) = true := by kernel_rfl
theorem cf12 : ((Rows.optimaltreeRootsRow.named == Tryz.pinned.checked.prog.varsNamed 10)) = true := by kernel_rfl
theorem cf13 : ((Rows.optimaltreeRootsRow.maps == (Tryz.f10.params.toList ++ Rows.optimaltreeRootsSpec.plain.varTypes Tryz.pinned.checked.prog).any (Tryz.pinned.checked.prog.mapsRec ·))) = true := by kernel_rfl
theorem cf14 : ((Rows.optimaltreeRootsRow.ifaces == (Tryz.f10.params.toList ++ Rows.optimaltreeRootsSpec.plain.varTypes Tryz.pinned.checked.prog).any (Tryz.pinned.checked.prog.ifacesRec ·))) = true := by kernel_rfl
theorem cf15 : ((Rows.optimaltreeRootsRow.mapsOut == Tryz.pinned.checked.prog.mapsAmong Tryz.f10.resultTypes.toList)) = true := by kernel_rfl
theorem cf16 : ((Rows.optimaltreeRootsRow.loops == (Tryz.f10.params.toList ++ Rows.optimaltreeRootsSpec.plain.varTypes Tryz.pinned.checked.prog).any (Tryz.pinned.checked.prog.loopsFrom ·))) = true := by kernel_rfl
theorem cf17 : ((Rows.optimaltreeRootsRow.wideKeys == (Tryz.f10.params.toList ++ Rows.optimaltreeRootsSpec.plain.varTypes Tryz.pinned.checked.prog ++ Tryz.f10.resultTypes.toList).any (Tryz.pinned.checked.prog.wideKeysFrom ·))) = true := by kernel_rfl
theorem cf18 : (Rows.optimaltreeRootsSpec.vars.all (Tryz.pinned.checked.prog.varReadable ·)) = true := by kernel_rfl
theorem cf19 : (Tryz.f10.resultTypes.all (fun t => Tryz.pinned.checked.prog.readableRec t && decide (t < Tryz.pinned.checked.prog.types.size))) = true := by kernel_rfl
theorem cf20 : ((Rows.optimaltreeRootsRow.ifacesOut == Tryz.f10.resultTypes.toList.any (Tryz.pinned.checked.prog.ifacesRec ·))) = true := by kernel_rfl
theorem cf21 : ((Rows.optimaltreeRootsRow.loopsOut == Tryz.f10.resultTypes.toList.any (Tryz.pinned.checked.prog.loopsFrom ·))) = true := by kernel_rfl
theorem cf22 : ((Rows.optimaltreeRootsRow.plainKeys == Tryz.pinned.checked.prog.plainKeys)) = true := by kernel_rfl
theorem cf23 : (Rows.optimaltreeRootsRow.shortTexts.isNone) = true := by kernel_rfl
theorem cf24 : (Tryz.pinned.checked.prog.stopsHeard) = true := by kernel_rfl
theorem cf25 : (Tryz.pinned.checked.prog.mayEnter) = true := by kernel_rfl
theorem cf26 : ((Rows.optimaltreeRootsRow.lifted == Tryz.pinned.checked.prog.liftsFinal)) = true := by kernel_rfl
theorem cf27 : ((Tryz.pinned.checked.prog.make == some Rows.optimaltreeRootsRow.make)) = true := by kernel_rfl
theorem cf28 : ((Rows.optimaltreeRootsRow.kinds == (if Rows.optimaltreeRootsRow.domain.isEmpty then [] else Tryz.f10.params.toList.map fun t => match Tryz.pinned.checked.prog.underlying t with | some (.int k) => some k | _ => none))) = true := by kernel_rfl
theorem cf29 : ((Rows.optimaltreeRootsRow.pinned == Rows.optimaltreeRootsRow.pinnedBy)) = true := by kernel_rfl
theorem cf30 : ((Rows.optimaltreeRootsRow.veiled == (Tryz.f10.params.toList ++ Rows.optimaltreeRootsSpec.plain.varTypes Tryz.pinned.checked.prog ++ Tryz.f10.resultTypes.toList).any (Tryz.pinned.checked.prog.veiledRec ·))) = true := by kernel_rfl
theorem cf31 : (Rows.optimaltreeRootsRow.veiledFits Tryz.pinned.checked.prog Tryz.f10.params.toList (Tryz.f10.params.toList ++ Rows.optimaltreeRootsSpec.plain.varTypes Tryz.pinned.checked.prog ++ Tryz.f10.resultTypes.toList)) = true := by kernel_rfl
theorem facts : joinedFacts Tryz.pinned.checked.prog 10 Tryz.f10 Rows.optimaltreeRootsSpec Rows.optimaltreeRootsRow = true := by
 unfold joinedFacts
 exact dD (dD (dD (dD (dD (dD (dD (dD (dD (dD (dD (dD (dD (dD (dD (dD (dD (dD (dD (dD (dD (dD (dD (dD (dD (dD (dD (dD (dD (dD (dD (cf0) cf1) cf2) cf3) cf4) cf5) cf6) cf7) cf8) cf9) cf10) cf11) cf12) cf13) cf14) cf15) cf16) cf17) cf18) cf19) cf20) cf21) cf22) cf23) cf24) cf25) cf26) cf27) cf28) cf29) cf30) cf31
theorem over : Rows.optimaltreeRootsRow.holds Tryz.pinned (OpenSpec.ofChange Rows.optimaltreeRootsSpec) :=
 OpenClaim.holds_of_wide 10 Tryz.f10 rfl rfl rfl rfl rfl rfl rfl ⟨rfl, rfl, rfl, rfl, rfl⟩ rfl rfl rfl rfl rfl (by kernel_rfl) Tryz.func10 facts
  (of_decide_eq_true (by kernel_rfl)) (by unfold Func.isWrapper; first | (rw [if_pos (by decide +kernel)]; kernel_rfl) | (rw [if_neg (by decide +kernel)]; exact ⟨rfl, rfl⟩))
  (fun os started H enc _ => lifted os started H enc)
end nR
theorem optimaltreeRoots_holds : Rows.OptimaltreeRootsSaid := nR.over
end Go.Proofs.YteegefnjnikngaaGreat
