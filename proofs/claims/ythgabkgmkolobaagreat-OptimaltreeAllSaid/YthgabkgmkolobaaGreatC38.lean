/- OptimaltreeAllSaid: for every input the law returns true; each argument reads behind the call as it read before. No condition. -/
import Derived.Test.YthgabkgmkolobaaGreatRows
import Derived.WalkKit
import Derived.ProofKit
import Derived.OpenShut
import Derived.ShutString
import Derived.ChangeOld
import Derived.Below
import Derived.Deep.Matrix
import Derived.Lib.SmallJoins
import Derived.RangeFuncNested
import Derived.RangeFuncBound
import Derived.RangeFuncCalls
import Derived.RangeFuncLeaves
import Derived.Shelf.Abstract
import Derived.Shelf.RegionOpen
import Derived.OwnWalkIn
import Derived.TacticsInMore
import Derived.LoopNIn
import Derived.LoopIn
import Derived.Sort.QuietIn
import Derived.Stop.RegionWithIn
import Derived.Test.YthgabkgmkolobaaGreatProg
import Derived.WalkSpells
import Derived.WalkLawsBesides
import Derived.Deep.OwnRows
import Derived.Deep.QuietTactic
import Derived.BigQuiet
import Derived.Lib.Hide
import Derived.Shelf.Small.Strs
import Derived.Maps.AppendAt
import Derived.Deep.AppendLies
import Derived.StillTail
import Derived.Test.YthgabkgmkolobaaGreatQ45
import Derived.Test.YthgabkgmkolobaaGreatQ6
import Derived.Test.YthgabkgmkolobaaGreatQ5
import Derived.Test.YthgabkgmkolobaaGreatQ3
import Derived.Test.YthgabkgmkolobaaGreatQ2
import Derived.Test.YthgabkgmkolobaaGreatQ1
import Derived.Test.YthgabkgmkolobaaGreatQ4
import Derived.Test.YthgabkgmkolobaaGreatQ19
import Derived.Test.YthgabkgmkolobaaGreatQ15
import Derived.Test.YthgabkgmkolobaaGreatQ48
set_option maxRecDepth 100000
namespace Go.Proofs.YthgabkgmkolobaaGreat
namespace oA
open Go.ChangeShapes Go.WideShapes Go.ChangeAt Go.RowKit Go.Deep
set_option linter.unusedVariables false
theorem lifted (os : Os) (started : os.Started) (H : Type) (enc : TypeId × Value → H) :
  ReturnsInHanded {} Tryz.checked os 4 .any (Rows.optimaltreeAllSpec.pre6 enc Tryz.prog Tryz.f4 Rows.optimaltreeAllRow.domain false) (Rows.optimaltreeAllSpec.post enc Tryz.prog Tryz.f4 false true false false) := by
 refine returnsInHanded_of_change (C := Tryz.checked) Jw started (by kernel_rfl) Tryz.func4
  (ChangeSpec.witness6 (enc := enc) (C := Tryz.checked) false ⟨#[], #[.slice none 0 0], []⟩ 8 (by kernel_rfl) (by kernel_rfl) (by kernel_rfl) (by kernel_rfl)) ?_
 intro W base args ds gs before CM hW hcnd _
 have hval : ∀ (j : Nat) t v, Tryz.f4.params[j]? = some t → args[j]? = some v → Value.okWide Tryz.prog W .any base t v := CM
 have F4 := hW
 obtain ⟨p, q, Io, hV, rfl, hfz, eT⟩ := hW
 have hA : DataW.TrodAll enc Tryz.prog W 0 (fun _ => true) true Tryz.f4.params.toList args.toList ds p := Io
 rw [Tryz.params4] at hA hval
 obtain ⟨v0, UT, d0, ds0, p0, q0, hargs, rfl, rfl, g0, r0⟩ := trodAll_cons hA
 obtain ⟨rfl, rfl, rfl⟩ := trodAll_nil r0
 obtain rfl : args = #[v0] := by cases args; simp_all
 obtain ⟨rfl, rfl⟩ := trodVars_none hV
 have k0 := g0
 have lt0 := FL g0
 obtain ⟨x0, h0, ha0, hb0⟩ := CC (hval 0 22 v0 rfl rfl) g0
 clear Io CM
 refine (QI W _ x0 h0 ha0 hb0).mono fun e W' ⟨he, JZ⟩ => ?_
 subst he
 exact ⟨_, rfl, _, _, _, [], _, [], F4, trodAll_mk1 (shut_bool Tryz.underlying4 _), (trodAll_cons_mk (Below.trod laidOut (by kernel_rfl) (of_decide_eq_true (by kernel_rfl)) k0 JZ lt0) trodAll_mk0), rfl, JZ.frame _, fun h => by cases h⟩
theorem aX {a b : Bool} (h1 : a = true) (h2 : b = true) : (a && b) = true := by rw [h1, h2]; rfl
theorem cf0 : (Rows.optimaltreeAllRow.wf (OpenSpec.ofChange Rows.optimaltreeAllSpec)) = true := by kernel_rfl
theorem cf1 : (laidOutB Tryz.pinned.checked.prog) = true := by kernel_rfl
theorem cf2 : (mapsRowed Tryz.pinned.checked.prog) = true := by kernel_rfl
theorem cf3 : (Tryz.f4.params.all (Tryz.pinned.checked.prog.readableRec ·)) = true := by kernel_rfl
theorem cf4 : (namedTie Tryz.pinned.checked.prog Rows.optimaltreeAllRow.named Rows.optimaltreeAllSpec.vars) = true := by kernel_rfl
theorem cf5 : ((Rows.optimaltreeAllRow.stops == [])) = true := by kernel_rfl
theorem cf6 : ((Tryz.pinned.checked.prog.stops == [])) = true := by kernel_rfl
theorem cf7 : ((Rows.optimaltreeAllRow.knobs == [])) = true := by kernel_rfl
theorem cf8 : ((Tryz.pinned.checked.prog.stopKnobs == [])) = true := by kernel_rfl
theorem cf9 : ((Rows.optimaltreeAllRow.inPlace == Tryz.pinned.checked.prog.inPlace 4)) = true := by kernel_rfl
theorem TS : ((Rows.optimaltreeAllRow.unfollowed == Tryz.pinned.checked.prog.unfollowed 4)) = true := by kernel_rfl
theorem TT : ((Rows.optimaltreeAllRow.recurses == Tryz.pinned.checked.prog.recurses 4)) = true := by kernel_rfl
theorem TU : ((Rows.optimaltreeAllRow.named == Tryz.pinned.checked.prog.varsNamed 4)) = true := by kernel_rfl
theorem TV : ((Rows.optimaltreeAllRow.maps == (Tryz.f4.params.toList ++ Rows.optimaltreeAllSpec.plain.varTypes Tryz.pinned.checked.prog).any (Tryz.pinned.checked.prog.mapsRec ·))) = true := by kernel_rfl
theorem TW : ((Rows.optimaltreeAllRow.ifaces == (Tryz.f4.params.toList ++ Rows.optimaltreeAllSpec.plain.varTypes Tryz.pinned.checked.prog).any (Tryz.pinned.checked.prog.ifacesRec ·))) = true := by kernel_rfl
theorem TX : ((Rows.optimaltreeAllRow.mapsOut == Tryz.pinned.checked.prog.mapsAmong Tryz.f4.resultTypes.toList)) = true := by kernel_rfl
theorem TY : ((Rows.optimaltreeAllRow.loops == (Tryz.f4.params.toList ++ Rows.optimaltreeAllSpec.plain.varTypes Tryz.pinned.checked.prog).any (Tryz.pinned.checked.prog.loopsFrom ·))) = true := by kernel_rfl
theorem TZ : ((Rows.optimaltreeAllRow.wideKeys == (Tryz.f4.params.toList ++ Rows.optimaltreeAllSpec.plain.varTypes Tryz.pinned.checked.prog ++ Tryz.f4.resultTypes.toList).any (Tryz.pinned.checked.prog.wideKeysFrom ·))) = true := by kernel_rfl
theorem T3 : (Rows.optimaltreeAllSpec.vars.all (Tryz.pinned.checked.prog.varReadable ·)) = true := by kernel_rfl
theorem T4 : (Tryz.f4.resultTypes.all (fun t => Tryz.pinned.checked.prog.readableRec t && decide (t < Tryz.pinned.checked.prog.types.size))) = true := by kernel_rfl
theorem T5 : ((Rows.optimaltreeAllRow.ifacesOut == Tryz.f4.resultTypes.toList.any (Tryz.pinned.checked.prog.ifacesRec ·))) = true := by kernel_rfl
theorem T6 : ((Rows.optimaltreeAllRow.loopsOut == Tryz.f4.resultTypes.toList.any (Tryz.pinned.checked.prog.loopsFrom ·))) = true := by kernel_rfl
theorem T7 : ((Rows.optimaltreeAllRow.plainKeys == Tryz.pinned.checked.prog.plainKeys)) = true := by kernel_rfl
theorem T8 : (Rows.optimaltreeAllRow.shortTexts.isNone) = true := by kernel_rfl
theorem T9 : (Tryz.pinned.checked.prog.stopsHeard) = true := by kernel_rfl
theorem Ua : (Tryz.pinned.checked.prog.mayEnter) = true := by kernel_rfl
theorem Ub : ((Rows.optimaltreeAllRow.lifted == Tryz.pinned.checked.prog.liftsFinal)) = true := by kernel_rfl
theorem Uc : ((Tryz.pinned.checked.prog.make == some Rows.optimaltreeAllRow.make)) = true := by kernel_rfl
theorem Ud : ((Rows.optimaltreeAllRow.kinds == (if Rows.optimaltreeAllRow.domain.isEmpty then [] else Tryz.f4.params.toList.map fun t => match Tryz.pinned.checked.prog.underlying t with | some (.int k) => some k | _ => none))) = true := by kernel_rfl
theorem Ue : ((Rows.optimaltreeAllRow.pinned == Rows.optimaltreeAllRow.pinnedBy)) = true := by kernel_rfl
theorem Uf : ((Rows.optimaltreeAllRow.veiled == (Tryz.f4.params.toList ++ Rows.optimaltreeAllSpec.plain.varTypes Tryz.pinned.checked.prog ++ Tryz.f4.resultTypes.toList).any (Tryz.pinned.checked.prog.veiledRec ·))) = true := by kernel_rfl
theorem Ug : (Rows.optimaltreeAllRow.veiledFits Tryz.pinned.checked.prog Tryz.f4.params.toList (Tryz.f4.params.toList ++ Rows.optimaltreeAllSpec.plain.varTypes Tryz.pinned.checked.prog ++ Tryz.f4.resultTypes.toList)) = true := by kernel_rfl
theorem facts : joinedFacts Tryz.pinned.checked.prog 4 Tryz.f4 Rows.optimaltreeAllSpec Rows.optimaltreeAllRow = true := by
 unfold joinedFacts
 exact aX (aX (aX (aX (aX (aX (aX (aX (aX (aX (aX (aX (aX (aX (aX (aX (aX (aX (aX (aX (aX (aX (aX (aX (aX (aX (aX (aX (aX (aX (aX (cf0) cf1) cf2) cf3) cf4) cf5) cf6) cf7) cf8) cf9) TS) TT) TU) TV) TW) TX) TY) TZ) T3) T4) T5) T6) T7) T8) T9) Ua) Ub) Uc) Ud) Ue) Uf) Ug
theorem over : Rows.optimaltreeAllRow.holds Tryz.pinned (OpenSpec.ofChange Rows.optimaltreeAllSpec) :=
 OpenClaim.holds_of_wide 4 Tryz.f4 rfl rfl rfl rfl rfl rfl rfl ⟨rfl, rfl, rfl, rfl, rfl⟩ rfl rfl rfl rfl rfl (by kernel_rfl) Tryz.func4 facts
  (of_decide_eq_true (by kernel_rfl)) (by unfold Func.isWrapper; first | (rw [if_pos (by decide +kernel)]; kernel_rfl) | (rw [if_neg (by decide +kernel)]; exact ⟨rfl, rfl⟩))
  (fun os started H enc _ => lifted os started H enc)
end oA
theorem optimaltreeAll_holds : Rows.OptimaltreeAllSaid := oA.over
end Go.Proofs.YthgabkgmkolobaaGreat
