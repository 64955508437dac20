/- OptimaltreeLeastSaid: for every input the law returns true; each argument reads behind the call as it read before. No condition. -/
import Derived.RangeFuncNested
import Derived.RangeFuncBound
import Derived.RangeFuncCalls
import Derived.RangeFuncLeaves
import Derived.Shelf.Abstract
import Derived.Shelf.RegionOpen
import Derived.WalkKit
import Derived.OwnWalkIn
import Derived.TacticsInMore
import Derived.LoopNIn
import Derived.LoopIn
import Derived.Sort.QuietIn
import Derived.Stop.RegionWithIn
import Derived.Test.YthgabkgmkolobaaGreatProg
import Derived.WalkSpells
import Derived.WalkLawsBesides
import Derived.Deep.OwnRows
import Derived.Deep.QuietTactic
import Derived.BigQuiet
import Derived.Lib.Hide
import Derived.Shelf.Small.Strs
import Derived.Maps.AppendAt
import Derived.Deep.AppendLies
import Derived.Test.YthgabkgmkolobaaGreatQ45
import Derived.Test.YthgabkgmkolobaaGreatQ53
import Derived.Test.YthgabkgmkolobaaGreatQ19
import Derived.Test.YthgabkgmkolobaaGreatQ49
import Derived.Test.YthgabkgmkolobaaGreatQ6
import Derived.Test.YthgabkgmkolobaaGreatQ15
import Derived.Test.YthgabkgmkolobaaGreatQ5
import Derived.Test.YthgabkgmkolobaaGreatQ3
import Derived.Test.YthgabkgmkolobaaGreatQ2
import Derived.Test.YthgabkgmkolobaaGreatQ1
import Derived.Test.YthgabkgmkolobaaGreatQ4
set_option maxRecDepth 100000
namespace Go.Proofs.YthgabkgmkolobaaGreat
namespace nt
open Go.ChangeShapes Go.WideShapes Go.ChangeAt Go.RowKit Go.Deep
set_option linter.unusedVariables false
theorem lifted (os : Os) (started : os.Started) (H : Type) (enc : TypeId × Value → H) :
  ReturnsInHanded {} Tryz.checked os 8 .any (Rows.optimaltreeLeastSpec.pre6 enc Tryz.prog Tryz.f8 Rows.optimaltreeLeastRow.domain false) (Rows.optimaltreeLeastSpec.post enc Tryz.prog Tryz.f8 false true false false) := by
 refine returnsInHanded_of_change (C := Tryz.checked) Jw started (by kernel_rfl) Tryz.func8
  (ChangeSpec.witness6 (enc := enc) (C := Tryz.checked) false ⟨#[], #[.slice none 0 0, .slice none 0 0, .agg #[.slice none 0 0, .slice none 0 0]], []⟩ 8 (by kernel_rfl) (by kernel_rfl) (by kernel_rfl) (by kernel_rfl)) ?_
 intro W base args ds gs before CM hW hcnd _
 have hval : ∀ (j : Nat) t v, Tryz.f8.params[j]? = some t → args[j]? = some v → Value.okWide Tryz.prog W .any base t v := CM
 have F4 := hW
 obtain ⟨p, q, Io, hV, rfl, hfz, eT⟩ := hW
 have hA : DataW.TrodAll enc Tryz.prog W 0 (fun _ => true) true Tryz.f8.params.toList args.toList ds p := Io
 rw [Tryz.params8] at hA hval
 obtain ⟨v0, UT, d0, ds0, p0, q0, hargs, rfl, rfl, g0, r0⟩ := trodAll_cons hA
 obtain ⟨v1, vs1, d1, ds1, p1, q1, rfl, rfl, rfl, g1, r1⟩ := trodAll_cons r0
 obtain ⟨v2, vs2, d2, ds2, p2, q2, rfl, rfl, rfl, g2, r2⟩ := trodAll_cons r1
 obtain ⟨rfl, rfl, rfl⟩ := trodAll_nil r2
 obtain rfl : args = #[v0, v1, v2] := by cases args; simp_all
 obtain ⟨rfl, rfl⟩ := trodVars_none hV
 have k0 := g0
 have lt0 := FL g0
 obtain ⟨x0, h0, ha0, hb0⟩ := CC (hval 0 22 v0 rfl rfl) g0
 have k1 := g1
 have Vh := FL g1
 obtain ⟨x1, h1, ha1, hb1⟩ := NK (hval 1 23 v1 rfl rfl) g1
 have k2 := g2
 have lt2 := FL g2
 obtain ⟨t2, h2, ha2, hb2, hc2⟩ := NJ (hval 2 39 v2 rfl rfl) g2
 clear Io CM
 refine (KI W _ _ _ x0 x1 t2 h0 h1 h2 ha0 hb0 ha1 hb1 ha2 hb2 hc2).mono fun e W' ⟨he, JZ⟩ => ?_
 subst he
 exact ⟨_, rfl, _, _, _, [], _, [], F4, trodAll_mk1 (shut_bool Tryz.underlying4 _), (trodAll_cons_mk (Below.trod laidOut (by kernel_rfl) (of_decide_eq_true (by kernel_rfl)) k0 JZ lt0) (trodAll_cons_mk (Below.trod laidOut (by kernel_rfl) (of_decide_eq_true (by kernel_rfl)) k1 JZ Vh) (trodAll_cons_mk (Below.trod laidOut (by kernel_rfl) (of_decide_eq_true (by kernel_rfl)) k2 JZ lt2) trodAll_mk0))), rfl, JZ.frame _, fun h => by cases h⟩
theorem aX {a b : Bool} (h1 : a = true) (h2 : b = true) : (a && b) = true := by rw [h1, h2]; rfl
theorem cf0 : (Rows.optimaltreeLeastRow.wf (OpenSpec.ofChange Rows.optimaltreeLeastSpec)) = true := by kernel_rfl
theorem cf1 : (laidOutB Tryz.pinned.checked.prog) = true := by kernel_rfl
theorem cf2 : (mapsRowed Tryz.pinned.checked.prog) = true := by kernel_rfl
theorem cf3 : (Tryz.f8.params.all (Tryz.pinned.checked.prog.readableRec ·)) = true := by kernel_rfl
theorem cf4 : (namedTie Tryz.pinned.checked.prog Rows.optimaltreeLeastRow.named Rows.optimaltreeLeastSpec.vars) = true := by kernel_rfl
theorem cf5 : ((Rows.optimaltreeLeastRow.stops == [])) = true := by kernel_rfl
theorem cf6 : ((Tryz.pinned.checked.prog.stops == [])) = true := by kernel_rfl
theorem cf7 : ((Rows.optimaltreeLeastRow.knobs == [])) = true := by kernel_rfl
theorem cf8 : ((Tryz.pinned.checked.prog.stopKnobs == [])) = true := by kernel_rfl
theorem cf9 : ((Rows.optimaltreeLeastRow.inPlace == Tryz.pinned.checked.prog.inPlace 8)) = true := by kernel_rfl
theorem TS : ((Rows.optimaltreeLeastRow.unfollowed == Tryz.pinned.checked.prog.unfollowed 8)) = true := by kernel_rfl
theorem TT : ((Rows.optimaltreeLeastRow.recurses == Tryz.pinned.checked.prog.recurses 8)) = true := by kernel_rfl
theorem TU : ((Rows.optimaltreeLeastRow.named == Tryz.pinned.checked.prog.varsNamed 8)) = true := by kernel_rfl
theorem TV : ((Rows.optimaltreeLeastRow.maps == (Tryz.f8.params.toList ++ Rows.optimaltreeLeastSpec.plain.varTypes Tryz.pinned.checked.prog).any (Tryz.pinned.checked.prog.mapsRec ·))) = true := by kernel_rfl
theorem TW : ((Rows.optimaltreeLeastRow.ifaces == (Tryz.f8.params.toList ++ Rows.optimaltreeLeastSpec.plain.varTypes Tryz.pinned.checked.prog).any (Tryz.pinned.checked.prog.ifacesRec ·))) = true := by kernel_rfl
theorem TX : ((Rows.optimaltreeLeastRow.mapsOut == Tryz.pinned.checked.prog.mapsAmong Tryz.f8.resultTypes.toList)) = true := by kernel_rfl
theorem TY : ((Rows.optimaltreeLeastRow.loops == (Tryz.f8.params.toList ++ Rows.optimaltreeLeastSpec.plain.varTypes Tryz.pinned.checked.prog).any (Tryz.pinned.checked.prog.loopsFrom ·))) = true := by kernel_rfl
theorem TZ : ((Rows.optimaltreeLeastRow.wideKeys == (Tryz.f8.params.toList ++ Rows.optimaltreeLeastSpec.plain.varTypes Tryz.pinned.checked.prog ++ Tryz.f8.resultTypes.toList).any (Tryz.pinned.checked.prog.wideKeysFrom ·))) = true := by kernel_rfl
theorem T3 : (Rows.optimaltreeLeastSpec.vars.all (Tryz.pinned.checked.prog.varReadable ·)) = true := by kernel_rfl
theorem T4 : (Tryz.f8.resultTypes.all (fun t => Tryz.pinned.checked.prog.readableRec t && decide (t < Tryz.pinned.checked.prog.types.size))) = true := by kernel_rfl
theorem T5 : ((Rows.optimaltreeLeastRow.ifacesOut == Tryz.f8.resultTypes.toList.any (Tryz.pinned.checked.prog.ifacesRec ·))) = true := by kernel_rfl
theorem T6 : ((Rows.optimaltreeLeastRow.loopsOut == Tryz.f8.resultTypes.toList.any (Tryz.pinned.checked.prog.loopsFrom ·))) = true := by kernel_rfl
theorem T7 : ((Rows.optimaltreeLeastRow.plainKeys == Tryz.pinned.checked.prog.plainKeys)) = true := by kernel_rfl
theorem T8 : (Rows.optimaltreeLeastRow.shortTexts.isNone) = true := by kernel_rfl
theorem T9 : (Tryz.pinned.checked.prog.stopsHeard) = true := by kernel_rfl
theorem Ua : (Tryz.pinned.checked.prog.mayEnter) = true := by kernel_rfl
theorem Ub : ((Rows.optimaltreeLeastRow.lifted == Tryz.pinned.checked.prog.liftsFinal)) = true := by kernel_rfl
theorem Uc : ((Tryz.pinned.checked.prog.make == some Rows.optimaltreeLeastRow.make)) = true := by kernel_rfl
theorem Ud : ((Rows.optimaltreeLeastRow.kinds == (if Rows.optimaltreeLeastRow.domain.isEmpty then [] else Tryz.f8.params.toList.map fun t => match Tryz.pinned.checked.prog.underlying t with | some (.int k) => some k | _ => none))) = true := by kernel_rfl
theorem Ue : ((Rows.optimaltreeLeastRow.pinned == Rows.optimaltreeLeastRow.pinnedBy)) = true := by kernel_rfl
theorem Uf : ((Rows.optimaltreeLeastRow.veiled == (Tryz.f8.params.toList ++ Rows.optimaltreeLeastSpec.plain.varTypes Tryz.pinned.checked.prog ++ Tryz.f8.resultTypes.toList).any (Tryz.pinned.checked.prog.veiledRec ·))) = true := by kernel_rfl
theorem Ug : (Rows.optimaltreeLeastRow.veiledFits Tryz.pinned.checked.prog Tryz.f8.params.toList (Tryz.f8.params.toList ++ Rows.optimaltreeLeastSpec.plain.varTypes Tryz.pinned.checked.prog ++ Tryz.f8.resultTypes.toList)) = true := by kernel_rfl
theorem facts : joinedFacts Tryz.pinned.checked.prog 8 Tryz.f8 Rows.optimaltreeLeastSpec Rows.optimaltreeLeastRow = true := by
 unfold joinedFacts
 exact aX (aX (aX (aX (aX (aX (aX (aX (aX (aX (aX (aX (aX (aX (aX (aX (aX (aX (aX (aX (aX (aX (aX (aX (aX (aX (aX (aX (aX (aX (aX (cf0) cf1) cf2) cf3) cf4) cf5) cf6) cf7) cf8) cf9) TS) TT) TU) TV) TW) TX) TY) TZ) T3) T4) T5) T6) T7) T8) T9) Ua) Ub) Uc) Ud) Ue) Uf) Ug
theorem over : Rows.optimaltreeLeastRow.holds Tryz.pinned (OpenSpec.ofChange Rows.optimaltreeLeastSpec) :=
 OpenClaim.holds_of_wide 8 Tryz.f8 rfl rfl rfl rfl rfl rfl rfl ⟨rfl, rfl, rfl, rfl, rfl⟩ rfl rfl rfl rfl rfl (by kernel_rfl) Tryz.func8 facts
  (of_decide_eq_true (by kernel_rfl)) (by unfold Func.isWrapper; first | (rw [if_pos (by decide +kernel)]; kernel_rfl) | (rw [if_neg (by decide +kernel)]; exact ⟨rfl, rfl⟩))
  (fun os started H enc _ => lifted os started H enc)
end nt
theorem optimaltreeLeast_holds : Rows.OptimaltreeLeastSaid := nt.over
end Go.Proofs.YthgabkgmkolobaaGreat
