/- ParsimonyRootsSaid: for every input the law returns true; each argument reads behind the call as it read before. No condition. -/
import Derived.Test.YtcaialhoclodjaaQ6
import Derived.Test.YtcaialhoclodjaaQ31
namespace Go.Proofs.Ytcaialhoclodjaa
namespace ParsimonyRootsClaim
open Go.ChangeShapes Go.WideShapes Go.ChangeAt Go.RowKit Go.Deep
set_option linter.unusedVariables false
set_option maxRecDepth 100000 in
theorem lifted (os : Os) (started : os.Started) (H : Type) (enc : TypeId × Value → H) :
    ReturnsInHanded {} Try.checked os 3 .any (Rows.parsimonyRootsSpec.pre6 enc Try.prog Try.f3 Rows.parsimonyRootsRow.domain false) (Rows.parsimonyRootsSpec.post enc Try.prog Try.f3 false true false false) := by
  refine returnsInHanded_of_change (C := Try.checked) own_none started (by kernel_rfl) Try.func3
    (ChangeSpec.witness6 (enc := enc) (C := Try.checked) false ⟨#[], #[.agg #[.slice none 0 0, .slice none 0 0], .slice none 0 0, .slice none 0 0, .int .u8 0], []⟩ 8 (by kernel_rfl) (by kernel_rfl) (by kernel_rfl) (by kernel_rfl)) ?_
  intro W base args ds gs before hval0 hW hcnd _
  have hval : ∀ (j : Nat) t v, Try.f3.params[j]? = some t → args[j]? = some v → Value.okWide Try.prog W .any base t v := hval0
  have hW' := hW
  obtain ⟨p, q, hA0, hV, rfl, hfz, hnd⟩ := hW
  have hA : DataW.TrodAll enc Try.prog W 0 (fun _ => true) true Try.f3.params.toList args.toList ds p := hA0
  rw [Try.params3] at hA hval
  obtain ⟨v0, vs0, d0, ds0, p0, q0, hargs, rfl, rfl, g0, r0⟩ := trodAll_cons hA
  obtain ⟨v1, vs1, d1, ds1, p1, q1, rfl, rfl, rfl, g1, r1⟩ := trodAll_cons r0
  obtain ⟨v2, vs2, d2, ds2, p2, q2, rfl, rfl, rfl, g2, r2⟩ := trodAll_cons r1
  obtain ⟨v3, vs3, d3, ds3, p3, q3, rfl, rfl, rfl, g3, r3⟩ := trodAll_cons r2
  obtain ⟨rfl, rfl, rfl⟩ := trodAll_nil r3
  obtain rfl : args = #[v0, v1, v2, v3] := by cases args; simp_all
  obtain ⟨rfl, rfl⟩ := trodVars_none hV
  have k0 := g0
  have lt0 := lt_of g0
  obtain ⟨t0, h0, ha0, hb0, hc0⟩ := open_tree1 (hval 0 25 v0 rfl rfl) g0
  have k1 := g1
  have lt1 := lt_of g1
  obtain ⟨x1, h1, ha1⟩ := open_intsV (hval 1 22 v1 rfl rfl) g1
  have k2 := g2
  have lt2 := lt_of g2
  obtain ⟨x2, h2, ha2, hb2⟩ := open_rowsV (hval 2 26 v2 rfl rfl) g2
  have k3 := g3
  have lt3 := lt_of g3
  obtain ⟨x3, rfl, rfl, rfl, w3⟩ := open_int Try.underlying5 (hval 3 5 v3 rfl rfl) g3
  have h3 := bounds_u8 w3
  clear hA0 hval0
  refine (roots_law W _ _ _ t0 x1 x2 x3 h0 h1 h2 ⟨ha0, hb0, hc0, ha1, ha2, hb2⟩ h3.1 h3.2).mono fun e W' ⟨he, bel⟩ => ?_
  subst he
  exact ⟨_, rfl, _, _, _, [], _, [], hW', trodAll_mk1 (shut_bool Try.underlying4 _), (trodAll_cons_mk (Below.trod laidOut (by kernel_rfl) (of_decide_eq_true (by kernel_rfl)) k0 bel lt0) (trodAll_cons_mk (Below.trod laidOut (by kernel_rfl) (of_decide_eq_true (by kernel_rfl)) k1 bel lt1) (trodAll_cons_mk (Below.trod laidOut (by kernel_rfl) (of_decide_eq_true (by kernel_rfl)) k2 bel lt2) (trodAll_cons_mk (Below.trod laidOut (by kernel_rfl) (of_decide_eq_true (by kernel_rfl)) k3 bel lt3) trodAll_mk0)))), rfl, bel.frame _, fun h => by cases h⟩
theorem over : Rows.parsimonyRootsRow.holds Try.pinned (OpenSpec.ofChange Rows.parsimonyRootsSpec) :=
  OpenClaim.holds_of_wide 3 Try.f3 rfl rfl rfl rfl rfl rfl rfl ⟨rfl, rfl, rfl, rfl, rfl⟩ rfl rfl rfl rfl rfl (by kernel_rfl) Try.func3 (by kernel_rfl)
    (of_decide_eq_true (by kernel_rfl)) (by unfold Func.isWrapper; first | (rw [if_pos (by decide +kernel)]; kernel_rfl) | (rw [if_neg (by decide +kernel)]; exact ⟨rfl, rfl⟩))
    (fun os started H enc _ => lifted os started H enc)
end ParsimonyRootsClaim
theorem parsimonyRoots_holds : Rows.ParsimonyRootsSaid := ParsimonyRootsClaim.over
end Go.Proofs.Ytcaialhoclodjaa
