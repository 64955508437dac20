/- OptimaltreeScoresSaid: for every input the law returns true; each argument reads behind the call as it read before. No condition. -/
import Derived.Test.YthgabkgmkolobaaGreatQ51
set_option maxRecDepth 100000
namespace Go.Proofs.YthgabkgmkolobaaGreat
namespace lH
open Go.ChangeShapes Go.WideShapes Go.ChangeAt Go.RowKit Go.Deep
set_option linter.unusedVariables false
theorem lifted (os:Os) (started:os.Started) (H:Type) (enc:TypeId×Value→H) :
  ReturnsInHanded {} Tryz.checked os 7 .any (Rows.optimaltreeScoresSpec.pre6 enc Tryz.prog Tryz.f7 Rows.optimaltreeScoresRow.domain false) (Rows.optimaltreeScoresSpec.post enc Tryz.prog Tryz.f7 false true false false):=by
 refine returnsInHanded_of_change (C:=Tryz.checked) OC started (by kernel_rfl) Tryz.func7
  (ChangeSpec.witness6 (enc:=enc) (C:=Tryz.checked) false ⟨#[],#[.agg #[.slice none 0 0,.slice none 0 0,.slice none 0 0,.int .i64 0]],[]⟩ 8 (by kernel_rfl) (by kernel_rfl) (by kernel_rfl) (by kernel_rfl)) ?_
 intro W base args ds gs before Sd hW hcnd _;have hval:∀(j:Nat) t v,Tryz.f7.params[j]? = some t→args[j]? = some v→Value.okWide Tryz.prog W .any base t v:=Sd;have Le:=hW;obtain ⟨p,q,RU,hV,rfl,hfz,gI⟩:=hW;have hA:DataW.TrodAll enc Tryz.prog W 0 (fun _=>true) true Tryz.f7.params.toList args.toList ds p:=RU;rw [Tryz.params7] at hA hval;obtain ⟨v0,Vd,d0,ds0,p0,q0,hargs,rfl,rfl,g0,r0⟩:=trodAll_cons hA;obtain ⟨rfl,rfl,rfl⟩:=trodAll_nil r0;obtain rfl:args=#[v0]:=by cases args;simp_all
 obtain ⟨rfl,rfl⟩:=trodVars_none hV;have k0:=g0;have lt0:=Xr g0;obtain ⟨x0,y0,z0,s0,h0⟩:=ND (hval 0 69 v0 rfl rfl) g0;clear RU Sd;refine (GZ W v0 x0 y0 z0 s0 h0).mono fun e W' ⟨he,bel⟩=>?_;subst he;exact ⟨_,rfl,_,_,_,[],_,[],Le,trodAll_mk1 (shut_bool Tryz.underlying4 _),(trodAll_cons_mk (Below.trod laidOut (by kernel_rfl) (of_decide_eq_true (by kernel_rfl)) k0 bel lt0) trodAll_mk0),rfl,bel.frame _,fun h=>by cases h⟩
theorem cV {a b:Bool} (h1:a=true) (h2:b=true):(a&&b)=true:=by rw [h1,h2];rfl
theorem cf0:(Rows.optimaltreeScoresRow.wf (OpenSpec.ofChange Rows.optimaltreeScoresSpec))=true:=by kernel_rfl
theorem cf1:(laidOutB Tryz.pinned.checked.prog)=true:=by kernel_rfl
theorem cf2:(mapsRowed Tryz.pinned.checked.prog)=true:=by kernel_rfl
theorem cf3:(Tryz.f7.params.all (Tryz.pinned.checked.prog.readableRec ·))=true:=by kernel_rfl
theorem cf4:(namedTie Tryz.pinned.checked.prog Rows.optimaltreeScoresRow.named Rows.optimaltreeScoresSpec.vars)=true:=by kernel_rfl
theorem cf5:((Rows.optimaltreeScoresRow.stops==[]))=true:=by kernel_rfl
theorem cf6:((Tryz.pinned.checked.prog.stops==[]))=true:=by kernel_rfl
theorem cf7:((Rows.optimaltreeScoresRow.knobs==[]))=true:=by kernel_rfl
theorem cf8:((Tryz.pinned.checked.prog.stopKnobs==[]))=true:=by kernel_rfl
theorem cf9:((Rows.optimaltreeScoresRow.inPlace==Tryz.pinned.checked.prog.inPlace 7))=true:=by kernel_rfl
theorem cf10:((Rows.optimaltreeScoresRow.unfollowed==Tryz.pinned.checked.prog.unfollowed 7))=true:=by kernel_rfl
theorem cf11:((Rows.optimaltreeScoresRow.recurses==Tryz.pinned.checked.prog.recurses 7))=true:=by kernel_rfl
theorem cf12:((Rows.optimaltreeScoresRow.named==Tryz.pinned.checked.prog.varsNamed 7))=true:=by kernel_rfl
theorem cf13:((Rows.optimaltreeScoresRow.maps==(Tryz.f7.params.toList++Rows.optimaltreeScoresSpec.plain.varTypes Tryz.pinned.checked.prog).any (Tryz.pinned.checked.prog.mapsRec ·)))=true:=by kernel_rfl
theorem cf14:((Rows.optimaltreeScoresRow.ifaces==(Tryz.f7.params.toList++Rows.optimaltreeScoresSpec.plain.varTypes Tryz.pinned.checked.prog).any (Tryz.pinned.checked.prog.ifacesRec ·)))=true:=by kernel_rfl
theorem cf15:((Rows.optimaltreeScoresRow.mapsOut==Tryz.pinned.checked.prog.mapsAmong Tryz.f7.resultTypes.toList))=true:=by kernel_rfl
theorem cf16:((Rows.optimaltreeScoresRow.loops==(Tryz.f7.params.toList++Rows.optimaltreeScoresSpec.plain.varTypes Tryz.pinned.checked.prog).any (Tryz.pinned.checked.prog.loopsFrom ·)))=true:=by kernel_rfl
theorem cf17:((Rows.optimaltreeScoresRow.wideKeys==(Tryz.f7.params.toList++Rows.optimaltreeScoresSpec.plain.varTypes Tryz.pinned.checked.prog++Tryz.f7.resultTypes.toList).any (Tryz.pinned.checked.prog.wideKeysFrom ·)))=true:=by kernel_rfl
theorem cf18:(Rows.optimaltreeScoresSpec.vars.all (Tryz.pinned.checked.prog.varReadable ·))=true:=by kernel_rfl
theorem cf19:(Tryz.f7.resultTypes.all (fun t=>Tryz.pinned.checked.prog.readableRec t&&decide (t<Tryz.pinned.checked.prog.types.size)))=true:=by kernel_rfl
theorem cf20:((Rows.optimaltreeScoresRow.ifacesOut==Tryz.f7.resultTypes.toList.any (Tryz.pinned.checked.prog.ifacesRec ·)))=true:=by kernel_rfl
theorem cf21:((Rows.optimaltreeScoresRow.loopsOut==Tryz.f7.resultTypes.toList.any (Tryz.pinned.checked.prog.loopsFrom ·)))=true:=by kernel_rfl
theorem cf22:((Rows.optimaltreeScoresRow.plainKeys==Tryz.pinned.checked.prog.plainKeys))=true:=by kernel_rfl
theorem cf23:(Rows.optimaltreeScoresRow.shortTexts.isNone)=true:=by kernel_rfl
theorem cf24:(Tryz.pinned.checked.prog.stopsHeard)=true:=by kernel_rfl
theorem cf25:(Tryz.pinned.checked.prog.mayEnter)=true:=by kernel_rfl
theorem cf26:((Rows.optimaltreeScoresRow.lifted==Tryz.pinned.checked.prog.liftsFinal))=true:=by kernel_rfl
theorem cf27:((Tryz.pinned.checked.prog.make==some Rows.optimaltreeScoresRow.make))=true:=by kernel_rfl
theorem cf28:((Rows.optimaltreeScoresRow.kinds==(if Rows.optimaltreeScoresRow.domain.isEmpty then [] else Tryz.f7.params.toList.map fun t=>match Tryz.pinned.checked.prog.underlying t with | some (.int k)=>some k | _=>none)))=true:=by kernel_rfl
theorem cf29:((Rows.optimaltreeScoresRow.pinned==Rows.optimaltreeScoresRow.pinnedBy))=true:=by kernel_rfl
theorem cf30:((Rows.optimaltreeScoresRow.veiled==(Tryz.f7.params.toList++Rows.optimaltreeScoresSpec.plain.varTypes Tryz.pinned.checked.prog++Tryz.f7.resultTypes.toList).any (Tryz.pinned.checked.prog.veiledRec ·)))=true:=by kernel_rfl
theorem cf31:(Rows.optimaltreeScoresRow.veiledFits Tryz.pinned.checked.prog Tryz.f7.params.toList (Tryz.f7.params.toList++Rows.optimaltreeScoresSpec.plain.varTypes Tryz.pinned.checked.prog++Tryz.f7.resultTypes.toList))=true:=by kernel_rfl
theorem facts:joinedFacts Tryz.pinned.checked.prog 7 Tryz.f7 Rows.optimaltreeScoresSpec Rows.optimaltreeScoresRow=true:=by
 unfold joinedFacts;exact cV (cV (cV (cV (cV (cV (cV (cV (cV (cV (cV (cV (cV (cV (cV (cV (cV (cV (cV (cV (cV (cV (cV (cV (cV (cV (cV (cV (cV (cV (cV (cf0) cf1) cf2) cf3) cf4) cf5) cf6) cf7) cf8) cf9) cf10) cf11) cf12) cf13) cf14) cf15) cf16) cf17) cf18) cf19) cf20) cf21) cf22) cf23) cf24) cf25) cf26) cf27) cf28) cf29) cf30) cf31
theorem over:Rows.optimaltreeScoresRow.holds Tryz.pinned (OpenSpec.ofChange Rows.optimaltreeScoresSpec) :=
 OpenClaim.holds_of_wide 7 Tryz.f7 rfl rfl rfl rfl rfl rfl rfl ⟨rfl,rfl,rfl,rfl,rfl⟩ rfl rfl rfl rfl rfl (by kernel_rfl) Tryz.func7 facts
  (of_decide_eq_true (by kernel_rfl)) (by unfold Func.isWrapper;first | (rw [if_pos (by decide +kernel)];kernel_rfl) | (rw [if_neg (by decide +kernel)];exact ⟨rfl,rfl⟩))
  (fun os started H enc _=>lifted os started H enc)
end lH
theorem optimaltreeScores_holds:Rows.OptimaltreeScoresSaid:=lH.over
end Go.Proofs.YthgabkgmkolobaaGreat
