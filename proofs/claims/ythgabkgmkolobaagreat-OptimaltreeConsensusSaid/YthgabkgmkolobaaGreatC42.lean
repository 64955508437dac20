/- OptimaltreeConsensusSaid: for every input the law returns true; each argument reads behind the call as it read before. No condition. -/
import Derived.Test.YthgabkgmkolobaaGreatQ46
set_option maxRecDepth 100000
namespace Go.Proofs.YthgabkgmkolobaaGreat
namespace qN
open Go.ChangeShapes Go.WideShapes Go.ChangeAt Go.RowKit Go.Deep
set_option linter.unusedVariables false
theorem lifted (os:Os) (started:os.Started) (H:Type) (enc:TypeId×Value->H) :
  ReturnsInHanded {} Tryz.checked os 9 .any (Rows.optimaltreeConsensusSpec.pre6 enc Tryz.prog Tryz.f9 Rows.optimaltreeConsensusRow.domain false) (Rows.optimaltreeConsensusSpec.post enc Tryz.prog Tryz.f9 false true false false):=by
 refine returnsInHanded_of_change (C:=Tryz.checked) aaG started (by kernel_rfl) Tryz.func9
  (ChangeSpec.witness6 (enc:=enc) (C:=Tryz.checked) false ⟨#[],#[.agg #[.slice none 0 0,.slice none 0 0,.slice none 0 0,.int .i64 0]],[]⟩ 8 (by kernel_rfl) (by kernel_rfl) (by kernel_rfl) (by kernel_rfl)) ?_
 intro W base args ds gs before ad5 hW hcnd _;have hval:∀(j:Nat) t v,Tryz.f9.params[j]? = some t->args[j]? = some v->Value.okWide Tryz.prog W .any base t v:=ad5;have qU:=hW;obtain ⟨p,q,hA0,hV,rfl,hfz,iF⟩:=hW;have hA:DataW.TrodAll enc Tryz.prog W 0 (fun _=>true) true Tryz.f9.params.toList args.toList ds p:=hA0;rw [Tryz.params9] at hA hval;obtain ⟨v0,vs0,d0,ds0,p0,q0,hargs,rfl,rfl,g0,r0⟩:=trodAll_cons hA;obtain ⟨rfl,rfl,rfl⟩:=trodAll_nil r0;obtain rfl:args=#[v0]:=by cases args;simp_all
 obtain ⟨rfl,rfl⟩:=trodVars_none hV;have k0:=g0;have lt0:=aio g0;obtain ⟨x0,y0,z0,s0,h0⟩:=Zm (hval 0 69 v0 rfl rfl) g0;clear hA0 ad5;refine (Xg W v0 x0 y0 z0 s0 h0).mono fun e W' ⟨he,bel⟩=>?_;subst he;exact ⟨_,rfl,_,_,_,[],_,[],qU,trodAll_mk1 (shut_bool Tryz.underlying4 _),(trodAll_cons_mk (Below.trod laidOut (by kernel_rfl) (of_decide_eq_true (by kernel_rfl)) k0 bel lt0) trodAll_mk0),rfl,bel.frame _,fun h=>by cases h⟩
theorem fS {a b:Bool} (h1:a=true) (h2:b=true):(a&&b)=true:=by rw [h1,h2];rfl
theorem cf0:(Rows.optimaltreeConsensusRow.wf (OpenSpec.ofChange Rows.optimaltreeConsensusSpec))=true:=by kernel_rfl
theorem cf1:(laidOutB Tryz.pinned.checked.prog)=true:=by kernel_rfl
theorem cf2:(mapsRowed Tryz.pinned.checked.prog)=true:=by kernel_rfl
theorem cf3:(Tryz.f9.params.all (Tryz.pinned.checked.prog.readableRec ·))=true:=by kernel_rfl
theorem cf4:(namedTie Tryz.pinned.checked.prog Rows.optimaltreeConsensusRow.named Rows.optimaltreeConsensusSpec.vars)=true:=by kernel_rfl
theorem cf5:((Rows.optimaltreeConsensusRow.stops==[]))=true:=by kernel_rfl
theorem cf6:((Tryz.pinned.checked.prog.stops==[]))=true:=by kernel_rfl
theorem cf7:((Rows.optimaltreeConsensusRow.knobs==[]))=true:=by kernel_rfl
theorem cf8:((Tryz.pinned.checked.prog.stopKnobs==[]))=true:=by kernel_rfl
theorem cf9:((Rows.optimaltreeConsensusRow.inPlace==Tryz.pinned.checked.prog.inPlace 9))=true:=by kernel_rfl
theorem aky:((Rows.optimaltreeConsensusRow.unfollowed==Tryz.pinned.checked.prog.unfollowed 9))=true:=by kernel_rfl
theorem akz:((Rows.optimaltreeConsensusRow.recurses==Tryz.pinned.checked.prog.recurses 9))=true:=by kernel_rfl
theorem akA:((Rows.optimaltreeConsensusRow.named==Tryz.pinned.checked.prog.varsNamed 9))=true:=by kernel_rfl
theorem akB:((Rows.optimaltreeConsensusRow.maps==(Tryz.f9.params.toList++Rows.optimaltreeConsensusSpec.plain.varTypes Tryz.pinned.checked.prog).any (Tryz.pinned.checked.prog.mapsRec ·)))=true:=by kernel_rfl
theorem akC:((Rows.optimaltreeConsensusRow.ifaces==(Tryz.f9.params.toList++Rows.optimaltreeConsensusSpec.plain.varTypes Tryz.pinned.checked.prog).any (Tryz.pinned.checked.prog.ifacesRec ·)))=true:=by kernel_rfl
theorem akD:((Rows.optimaltreeConsensusRow.mapsOut==Tryz.pinned.checked.prog.mapsAmong Tryz.f9.resultTypes.toList))=true:=by kernel_rfl
theorem akE:((Rows.optimaltreeConsensusRow.loops==(Tryz.f9.params.toList++Rows.optimaltreeConsensusSpec.plain.varTypes Tryz.pinned.checked.prog).any (Tryz.pinned.checked.prog.loopsFrom ·)))=true:=by kernel_rfl
theorem akF:((Rows.optimaltreeConsensusRow.wideKeys==(Tryz.f9.params.toList++Rows.optimaltreeConsensusSpec.plain.varTypes Tryz.pinned.checked.prog++Tryz.f9.resultTypes.toList).any (Tryz.pinned.checked.prog.wideKeysFrom ·)))=true:=by kernel_rfl
theorem akG:(Rows.optimaltreeConsensusSpec.vars.all (Tryz.pinned.checked.prog.varReadable ·))=true:=by kernel_rfl
theorem akH:(Tryz.f9.resultTypes.all (fun t=>Tryz.pinned.checked.prog.readableRec t&&decide (t<Tryz.pinned.checked.prog.types.size)))=true:=by kernel_rfl
theorem akI:((Rows.optimaltreeConsensusRow.ifacesOut==Tryz.f9.resultTypes.toList.any (Tryz.pinned.checked.prog.ifacesRec ·)))=true:=by kernel_rfl
theorem akJ:((Rows.optimaltreeConsensusRow.loopsOut==Tryz.f9.resultTypes.toList.any (Tryz.pinned.checked.prog.loopsFrom ·)))=true:=by kernel_rfl
theorem akK:((Rows.optimaltreeConsensusRow.plainKeys==Tryz.pinned.checked.prog.plainKeys))=true:=by kernel_rfl
theorem akL:(Rows.optimaltreeConsensusRow.shortTexts.isNone)=true:=by kernel_rfl
theorem akM:(Tryz.pinned.checked.prog.stopsHeard)=true:=by kernel_rfl
theorem akN:(Tryz.pinned.checked.prog.mayEnter)=true:=by kernel_rfl
theorem akO:((Rows.optimaltreeConsensusRow.lifted==Tryz.pinned.checked.prog.liftsFinal))=true:=by kernel_rfl
theorem akP:((Tryz.pinned.checked.prog.make==some Rows.optimaltreeConsensusRow.make))=true:=by kernel_rfl
theorem akQ:((Rows.optimaltreeConsensusRow.kinds==(if Rows.optimaltreeConsensusRow.domain.isEmpty then [] else Tryz.f9.params.toList.map fun t=>match Tryz.pinned.checked.prog.underlying t with | some (.int k)=>some k | _=>none)))=true:=by kernel_rfl
theorem akR:((Rows.optimaltreeConsensusRow.pinned==Rows.optimaltreeConsensusRow.pinnedBy))=true:=by kernel_rfl
theorem akS:((Rows.optimaltreeConsensusRow.veiled==(Tryz.f9.params.toList++Rows.optimaltreeConsensusSpec.plain.varTypes Tryz.pinned.checked.prog++Tryz.f9.resultTypes.toList).any (Tryz.pinned.checked.prog.veiledRec ·)))=true:=by kernel_rfl
theorem akT:(Rows.optimaltreeConsensusRow.veiledFits Tryz.pinned.checked.prog Tryz.f9.params.toList (Tryz.f9.params.toList++Rows.optimaltreeConsensusSpec.plain.varTypes Tryz.pinned.checked.prog++Tryz.f9.resultTypes.toList))=true:=by kernel_rfl
theorem facts:joinedFacts Tryz.pinned.checked.prog 9 Tryz.f9 Rows.optimaltreeConsensusSpec Rows.optimaltreeConsensusRow=true:=by
 unfold joinedFacts;exact fS (fS (fS (fS (fS (fS (fS (fS (fS (fS (fS (fS (fS (fS (fS (fS (fS (fS (fS (fS (fS (fS (fS (fS (fS (fS (fS (fS (fS (fS (fS (cf0) cf1) cf2) cf3) cf4) cf5) cf6) cf7) cf8) cf9) aky) akz) akA) akB) akC) akD) akE) akF) akG) akH) akI) akJ) akK) akL) akM) akN) akO) akP) akQ) akR) akS) akT
theorem over:Rows.optimaltreeConsensusRow.holds Tryz.pinned (OpenSpec.ofChange Rows.optimaltreeConsensusSpec) :=
 OpenClaim.holds_of_wide 9 Tryz.f9 rfl rfl rfl rfl rfl rfl rfl ⟨rfl,rfl,rfl,rfl,rfl⟩ rfl rfl rfl rfl rfl (by kernel_rfl) Tryz.func9 facts
  (of_decide_eq_true (by kernel_rfl)) (by unfold Func.isWrapper;first | (rw [if_pos (by decide +kernel)];kernel_rfl) | (rw [if_neg (by decide +kernel)];exact ⟨rfl,rfl⟩))
  (fun os started H enc _=>lifted os started H enc)
end qN
theorem optimaltreeConsensus_holds:Rows.OptimaltreeConsensusSaid:=qN.over
end Go.Proofs.YthgabkgmkolobaaGreat
