/- OptimaltreeCommonSaid: for every input the law returns true; each argument reads behind the call as it read before. No condition. -/
import Derived.Test.YthgabkgmkolobaaGreatQ53
set_option maxRecDepth 100000
namespace Go.Proofs.YthgabkgmkolobaaGreat
namespace uY
open Go.ChangeShapes Go.WideShapes Go.ChangeAt Go.RowKit Go.Deep
set_option linter.unusedVariables false
theorem lifted (os:Os) (started:os.Started) (H:Type) (enc:TypeId×Value->H) :
  ReturnsInHanded {} Tryz.checked os 10 .any (Rows.optimaltreeCommonSpec.pre6 enc Tryz.prog Tryz.f10 Rows.optimaltreeCommonRow.domain false) (Rows.optimaltreeCommonSpec.post enc Tryz.prog Tryz.f10 false true false false):=by
 refine returnsInHanded_of_change (C:=Tryz.checked) FC started (by kernel_rfl) Tryz.func10
  (ChangeSpec.witness6 (enc:=enc) (C:=Tryz.checked) false ⟨#[],#[.slice none 0 0,.slice none 0 0],[]⟩ 8 (by kernel_rfl) (by kernel_rfl) (by kernel_rfl) (by kernel_rfl)) ?_
 intro W base args ds gs before xH hW hcnd _;have hval:∀(j:Nat) t v,Tryz.f10.params[j]? = some t->args[j]? = some v->Value.okWide Tryz.prog W .any base t v:=xH;have pM:=hW;obtain ⟨p,q,ER,hV,rfl,hfz,fe⟩:=hW;have hA:DataW.TrodAll enc Tryz.prog W 0 (fun _=>true) true Tryz.f10.params.toList args.toList ds p:=ER;rw [Tryz.params10] at hA hval;obtain ⟨v0,YL,d0,ds0,p0,q0,hargs,rfl,rfl,g0,r0⟩:=trodAll_cons hA;obtain ⟨v1,vs1,d1,ds1,p1,q1,rfl,rfl,rfl,g1,r1⟩:=trodAll_cons r0;obtain ⟨rfl,rfl,rfl⟩:=trodAll_nil r1;obtain rfl:args=#[v0,v1]:=by cases args;simp_all
 obtain ⟨rfl,rfl⟩:=trodVars_none hV;have k0:=g0;have Xr:=Am g0;obtain ⟨x0,h0,ha0,hb0⟩:=Ao (hval 0 22 v0 rfl rfl) g0;have k1:=g1;have I8:=Am g1;obtain ⟨x1,h1,ha1,hb1⟩:=Yk (hval 1 77 v1 rfl rfl) g1;clear ER xH;refine (Xh W _ _ x0 x1 h0 h1 ha0 hb0 ha1 hb1).mono fun e W' ⟨he,Ae⟩=>?_;subst he
 exact ⟨_,rfl,_,_,_,[],_,[],pM,trodAll_mk1 (shut_bool Tryz.underlying4 _),(trodAll_cons_mk (Below.trod laidOut (by kernel_rfl) (of_decide_eq_true (by kernel_rfl)) k0 Ae Xr) (trodAll_cons_mk (Below.trod laidOut (by kernel_rfl) (of_decide_eq_true (by kernel_rfl)) k1 Ae I8) trodAll_mk0)),rfl,Ae.frame _,fun h=>by cases h⟩
theorem aN {a b:Bool} (h1:a=true) (h2:b=true):(a&&b)=true:=by rw [h1,h2];rfl
theorem Xt:(Rows.optimaltreeCommonRow.wf (OpenSpec.ofChange Rows.optimaltreeCommonSpec))=true:=by kernel_rfl
theorem Xu:(laidOutB Tryz.pinned.checked.prog)=true:=by kernel_rfl
theorem Xv:(mapsRowed Tryz.pinned.checked.prog)=true:=by kernel_rfl
theorem Xw:(Tryz.f10.params.all (Tryz.pinned.checked.prog.readableRec ·))=true:=by kernel_rfl
theorem Xx:(namedTie Tryz.pinned.checked.prog Rows.optimaltreeCommonRow.named Rows.optimaltreeCommonSpec.vars)=true:=by kernel_rfl
theorem Xy:((Rows.optimaltreeCommonRow.stops==[]))=true:=by kernel_rfl
theorem Xz:((Tryz.pinned.checked.prog.stops==[]))=true:=by kernel_rfl
theorem XA:((Rows.optimaltreeCommonRow.knobs==[]))=true:=by kernel_rfl
theorem XB:((Tryz.pinned.checked.prog.stopKnobs==[]))=true:=by kernel_rfl
theorem XC:((Rows.optimaltreeCommonRow.inPlace==Tryz.pinned.checked.prog.inPlace 10))=true:=by kernel_rfl
theorem MC:((Rows.optimaltreeCommonRow.unfollowed==Tryz.pinned.checked.prog.unfollowed 10))=true:=by kernel_rfl
theorem MD:((Rows.optimaltreeCommonRow.recurses==Tryz.pinned.checked.prog.recurses 10))=true:=by kernel_rfl
theorem ME:((Rows.optimaltreeCommonRow.named==Tryz.pinned.checked.prog.varsNamed 10))=true:=by kernel_rfl
theorem MF:((Rows.optimaltreeCommonRow.maps==(Tryz.f10.params.toList++Rows.optimaltreeCommonSpec.plain.varTypes Tryz.pinned.checked.prog).any (Tryz.pinned.checked.prog.mapsRec ·)))=true:=by kernel_rfl
theorem MG:((Rows.optimaltreeCommonRow.ifaces==(Tryz.f10.params.toList++Rows.optimaltreeCommonSpec.plain.varTypes Tryz.pinned.checked.prog).any (Tryz.pinned.checked.prog.ifacesRec ·)))=true:=by kernel_rfl
theorem MH:((Rows.optimaltreeCommonRow.mapsOut==Tryz.pinned.checked.prog.mapsAmong Tryz.f10.resultTypes.toList))=true:=by kernel_rfl
theorem MI:((Rows.optimaltreeCommonRow.loops==(Tryz.f10.params.toList++Rows.optimaltreeCommonSpec.plain.varTypes Tryz.pinned.checked.prog).any (Tryz.pinned.checked.prog.loopsFrom ·)))=true:=by kernel_rfl
theorem MJ:((Rows.optimaltreeCommonRow.wideKeys==(Tryz.f10.params.toList++Rows.optimaltreeCommonSpec.plain.varTypes Tryz.pinned.checked.prog++Tryz.f10.resultTypes.toList).any (Tryz.pinned.checked.prog.wideKeysFrom ·)))=true:=by kernel_rfl
theorem MK:(Rows.optimaltreeCommonSpec.vars.all (Tryz.pinned.checked.prog.varReadable ·))=true:=by kernel_rfl
theorem ML:(Tryz.f10.resultTypes.all (fun t=>Tryz.pinned.checked.prog.readableRec t&&decide (t<Tryz.pinned.checked.prog.types.size)))=true:=by kernel_rfl
theorem MM:((Rows.optimaltreeCommonRow.ifacesOut==Tryz.f10.resultTypes.toList.any (Tryz.pinned.checked.prog.ifacesRec ·)))=true:=by kernel_rfl
theorem MN:((Rows.optimaltreeCommonRow.loopsOut==Tryz.f10.resultTypes.toList.any (Tryz.pinned.checked.prog.loopsFrom ·)))=true:=by kernel_rfl
theorem MO:((Rows.optimaltreeCommonRow.plainKeys==Tryz.pinned.checked.prog.plainKeys))=true:=by kernel_rfl
theorem MP:(Rows.optimaltreeCommonRow.shortTexts.isNone)=true:=by kernel_rfl
theorem MQ:(Tryz.pinned.checked.prog.stopsHeard)=true:=by kernel_rfl
theorem MR:(Tryz.pinned.checked.prog.mayEnter)=true:=by kernel_rfl
theorem MS:((Rows.optimaltreeCommonRow.lifted==Tryz.pinned.checked.prog.liftsFinal))=true:=by kernel_rfl
theorem MT:((Tryz.pinned.checked.prog.make==some Rows.optimaltreeCommonRow.make))=true:=by kernel_rfl
theorem MU:((Rows.optimaltreeCommonRow.kinds==(if Rows.optimaltreeCommonRow.domain.isEmpty then [] else Tryz.f10.params.toList.map fun t=>match Tryz.pinned.checked.prog.underlying t with | some (.int k)=>some k | _=>none)))=true:=by kernel_rfl
theorem MV:((Rows.optimaltreeCommonRow.pinned==Rows.optimaltreeCommonRow.pinnedBy))=true:=by kernel_rfl
theorem MW:((Rows.optimaltreeCommonRow.veiled==(Tryz.f10.params.toList++Rows.optimaltreeCommonSpec.plain.varTypes Tryz.pinned.checked.prog++Tryz.f10.resultTypes.toList).any (Tryz.pinned.checked.prog.veiledRec ·)))=true:=by kernel_rfl
theorem MX:(Rows.optimaltreeCommonRow.veiledFits Tryz.pinned.checked.prog Tryz.f10.params.toList (Tryz.f10.params.toList++Rows.optimaltreeCommonSpec.plain.varTypes Tryz.pinned.checked.prog++Tryz.f10.resultTypes.toList))=true:=by kernel_rfl
theorem facts:joinedFacts Tryz.pinned.checked.prog 10 Tryz.f10 Rows.optimaltreeCommonSpec Rows.optimaltreeCommonRow=true:=by
 unfold joinedFacts;exact aN (aN (aN (aN (aN (aN (aN (aN (aN (aN (aN (aN (aN (aN (aN (aN (aN (aN (aN (aN (aN (aN (aN (aN (aN (aN (aN (aN (aN (aN (aN (Xt) Xu) Xv) Xw) Xx) Xy) Xz) XA) XB) XC) MC) MD) ME) MF) MG) MH) MI) MJ) MK) ML) MM) MN) MO) MP) MQ) MR) MS) MT) MU) MV) MW) MX
theorem over:Rows.optimaltreeCommonRow.holds Tryz.pinned (OpenSpec.ofChange Rows.optimaltreeCommonSpec) :=
 OpenClaim.holds_of_wide 10 Tryz.f10 rfl rfl rfl rfl rfl rfl rfl ⟨rfl,rfl,rfl,rfl,rfl⟩ rfl rfl rfl rfl rfl (by kernel_rfl) Tryz.func10 facts
  (of_decide_eq_true (by kernel_rfl)) (by unfold Func.isWrapper;first | (rw [if_pos (by decide +kernel)];kernel_rfl) | (rw [if_neg (by decide +kernel)];exact ⟨rfl,rfl⟩))
  (fun os started H enc _=>lifted os started H enc)
end uY
theorem optimaltreeCommon_holds:Rows.OptimaltreeCommonSaid:=uY.over
end Go.Proofs.YthgabkgmkolobaaGreat
