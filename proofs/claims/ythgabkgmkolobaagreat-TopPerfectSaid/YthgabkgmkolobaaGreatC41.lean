/- TopPerfectSaid: for every input the law returns true; each argument reads behind the call as it read before. No condition. -/
import Derived.Test.YthgabkgmkolobaaGreatQ51
set_option maxRecDepth 100000
namespace Go.Proofs.YthgabkgmkolobaaGreat
namespace DG
open Go.ChangeShapes Go.WideShapes Go.ChangeAt Go.RowKit Go.Deep
set_option linter.unusedVariables false
theorem lifted (os:Os) (started:os.Started) (H:Type) (enc:TypeId×Value->H) :
  ReturnsInHanded {} Tryz.checked os 3 .any (Rows.topPerfectSpec.pre6 enc Tryz.prog Tryz.f3 Rows.topPerfectRow.domain false) (Rows.topPerfectSpec.post enc Tryz.prog Tryz.f3 false true false false):=by
 refine returnsInHanded_of_change (C:=Tryz.checked) FC started (by kernel_rfl) Tryz.func3
  (ChangeSpec.witness6 (enc:=enc) (C:=Tryz.checked) false ⟨#[],#[.slice none 0 0,.slice none 0 0],[]⟩ 8 (by kernel_rfl) (by kernel_rfl) (by kernel_rfl) (by kernel_rfl)) ?_
 intro W base args ds gs before xH hW hcnd _;have hval:∀(j:Nat) t v,Tryz.f3.params[j]? = some t->args[j]? = some v->Value.okWide Tryz.prog W .any base t v:=xH;have pM:=hW;obtain ⟨p,q,ER,hV,rfl,hfz,fe⟩:=hW;have hA:DataW.TrodAll enc Tryz.prog W 0 (fun _=>true) true Tryz.f3.params.toList args.toList ds p:=ER;rw [Tryz.params3] at hA hval;obtain ⟨v0,YL,d0,ds0,p0,q0,hargs,rfl,rfl,g0,r0⟩:=trodAll_cons hA;obtain ⟨v1,vs1,d1,ds1,p1,q1,rfl,rfl,rfl,g1,r1⟩:=trodAll_cons r0;obtain ⟨rfl,rfl,rfl⟩:=trodAll_nil r1;obtain rfl:args=#[v0,v1]:=by cases args;simp_all
 obtain ⟨rfl,rfl⟩:=trodVars_none hV;have k0:=g0;have Xr:=Am g0;obtain ⟨x0,h0,ha0,hb0⟩:=Ao (hval 0 22 v0 rfl rfl) g0;have k1:=g1;have I8:=Am g1;obtain ⟨x1,h1,ha1,hb1⟩:=OM (hval 1 23 v1 rfl rfl) g1;clear ER xH;refine (Yj W _ _ x0 x1 h0 h1 ha0 hb0 ha1 hb1).mono fun e W' ⟨he,Ae⟩=>?_;subst he
 exact ⟨_,rfl,_,_,_,[],_,[],pM,trodAll_mk1 (shut_bool Tryz.underlying4 _),(trodAll_cons_mk (Below.trod laidOut (by kernel_rfl) (of_decide_eq_true (by kernel_rfl)) k0 Ae Xr) (trodAll_cons_mk (Below.trod laidOut (by kernel_rfl) (of_decide_eq_true (by kernel_rfl)) k1 Ae I8) trodAll_mk0)),rfl,Ae.frame _,fun h=>by cases h⟩
theorem aN {a b:Bool} (h1:a=true) (h2:b=true):(a&&b)=true:=by rw [h1,h2];rfl
theorem Xt:(Rows.topPerfectRow.wf (OpenSpec.ofChange Rows.topPerfectSpec))=true:=by kernel_rfl
theorem Xu:(laidOutB Tryz.pinned.checked.prog)=true:=by kernel_rfl
theorem Xv:(mapsRowed Tryz.pinned.checked.prog)=true:=by kernel_rfl
theorem Xw:(Tryz.f3.params.all (Tryz.pinned.checked.prog.readableRec ·))=true:=by kernel_rfl
theorem Xx:(namedTie Tryz.pinned.checked.prog Rows.topPerfectRow.named Rows.topPerfectSpec.vars)=true:=by kernel_rfl
theorem Xy:((Rows.topPerfectRow.stops==[]))=true:=by kernel_rfl
theorem Xz:((Tryz.pinned.checked.prog.stops==[]))=true:=by kernel_rfl
theorem XA:((Rows.topPerfectRow.knobs==[]))=true:=by kernel_rfl
theorem XB:((Tryz.pinned.checked.prog.stopKnobs==[]))=true:=by kernel_rfl
theorem XC:((Rows.topPerfectRow.inPlace==Tryz.pinned.checked.prog.inPlace 3))=true:=by kernel_rfl
theorem MC:((Rows.topPerfectRow.unfollowed==Tryz.pinned.checked.prog.unfollowed 3))=true:=by kernel_rfl
theorem MD:((Rows.topPerfectRow.recurses==Tryz.pinned.checked.prog.recurses 3))=true:=by kernel_rfl
theorem ME:((Rows.topPerfectRow.named==Tryz.pinned.checked.prog.varsNamed 3))=true:=by kernel_rfl
theorem MF:((Rows.topPerfectRow.maps==(Tryz.f3.params.toList++Rows.topPerfectSpec.plain.varTypes Tryz.pinned.checked.prog).any (Tryz.pinned.checked.prog.mapsRec ·)))=true:=by kernel_rfl
theorem MG:((Rows.topPerfectRow.ifaces==(Tryz.f3.params.toList++Rows.topPerfectSpec.plain.varTypes Tryz.pinned.checked.prog).any (Tryz.pinned.checked.prog.ifacesRec ·)))=true:=by kernel_rfl
theorem MH:((Rows.topPerfectRow.mapsOut==Tryz.pinned.checked.prog.mapsAmong Tryz.f3.resultTypes.toList))=true:=by kernel_rfl
theorem MI:((Rows.topPerfectRow.loops==(Tryz.f3.params.toList++Rows.topPerfectSpec.plain.varTypes Tryz.pinned.checked.prog).any (Tryz.pinned.checked.prog.loopsFrom ·)))=true:=by kernel_rfl
theorem MJ:((Rows.topPerfectRow.wideKeys==(Tryz.f3.params.toList++Rows.topPerfectSpec.plain.varTypes Tryz.pinned.checked.prog++Tryz.f3.resultTypes.toList).any (Tryz.pinned.checked.prog.wideKeysFrom ·)))=true:=by kernel_rfl
theorem MK:(Rows.topPerfectSpec.vars.all (Tryz.pinned.checked.prog.varReadable ·))=true:=by kernel_rfl
theorem ML:(Tryz.f3.resultTypes.all (fun t=>Tryz.pinned.checked.prog.readableRec t&&decide (t<Tryz.pinned.checked.prog.types.size)))=true:=by kernel_rfl
theorem MM:((Rows.topPerfectRow.ifacesOut==Tryz.f3.resultTypes.toList.any (Tryz.pinned.checked.prog.ifacesRec ·)))=true:=by kernel_rfl
theorem MN:((Rows.topPerfectRow.loopsOut==Tryz.f3.resultTypes.toList.any (Tryz.pinned.checked.prog.loopsFrom ·)))=true:=by kernel_rfl
theorem MO:((Rows.topPerfectRow.plainKeys==Tryz.pinned.checked.prog.plainKeys))=true:=by kernel_rfl
theorem MP:(Rows.topPerfectRow.shortTexts.isNone)=true:=by kernel_rfl
theorem MQ:(Tryz.pinned.checked.prog.stopsHeard)=true:=by kernel_rfl
theorem MR:(Tryz.pinned.checked.prog.mayEnter)=true:=by kernel_rfl
theorem MS:((Rows.topPerfectRow.lifted==Tryz.pinned.checked.prog.liftsFinal))=true:=by kernel_rfl
theorem MT:((Tryz.pinned.checked.prog.make==some Rows.topPerfectRow.make))=true:=by kernel_rfl
theorem MU:((Rows.topPerfectRow.kinds==(if Rows.topPerfectRow.domain.isEmpty then [] else Tryz.f3.params.toList.map fun t=>match Tryz.pinned.checked.prog.underlying t with | some (.int k)=>some k | _=>none)))=true:=by kernel_rfl
theorem MV:((Rows.topPerfectRow.pinned==Rows.topPerfectRow.pinnedBy))=true:=by kernel_rfl
theorem MW:((Rows.topPerfectRow.veiled==(Tryz.f3.params.toList++Rows.topPerfectSpec.plain.varTypes Tryz.pinned.checked.prog++Tryz.f3.resultTypes.toList).any (Tryz.pinned.checked.prog.veiledRec ·)))=true:=by kernel_rfl
theorem MX:(Rows.topPerfectRow.veiledFits Tryz.pinned.checked.prog Tryz.f3.params.toList (Tryz.f3.params.toList++Rows.topPerfectSpec.plain.varTypes Tryz.pinned.checked.prog++Tryz.f3.resultTypes.toList))=true:=by kernel_rfl
theorem facts:joinedFacts Tryz.pinned.checked.prog 3 Tryz.f3 Rows.topPerfectSpec Rows.topPerfectRow=true:=by
 unfold joinedFacts;exact aN (aN (aN (aN (aN (aN (aN (aN (aN (aN (aN (aN (aN (aN (aN (aN (aN (aN (aN (aN (aN (aN (aN (aN (aN (aN (aN (aN (aN (aN (aN (Xt) Xu) Xv) Xw) Xx) Xy) Xz) XA) XB) XC) MC) MD) ME) MF) MG) MH) MI) MJ) MK) ML) MM) MN) MO) MP) MQ) MR) MS) MT) MU) MV) MW) MX
theorem over:Rows.topPerfectRow.holds Tryz.pinned (OpenSpec.ofChange Rows.topPerfectSpec) :=
 OpenClaim.holds_of_wide 3 Tryz.f3 rfl rfl rfl rfl rfl rfl rfl ⟨rfl,rfl,rfl,rfl,rfl⟩ rfl rfl rfl rfl rfl (by kernel_rfl) Tryz.func3 facts
  (of_decide_eq_true (by kernel_rfl)) (by unfold Func.isWrapper;first | (rw [if_pos (by decide +kernel)];kernel_rfl) | (rw [if_neg (by decide +kernel)];exact ⟨rfl,rfl⟩))
  (fun os started H enc _=>lifted os started H enc)
end DG
theorem topPerfect_holds:Rows.TopPerfectSaid:=DG.over
end Go.Proofs.YthgabkgmkolobaaGreat
