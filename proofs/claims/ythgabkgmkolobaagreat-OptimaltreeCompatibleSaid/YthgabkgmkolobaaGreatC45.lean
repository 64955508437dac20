/- OptimaltreeCompatibleSaid: for every input the law returns true; each argument reads behind the call as it read before. No condition. -/
import Derived.Test.YthgabkgmkolobaaGreatQ55
set_option maxRecDepth 100000
namespace Go.Proofs.YthgabkgmkolobaaGreat
namespace r8
open Go.ChangeShapes Go.WideShapes Go.ChangeAt Go.RowKit Go.Deep
set_option linter.unusedVariables false
theorem lifted (os:Os) (started:os.Started) (H:Type) (enc:TypeId×Value->H) :
  ReturnsInHanded {} Tryz.checked os 5 .any (Rows.optimaltreeCompatibleSpec.pre6 enc Tryz.prog Tryz.f5 Rows.optimaltreeCompatibleRow.domain false) (Rows.optimaltreeCompatibleSpec.post enc Tryz.prog Tryz.f5 false true false false):=by
 refine returnsInHanded_of_change (C:=Tryz.checked) FC started (by kernel_rfl) Tryz.func5
  (ChangeSpec.witness6 (enc:=enc) (C:=Tryz.checked) false ⟨#[],#[.slice none 0 0,.int .u8 0,.int .u16 0],[]⟩ 8 (by kernel_rfl) (by kernel_rfl) (by kernel_rfl) (by kernel_rfl)) ?_
 intro W base args ds gs before xH hW hcnd _;have hval:∀(j:Nat) t v,Tryz.f5.params[j]? = some t->args[j]? = some v->Value.okWide Tryz.prog W .any base t v:=xH;have pM:=hW;obtain ⟨p,q,ER,hV,rfl,hfz,fe⟩:=hW;have hA:DataW.TrodAll enc Tryz.prog W 0 (fun _=>true) true Tryz.f5.params.toList args.toList ds p:=ER;rw [Tryz.params5] at hA hval;obtain ⟨v0,YL,d0,ds0,p0,q0,hargs,rfl,rfl,g0,r0⟩:=trodAll_cons hA;obtain ⟨v1,vs1,d1,ds1,p1,q1,rfl,rfl,rfl,g1,r1⟩:=trodAll_cons r0;obtain ⟨v2,vs2,d2,ds2,p2,q2,rfl,rfl,rfl,g2,r2⟩:=trodAll_cons r1;obtain ⟨rfl,rfl,rfl⟩:=trodAll_nil r2
 obtain rfl:args=#[v0,v1,v2]:=by cases args;simp_all
 obtain ⟨rfl,rfl⟩:=trodVars_none hV;have k0:=g0;have Xr:=Am g0;obtain ⟨x0,h0,ha0,hb0⟩:=Ao (hval 0 22 v0 rfl rfl) g0;have k1:=g1;have I8:=Am g1;obtain ⟨x1,rfl,rfl,rfl,w1⟩:=open_int Tryz.underlying5 (hval 1 5 v1 rfl rfl) g1;have h1:=bounds_u8 w1;have k2:=g2;have lt2:=Am g2;obtain ⟨x2,rfl,rfl,rfl,w2⟩:=open_int Tryz.underlying58 (hval 2 58 v2 rfl rfl) g2;clear ER xH;refine (SU W _ x0 x1 x2 h0 ha0 hb0 h1 (bounds_u16 w2)).mono fun e W' ⟨he,Ae⟩=>?_;subst he
 exact ⟨_,rfl,_,_,_,[],_,[],pM,trodAll_mk1 (shut_bool Tryz.underlying4 _),(trodAll_cons_mk (Below.trod laidOut (by kernel_rfl) (of_decide_eq_true (by kernel_rfl)) k0 Ae Xr) (trodAll_cons_mk (Below.trod laidOut (by kernel_rfl) (of_decide_eq_true (by kernel_rfl)) k1 Ae I8) (trodAll_cons_mk (Below.trod laidOut (by kernel_rfl) (of_decide_eq_true (by kernel_rfl)) k2 Ae lt2) trodAll_mk0))),rfl,Ae.frame _,fun h=>by cases h⟩
theorem aN {a b:Bool} (h1:a=true) (h2:b=true):(a&&b)=true:=by rw [h1,h2];rfl
theorem Xt:(Rows.optimaltreeCompatibleRow.wf (OpenSpec.ofChange Rows.optimaltreeCompatibleSpec))=true:=by kernel_rfl
theorem Xu:(laidOutB Tryz.pinned.checked.prog)=true:=by kernel_rfl
theorem Xv:(mapsRowed Tryz.pinned.checked.prog)=true:=by kernel_rfl
theorem Xw:(Tryz.f5.params.all (Tryz.pinned.checked.prog.readableRec ·))=true:=by kernel_rfl
theorem Xx:(namedTie Tryz.pinned.checked.prog Rows.optimaltreeCompatibleRow.named Rows.optimaltreeCompatibleSpec.vars)=true:=by kernel_rfl
theorem Xy:((Rows.optimaltreeCompatibleRow.stops==[]))=true:=by kernel_rfl
theorem Xz:((Tryz.pinned.checked.prog.stops==[]))=true:=by kernel_rfl
theorem XA:((Rows.optimaltreeCompatibleRow.knobs==[]))=true:=by kernel_rfl
theorem XB:((Tryz.pinned.checked.prog.stopKnobs==[]))=true:=by kernel_rfl
theorem XC:((Rows.optimaltreeCompatibleRow.inPlace==Tryz.pinned.checked.prog.inPlace 5))=true:=by kernel_rfl
theorem MC:((Rows.optimaltreeCompatibleRow.unfollowed==Tryz.pinned.checked.prog.unfollowed 5))=true:=by kernel_rfl
theorem MD:((Rows.optimaltreeCompatibleRow.recurses==Tryz.pinned.checked.prog.recurses 5))=true:=by kernel_rfl
theorem ME:((Rows.optimaltreeCompatibleRow.named==Tryz.pinned.checked.prog.varsNamed 5))=true:=by kernel_rfl
theorem MF:((Rows.optimaltreeCompatibleRow.maps==(Tryz.f5.params.toList++Rows.optimaltreeCompatibleSpec.plain.varTypes Tryz.pinned.checked.prog).any (Tryz.pinned.checked.prog.mapsRec ·)))=true:=by kernel_rfl
theorem MG:((Rows.optimaltreeCompatibleRow.ifaces==(Tryz.f5.params.toList++Rows.optimaltreeCompatibleSpec.plain.varTypes Tryz.pinned.checked.prog).any (Tryz.pinned.checked.prog.ifacesRec ·)))=true:=by kernel_rfl
theorem MH:((Rows.optimaltreeCompatibleRow.mapsOut==Tryz.pinned.checked.prog.mapsAmong Tryz.f5.resultTypes.toList))=true:=by kernel_rfl
theorem MI:((Rows.optimaltreeCompatibleRow.loops==(Tryz.f5.params.toList++Rows.optimaltreeCompatibleSpec.plain.varTypes Tryz.pinned.checked.prog).any (Tryz.pinned.checked.prog.loopsFrom ·)))=true:=by kernel_rfl
theorem MJ:((Rows.optimaltreeCompatibleRow.wideKeys==(Tryz.f5.params.toList++Rows.optimaltreeCompatibleSpec.plain.varTypes Tryz.pinned.checked.prog++Tryz.f5.resultTypes.toList).any (Tryz.pinned.checked.prog.wideKeysFrom ·)))=true:=by kernel_rfl
theorem MK:(Rows.optimaltreeCompatibleSpec.vars.all (Tryz.pinned.checked.prog.varReadable ·))=true:=by kernel_rfl
theorem ML:(Tryz.f5.resultTypes.all (fun t=>Tryz.pinned.checked.prog.readableRec t&&decide (t<Tryz.pinned.checked.prog.types.size)))=true:=by kernel_rfl
theorem MM:((Rows.optimaltreeCompatibleRow.ifacesOut==Tryz.f5.resultTypes.toList.any (Tryz.pinned.checked.prog.ifacesRec ·)))=true:=by kernel_rfl
theorem MN:((Rows.optimaltreeCompatibleRow.loopsOut==Tryz.f5.resultTypes.toList.any (Tryz.pinned.checked.prog.loopsFrom ·)))=true:=by kernel_rfl
theorem MO:((Rows.optimaltreeCompatibleRow.plainKeys==Tryz.pinned.checked.prog.plainKeys))=true:=by kernel_rfl
theorem MP:(Rows.optimaltreeCompatibleRow.shortTexts.isNone)=true:=by kernel_rfl
theorem MQ:(Tryz.pinned.checked.prog.stopsHeard)=true:=by kernel_rfl
theorem MR:(Tryz.pinned.checked.prog.mayEnter)=true:=by kernel_rfl
theorem MS:((Rows.optimaltreeCompatibleRow.lifted==Tryz.pinned.checked.prog.liftsFinal))=true:=by kernel_rfl
theorem MT:((Tryz.pinned.checked.prog.make==some Rows.optimaltreeCompatibleRow.make))=true:=by kernel_rfl
theorem MU:((Rows.optimaltreeCompatibleRow.kinds==(if Rows.optimaltreeCompatibleRow.domain.isEmpty then [] else Tryz.f5.params.toList.map fun t=>match Tryz.pinned.checked.prog.underlying t with | some (.int k)=>some k | _=>none)))=true:=by kernel_rfl
theorem MV:((Rows.optimaltreeCompatibleRow.pinned==Rows.optimaltreeCompatibleRow.pinnedBy))=true:=by kernel_rfl
theorem MW:((Rows.optimaltreeCompatibleRow.veiled==(Tryz.f5.params.toList++Rows.optimaltreeCompatibleSpec.plain.varTypes Tryz.pinned.checked.prog++Tryz.f5.resultTypes.toList).any (Tryz.pinned.checked.prog.veiledRec ·)))=true:=by kernel_rfl
theorem MX:(Rows.optimaltreeCompatibleRow.veiledFits Tryz.pinned.checked.prog Tryz.f5.params.toList (Tryz.f5.params.toList++Rows.optimaltreeCompatibleSpec.plain.varTypes Tryz.pinned.checked.prog++Tryz.f5.resultTypes.toList))=true:=by kernel_rfl
theorem facts:joinedFacts Tryz.pinned.checked.prog 5 Tryz.f5 Rows.optimaltreeCompatibleSpec Rows.optimaltreeCompatibleRow=true:=by
 unfold joinedFacts;exact aN (aN (aN (aN (aN (aN (aN (aN (aN (aN (aN (aN (aN (aN (aN (aN (aN (aN (aN (aN (aN (aN (aN (aN (aN (aN (aN (aN (aN (aN (aN (Xt) Xu) Xv) Xw) Xx) Xy) Xz) XA) XB) XC) MC) MD) ME) MF) MG) MH) MI) MJ) MK) ML) MM) MN) MO) MP) MQ) MR) MS) MT) MU) MV) MW) MX
theorem over:Rows.optimaltreeCompatibleRow.holds Tryz.pinned (OpenSpec.ofChange Rows.optimaltreeCompatibleSpec) :=
 OpenClaim.holds_of_wide 5 Tryz.f5 rfl rfl rfl rfl rfl rfl rfl ⟨rfl,rfl,rfl,rfl,rfl⟩ rfl rfl rfl rfl rfl (by kernel_rfl) Tryz.func5 facts
  (of_decide_eq_true (by kernel_rfl)) (by unfold Func.isWrapper;first | (rw [if_pos (by decide +kernel)];kernel_rfl) | (rw [if_neg (by decide +kernel)];exact ⟨rfl,rfl⟩))
  (fun os started H enc _=>lifted os started H enc)
end r8
theorem optimaltreeCompatible_holds:Rows.OptimaltreeCompatibleSaid:=r8.over
end Go.Proofs.YthgabkgmkolobaaGreat
