/- OptimaltreeOrderSaid: for every input the law returns true; each argument reads behind the call as it read before. No condition. -/
import Derived.Test.YthgabkgmkolobaaGreatQ49
set_option maxRecDepth 100000
namespace Go.Proofs.YthgabkgmkolobaaGreat
namespace og
open Go.ChangeShapes Go.WideShapes Go.ChangeAt Go.RowKit Go.Deep
set_option linter.unusedVariables false
theorem lifted (os:Os) (started:os.Started) (H:Type) (enc:TypeId×Value->H) :
  ReturnsInHanded {} Tryz.checked os 6 .any (Rows.optimaltreeOrderSpec.pre6 enc Tryz.prog Tryz.f6 Rows.optimaltreeOrderRow.domain false) (Rows.optimaltreeOrderSpec.post enc Tryz.prog Tryz.f6 false true false false):=by
 refine returnsInHanded_of_change (C:=Tryz.checked) Qi started (by kernel_rfl) Tryz.func6
  (ChangeSpec.witness6 (enc:=enc) (C:=Tryz.checked) false ⟨#[],#[.slice none 0 0,.slice none 0 0,.int .u8 0],[]⟩ 8 (by kernel_rfl) (by kernel_rfl) (by kernel_rfl) (by kernel_rfl)) ?_
 intro W base args ds gs before TG hW hcnd _;have hval:∀(j:Nat) t v,Tryz.f6.params[j]? = some t->args[j]? = some v->Value.okWide Tryz.prog W .any base t v:=TG;have MZ:=hW;obtain ⟨p,q,Tb,hV,rfl,hfz,gV⟩:=hW;have hA:DataW.TrodAll enc Tryz.prog W 0 (fun _=>true) true Tryz.f6.params.toList args.toList ds p:=Tb;rw [Tryz.params6] at hA hval;obtain ⟨v0,V5,d0,ds0,p0,q0,hargs,rfl,rfl,g0,r0⟩:=trodAll_cons hA;obtain ⟨v1,vs1,d1,ds1,p1,q1,rfl,rfl,rfl,g1,r1⟩:=trodAll_cons r0;obtain ⟨v2,vs2,d2,ds2,p2,q2,rfl,rfl,rfl,g2,r2⟩:=trodAll_cons r1;obtain ⟨rfl,rfl,rfl⟩:=trodAll_nil r2
 obtain rfl:args=#[v0,v1,v2]:=by cases args;simp_all
 obtain ⟨rfl,rfl⟩:=trodVars_none hV;have k0:=g0;have lt0:=Lx g0;obtain ⟨x0,h0,ha0,hb0⟩:=LC (hval 0 22 v0 rfl rfl) g0;have k1:=g1;have Tn:=Lx g1;obtain ⟨x1,h1,ha1,hb1⟩:=Lz (hval 1 23 v1 rfl rfl) g1;have k2:=g2;have lt2:=Lx g2;obtain ⟨x2,rfl,rfl,rfl,w2⟩:=open_int Tryz.underlying5 (hval 2 5 v2 rfl rfl) g2;have h2:=bounds_u8 w2;clear Tb TG;refine (Jr W _ _ x0 x1 x2 h0 h1 h2 ha0 hb0 ha1 hb1).mono fun e W' ⟨he,TH⟩=>?_;subst he
 exact ⟨_,rfl,_,_,_,[],_,[],MZ,trodAll_mk1 (shut_bool Tryz.underlying4 _),(trodAll_cons_mk (Below.trod laidOut (by kernel_rfl) (of_decide_eq_true (by kernel_rfl)) k0 TH lt0) (trodAll_cons_mk (Below.trod laidOut (by kernel_rfl) (of_decide_eq_true (by kernel_rfl)) k1 TH Tn) (trodAll_cons_mk (Below.trod laidOut (by kernel_rfl) (of_decide_eq_true (by kernel_rfl)) k2 TH lt2) trodAll_mk0))),rfl,TH.frame _,fun h=>by cases h⟩
theorem dP {a b:Bool} (h1:a=true) (h2:b=true):(a&&b)=true:=by rw [h1,h2];rfl
theorem cf0:(Rows.optimaltreeOrderRow.wf (OpenSpec.ofChange Rows.optimaltreeOrderSpec))=true:=by kernel_rfl
theorem cf1:(laidOutB Tryz.pinned.checked.prog)=true:=by kernel_rfl
theorem cf2:(mapsRowed Tryz.pinned.checked.prog)=true:=by kernel_rfl
theorem cf3:(Tryz.f6.params.all (Tryz.pinned.checked.prog.readableRec ·))=true:=by kernel_rfl
theorem cf4:(namedTie Tryz.pinned.checked.prog Rows.optimaltreeOrderRow.named Rows.optimaltreeOrderSpec.vars)=true:=by kernel_rfl
theorem cf5:((Rows.optimaltreeOrderRow.stops==[]))=true:=by kernel_rfl
theorem cf6:((Tryz.pinned.checked.prog.stops==[]))=true:=by kernel_rfl
theorem cf7:((Rows.optimaltreeOrderRow.knobs==[]))=true:=by kernel_rfl
theorem cf8:((Tryz.pinned.checked.prog.stopKnobs==[]))=true:=by kernel_rfl
theorem cf9:((Rows.optimaltreeOrderRow.inPlace==Tryz.pinned.checked.prog.inPlace 6))=true:=by kernel_rfl
theorem aa5:((Rows.optimaltreeOrderRow.unfollowed==Tryz.pinned.checked.prog.unfollowed 6))=true:=by kernel_rfl
theorem aa6:((Rows.optimaltreeOrderRow.recurses==Tryz.pinned.checked.prog.recurses 6))=true:=by kernel_rfl
theorem aa7:((Rows.optimaltreeOrderRow.named==Tryz.pinned.checked.prog.varsNamed 6))=true:=by kernel_rfl
theorem aa8:((Rows.optimaltreeOrderRow.maps==(Tryz.f6.params.toList++Rows.optimaltreeOrderSpec.plain.varTypes Tryz.pinned.checked.prog).any (Tryz.pinned.checked.prog.mapsRec ·)))=true:=by kernel_rfl
theorem aa9:((Rows.optimaltreeOrderRow.ifaces==(Tryz.f6.params.toList++Rows.optimaltreeOrderSpec.plain.varTypes Tryz.pinned.checked.prog).any (Tryz.pinned.checked.prog.ifacesRec ·)))=true:=by kernel_rfl
theorem aba:((Rows.optimaltreeOrderRow.mapsOut==Tryz.pinned.checked.prog.mapsAmong Tryz.f6.resultTypes.toList))=true:=by kernel_rfl
theorem abb:((Rows.optimaltreeOrderRow.loops==(Tryz.f6.params.toList++Rows.optimaltreeOrderSpec.plain.varTypes Tryz.pinned.checked.prog).any (Tryz.pinned.checked.prog.loopsFrom ·)))=true:=by kernel_rfl
theorem abc:((Rows.optimaltreeOrderRow.wideKeys==(Tryz.f6.params.toList++Rows.optimaltreeOrderSpec.plain.varTypes Tryz.pinned.checked.prog++Tryz.f6.resultTypes.toList).any (Tryz.pinned.checked.prog.wideKeysFrom ·)))=true:=by kernel_rfl
theorem abd:(Rows.optimaltreeOrderSpec.vars.all (Tryz.pinned.checked.prog.varReadable ·))=true:=by kernel_rfl
theorem abe:(Tryz.f6.resultTypes.all (fun t=>Tryz.pinned.checked.prog.readableRec t&&decide (t<Tryz.pinned.checked.prog.types.size)))=true:=by kernel_rfl
theorem abf:((Rows.optimaltreeOrderRow.ifacesOut==Tryz.f6.resultTypes.toList.any (Tryz.pinned.checked.prog.ifacesRec ·)))=true:=by kernel_rfl
theorem abg:((Rows.optimaltreeOrderRow.loopsOut==Tryz.f6.resultTypes.toList.any (Tryz.pinned.checked.prog.loopsFrom ·)))=true:=by kernel_rfl
theorem abh:((Rows.optimaltreeOrderRow.plainKeys==Tryz.pinned.checked.prog.plainKeys))=true:=by kernel_rfl
theorem abj:(Rows.optimaltreeOrderRow.shortTexts.isNone)=true:=by kernel_rfl
theorem abk:(Tryz.pinned.checked.prog.stopsHeard)=true:=by kernel_rfl
theorem abl:(Tryz.pinned.checked.prog.mayEnter)=true:=by kernel_rfl
theorem abm:((Rows.optimaltreeOrderRow.lifted==Tryz.pinned.checked.prog.liftsFinal))=true:=by kernel_rfl
theorem abn:((Tryz.pinned.checked.prog.make==some Rows.optimaltreeOrderRow.make))=true:=by kernel_rfl
theorem abo:((Rows.optimaltreeOrderRow.kinds==(if Rows.optimaltreeOrderRow.domain.isEmpty then [] else Tryz.f6.params.toList.map fun t=>match Tryz.pinned.checked.prog.underlying t with | some (.int k)=>some k | _=>none)))=true:=by kernel_rfl
theorem abp:((Rows.optimaltreeOrderRow.pinned==Rows.optimaltreeOrderRow.pinnedBy))=true:=by kernel_rfl
theorem abq:((Rows.optimaltreeOrderRow.veiled==(Tryz.f6.params.toList++Rows.optimaltreeOrderSpec.plain.varTypes Tryz.pinned.checked.prog++Tryz.f6.resultTypes.toList).any (Tryz.pinned.checked.prog.veiledRec ·)))=true:=by kernel_rfl
theorem abr:(Rows.optimaltreeOrderRow.veiledFits Tryz.pinned.checked.prog Tryz.f6.params.toList (Tryz.f6.params.toList++Rows.optimaltreeOrderSpec.plain.varTypes Tryz.pinned.checked.prog++Tryz.f6.resultTypes.toList))=true:=by kernel_rfl
theorem facts:joinedFacts Tryz.pinned.checked.prog 6 Tryz.f6 Rows.optimaltreeOrderSpec Rows.optimaltreeOrderRow=true:=by
 unfold joinedFacts;exact dP (dP (dP (dP (dP (dP (dP (dP (dP (dP (dP (dP (dP (dP (dP (dP (dP (dP (dP (dP (dP (dP (dP (dP (dP (dP (dP (dP (dP (dP (dP (cf0) cf1) cf2) cf3) cf4) cf5) cf6) cf7) cf8) cf9) aa5) aa6) aa7) aa8) aa9) aba) abb) abc) abd) abe) abf) abg) abh) abj) abk) abl) abm) abn) abo) abp) abq) abr
theorem over:Rows.optimaltreeOrderRow.holds Tryz.pinned (OpenSpec.ofChange Rows.optimaltreeOrderSpec) :=
 OpenClaim.holds_of_wide 6 Tryz.f6 rfl rfl rfl rfl rfl rfl rfl ⟨rfl,rfl,rfl,rfl,rfl⟩ rfl rfl rfl rfl rfl (by kernel_rfl) Tryz.func6 facts
  (of_decide_eq_true (by kernel_rfl)) (by unfold Func.isWrapper;first | (rw [if_pos (by decide +kernel)];kernel_rfl) | (rw [if_neg (by decide +kernel)];exact ⟨rfl,rfl⟩))
  (fun os started H enc _=>lifted os started H enc)
end og
theorem optimaltreeOrder_holds:Rows.OptimaltreeOrderSaid:=og.over
end Go.Proofs.YthgabkgmkolobaaGreat
