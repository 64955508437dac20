/- TopGenealogiesCardSaid: the tied card: for every input the law returns true; each argument reads behind the call as it read before. -/
import Derived.Test.YtfomhlbhcifgbaaGreatDoorCards
import Derived.Test.YtfomhlbhcifgbaaGreatDoorTie
import Derived.LaidMore
import Derived.LaidOnce
import Derived.SevenTiedAt
import Derived.Stop.Joined
import Derived.Test.YtfomhlbhcifgbaaGreatDoorQ50
set_option maxRecDepth 100000
namespace Go.Proofs.YtfomhlbhcifgbaaGreatDoor
namespace oI
open Go.ChangeShapes Go.WideShapes Go.ChangeAt Go.RowKit Go.Deep
set_option linter.unusedVariables false
theorem Ss (os:Os) (args:Array Value):laidMetH Tryz.prog Rows.topGenealogiesRow.laid ((World.doorLaid Tryz.prog 24 os).forCall (fun _ _=>0) ⟨#[],args,[]⟩).memory :=
 laidMetH_of_parts3 (fuel:=8) (laidMet_of_run' 8 (by kernel_rfl) (by kernel_rfl)) (by kernel_rfl) (by kernel_rfl)
theorem lifted (os:Os) (started:os.Started) (H:Type) (enc:TypeId×Value->H) :
  ReturnsInHanded {} Tryz.checked os 3 .any (fun w args=>(Rows.topGenealogiesSpec.pre enc Tryz.prog Tryz.f3 [] false w args/\laidMetH Tryz.prog Rows.topGenealogiesRow.laid w)/\sizedMet enc Tryz.prog Tryz.f3 (OpenSpec.ofChange Rows.topGenealogiesSpec) false w args) (Rows.topGenealogiesSpec.post enc Tryz.prog Tryz.f3 false true false false):=by
 refine returnsInHanded_of_change_and (C:=Tryz.checked) (X:=fun w _=>laidMetH Tryz.prog Rows.topGenealogiesRow.laid w) (fun _ _ _ hh h=>h.of_heap hh) Qf started (by kernel_rfl) Tryz.func3
  (ChangeSpec.witness_shaped (enc:=enc) (C:=Tryz.checked) (os:=os) (X:=fun w _=>laidMetH Tryz.prog Rows.topGenealogiesRow.laid w) false (World.doorLaid Tryz.prog 24 os) #[.slice none 0 0,.slice none 0 0,.int .u8 0,.int .u8 0,.int .u8 0] 8 rfl (World.shaped_of_RefB (by kernel_rfl) (by kernel_rfl)) (by kernel_rfl) (by kernel_rfl) (by kernel_rfl) (Ss os _)) ?_
 intro W base args ds gs before TZ hW _ _ _ _;have hval:∀(j:Nat) t v,Tryz.f3.params[j]? = some t->args[j]? = some v->Value.okWide Tryz.prog W .any base t v:=TZ;have Mq:=hW;obtain ⟨p,q,TB,hV,rfl,hfz,iR⟩:=hW;have hA:DataW.TrodAll enc Tryz.prog W 0 (fun _=>true) true Tryz.f3.params.toList args.toList ds p:=TB;rw [Tryz.params3] at hA hval;obtain ⟨v0,vs0,d0,ds0,p0,q0,hargs,rfl,rfl,g0,r0⟩:=trodAll_cons hA;obtain ⟨v1,vs1,d1,ds1,p1,q1,rfl,rfl,rfl,g1,r1⟩:=trodAll_cons r0;obtain ⟨v2,vs2,d2,ds2,p2,q2,rfl,rfl,rfl,g2,r2⟩:=trodAll_cons r1
 obtain ⟨v3,vs3,d3,ds3,p3,q3,rfl,rfl,rfl,g3,r3⟩:=trodAll_cons r2;obtain ⟨v4,vs4,d4,ds4,p4,q4,rfl,rfl,rfl,g4,r4⟩:=trodAll_cons r3;obtain ⟨rfl,rfl,rfl⟩:=trodAll_nil r4;obtain rfl:args=#[v0,v1,v2,v3,v4]:=by cases args;simp_all
 obtain ⟨rfl,rfl⟩:=trodVars_none hV;have k0:=g0;have lt0:=BB g0;obtain ⟨x0,h0,ha0,hb0⟩:=Ld (hval 0 22 v0 rfl rfl) g0;have k1:=g1;have Io:=BB g1;obtain ⟨x1,h1,ha1,hb1⟩:=K9 (hval 1 23 v1 rfl rfl) g1;have k2:=g2;have lt2:=BB g2;obtain ⟨x2,rfl,rfl,rfl,w2⟩:=open_int Tryz.underlying5 (hval 2 5 v2 rfl rfl) g2;have h2:=bounds_u8 w2;have k3:=g3;have lt3:=BB g3;obtain ⟨x3,rfl,rfl,rfl,w3⟩:=open_int Tryz.underlying5 (hval 3 5 v3 rfl rfl) g3;have h3:=bounds_u8 w3;have k4:=g4;have lt4:=BB g4;obtain ⟨x4,rfl,rfl,rfl,w4⟩:=open_int Tryz.underlying5 (hval 4 5 v4 rfl rfl) g4
 have h4:=bounds_u8 w4;clear TB TZ;refine (Py W _ _ x0 x1 x2 x3 x4 h0 h1 ha0 hb0 ha1 hb1 h2.1 h2.2 h3.1 h3.2 h4.1 h4.2).mono fun e W' ⟨he,lq⟩=>?_;subst he
 exact ⟨_,rfl,_,_,_,[],_,[],Mq,trodAll_mk1 (shut_bool Tryz.underlying4 _),(trodAll_cons_mk (Below.trod laidOut (by kernel_rfl) (of_decide_eq_true (by kernel_rfl)) k0 lq lt0) (trodAll_cons_mk (Below.trod laidOut (by kernel_rfl) (of_decide_eq_true (by kernel_rfl)) k1 lq Io) (trodAll_cons_mk (Below.trod laidOut (by kernel_rfl) (of_decide_eq_true (by kernel_rfl)) k2 lq lt2) (trodAll_cons_mk (Below.trod laidOut (by kernel_rfl) (of_decide_eq_true (by kernel_rfl)) k3 lq lt3) (trodAll_cons_mk (Below.trod laidOut (by kernel_rfl) (of_decide_eq_true (by kernel_rfl)) k4 lq lt4) trodAll_mk0))))),rfl,lq.frame _,fun h=>by cases h⟩
theorem dG {a b:Bool} (h1:a=true) (h2:b=true):(a&&b)=true:=by rw [h1,h2];rfl
theorem cf0:(Rows.topGenealogiesRow.wf (OpenSpec.ofChange Rows.topGenealogiesSpec))=true:=by kernel_rfl
theorem cf1:(laidOutB Tryz.pinned.checked.prog)=true:=by kernel_rfl
theorem cf2:(mapsRowed Tryz.pinned.checked.prog)=true:=by kernel_rfl
theorem cf3:(Tryz.f3.params.all (Tryz.pinned.checked.prog.readableRec ·))=true:=by kernel_rfl
theorem cf4:(namedTie Tryz.pinned.checked.prog Rows.topGenealogiesRow.named Rows.topGenealogiesSpec.vars)=true:=by kernel_rfl
theorem cf5:((Rows.topGenealogiesRow.stops==[]))=true:=by kernel_rfl
theorem cf6:((Tryz.pinned.checked.prog.stops==[]))=true:=by kernel_rfl
theorem cf7:((Rows.topGenealogiesRow.knobs==[]))=true:=by kernel_rfl
theorem cf8:((Tryz.pinned.checked.prog.stopKnobs==[]))=true:=by kernel_rfl
theorem cf9:((Rows.topGenealogiesRow.inPlace==Tryz.pinned.checked.prog.inPlace 3))=true:=by kernel_rfl
theorem abb:((Rows.topGenealogiesRow.unfollowed==Tryz.pinned.checked.prog.unfollowed 3))=true:=by kernel_rfl
theorem abc:((Rows.topGenealogiesRow.recurses==Tryz.pinned.checked.prog.recurses 3))=true:=by kernel_rfl
theorem abd:((Rows.topGenealogiesRow.named==Tryz.pinned.checked.prog.varsNamed 3))=true:=by kernel_rfl
theorem abe:((Rows.topGenealogiesRow.maps==(Tryz.f3.params.toList++Rows.topGenealogiesSpec.plain.varTypes Tryz.pinned.checked.prog).any (Tryz.pinned.checked.prog.mapsRec ·)))=true:=by kernel_rfl
theorem abf:((Rows.topGenealogiesRow.ifaces==(Tryz.f3.params.toList++Rows.topGenealogiesSpec.plain.varTypes Tryz.pinned.checked.prog).any (Tryz.pinned.checked.prog.ifacesRec ·)))=true:=by kernel_rfl
theorem abg:((Rows.topGenealogiesRow.mapsOut==Tryz.pinned.checked.prog.mapsAmong Tryz.f3.resultTypes.toList))=true:=by kernel_rfl
theorem abh:((Rows.topGenealogiesRow.loops==(Tryz.f3.params.toList++Rows.topGenealogiesSpec.plain.varTypes Tryz.pinned.checked.prog).any (Tryz.pinned.checked.prog.loopsFrom ·)))=true:=by kernel_rfl
theorem abj:((Rows.topGenealogiesRow.wideKeys==(Tryz.f3.params.toList++Rows.topGenealogiesSpec.plain.varTypes Tryz.pinned.checked.prog++Tryz.f3.resultTypes.toList).any (Tryz.pinned.checked.prog.wideKeysFrom ·)))=true:=by kernel_rfl
theorem abk:(Rows.topGenealogiesSpec.vars.all (Tryz.pinned.checked.prog.varReadable ·))=true:=by kernel_rfl
theorem abl:(Tryz.f3.resultTypes.all (fun t=>Tryz.pinned.checked.prog.readableRec t&&decide (t<Tryz.pinned.checked.prog.types.size)))=true:=by kernel_rfl
theorem abm:((Rows.topGenealogiesRow.ifacesOut==Tryz.f3.resultTypes.toList.any (Tryz.pinned.checked.prog.ifacesRec ·)))=true:=by kernel_rfl
theorem abn:((Rows.topGenealogiesRow.loopsOut==Tryz.f3.resultTypes.toList.any (Tryz.pinned.checked.prog.loopsFrom ·)))=true:=by kernel_rfl
theorem abo:((Rows.topGenealogiesRow.plainKeys==Tryz.pinned.checked.prog.plainKeys))=true:=by kernel_rfl
theorem abp:(Rows.topGenealogiesRow.shortTexts.isNone)=true:=by kernel_rfl
theorem abq:(Tryz.pinned.checked.prog.stopsHeard)=true:=by kernel_rfl
theorem abr:(Tryz.pinned.checked.prog.mayEnter)=true:=by kernel_rfl
theorem abt:((Rows.topGenealogiesRow.lifted==Tryz.pinned.checked.prog.liftsFinal))=true:=by kernel_rfl
theorem abu:((Tryz.pinned.checked.prog.make==some Rows.topGenealogiesRow.make))=true:=by kernel_rfl
theorem abv:((Rows.topGenealogiesRow.kinds==(if Rows.topGenealogiesRow.domain.isEmpty then [] else Tryz.f3.params.toList.map fun t=>match Tryz.pinned.checked.prog.underlying t with | some (.int k)=>some k | _=>none)))=true:=by kernel_rfl
theorem abw:((Rows.topGenealogiesRow.pinned==Rows.topGenealogiesRow.pinnedBy))=true:=by kernel_rfl
theorem abx:((Rows.topGenealogiesRow.veiled==(Tryz.f3.params.toList++Rows.topGenealogiesSpec.plain.varTypes Tryz.pinned.checked.prog++Tryz.f3.resultTypes.toList).any (Tryz.pinned.checked.prog.veiledRec ·)))=true:=by kernel_rfl
theorem aby:(Rows.topGenealogiesRow.veiledFits Tryz.pinned.checked.prog Tryz.f3.params.toList (Tryz.f3.params.toList++Rows.topGenealogiesSpec.plain.varTypes Tryz.pinned.checked.prog++Tryz.f3.resultTypes.toList))=true:=by kernel_rfl
theorem facts:joinedFacts Tryz.pinned.checked.prog 3 Tryz.f3 Rows.topGenealogiesSpec Rows.topGenealogiesRow=true:=by
 unfold joinedFacts;exact dG (dG (dG (dG (dG (dG (dG (dG (dG (dG (dG (dG (dG (dG (dG (dG (dG (dG (dG (dG (dG (dG (dG (dG (dG (dG (dG (dG (dG (dG (dG (cf0) cf1) cf2) cf3) cf4) cf5) cf6) cf7) cf8) cf9) abb) abc) abd) abe) abf) abg) abh) abj) abk) abl) abm) abn) abo) abp) abq) abr) abt) abu) abv) abw) abx) aby
theorem over:Rows.topGenealogiesRow.holds Tryz.pinned (OpenSpec.ofChange Rows.topGenealogiesSpec) :=
 OpenClaim.holds_of_wide 3 Tryz.f3 rfl rfl rfl rfl rfl rfl rfl ⟨rfl,rfl,rfl,rfl,rfl⟩ rfl rfl rfl rfl rfl (by kernel_rfl) Tryz.func3 facts
  (of_decide_eq_true (by kernel_rfl)) (by unfold Func.isWrapper;first | (rw [if_pos (by decide +kernel)];kernel_rfl) | (rw [if_neg (by decide +kernel)];exact ⟨rfl,rfl⟩))
  (fun os started H enc _=>lifted os started H enc)
theorem plain (f:FuncId) (fn:Func) (hf:Tryz.pinned.checked.prog.funcNamed "apograph/apographtop.TopGenealogies" = some f) (hfn:Tryz.pinned.checked.prog.funcs[f]? = some fn) :
  false=Tryz.pinned.checked.prog.looks []/\∀(j:Nat) t,fn.params[j]? = some t->Tryz.pinned.checked.prog.wantsStandIn t=false:=by
 obtain rfl:f=3:=Option.some.inj ((show Tryz.prog.funcNamed "apograph/apographtop.TopGenealogies" = some 3 by kernel_rfl).symm.trans hf) |>.symm;obtain rfl:fn=Tryz.f3:=(Option.some.inj (Tryz.func3.symm.trans hfn)).symm;refine ⟨by kernel_rfl,fun j t ht=>?_⟩;rw [Tryz.params3] at ht;have hm:t∈[22,23,5,5,5]:=by simpa using Array.mem_of_getElem? ht
 have hall:([22,23,5,5,5].all fun u=>!Tryz.prog.wantsStandIn u)=true:=by kernel_rfl
 exact (show Tryz.prog.wantsStandIn t=false by simpa using sF.1 hall t hm)
theorem card:Rows.TopGenealogiesCardSaid :=
 Claim7.holds_tied_plain_at .later [] _ _ _ _ over (fun _ h=>by cases h) (by kernel_rfl) (fun _ h=>by cases h) topGenealogies_row_tie rfl ⟨rfl,rfl⟩ (by kernel_rfl) rfl plain (by kernel_rfl)
end oI
theorem topGenealogiesCard_holds:Rows.TopGenealogiesCardSaid:=oI.card
end Go.Proofs.YtfomhlbhcifgbaaGreatDoor
