/- The walk of TopGenealogies. -/
import Derived.Test.YtfomhlbhcifgbaaGreatDoorQ49
set_option maxRecDepth 100000
set_option maxHeartbeats 8000000
namespace Go.Proofs.YtfomhlbhcifgbaaGreatDoor
open Go.RowKit Go.Deep
theorem Pw {acF:List ByteArray} (hn:iE acF) {t:aA} (ht:t∈allT acF) (i:Nat):(gs t.ns i).size<=70000:=by
 obtain ⟨_,q,hq,rfl⟩:=ri hn ht;exact pM (iX hn hq).1.good i
theorem Px (t:aA) (acF:List ByteArray) (acG:List (List Int)) (p:Nat):eZ t.ps.length t.ps.length=(iF t acF acG p 0).map (Value.int .i64):=by
 rw [Pr,List.map_replicate];refine qJ (by simp [eZ]) fun j h1 h2=>?_;simp [eZ,E4];rw [jV] at h1;exact h1
theorem Sj {base:Nat} {w:World} {g N:Nat} (h:w.heap[g]? = some (.cells (eZ N N).toArray 3 (0,0))) (hb:base<=g) (hN:N<=1000):au base 3 w (.slice (some ⟨g,0,none⟩) N N) (eZ N N):=by
 refine ⟨by simp,.inr ⟨g,N,(eZ N N).toArray,by rw [jV],hb,h,?_,?_,?_,?_⟩⟩
 ·rw [jV];exact aj _
 ·unfold maxLen;omega
 ·simp [jV]
 ·rw [Nat.mul_one,gq]
theorem JA {base m:Nat} {T:TypeId} {w W:World} {d u:Value} {xs:List (List Int)} {y:List Int} (h:iG base T w d xs) (hm:w.heap.size<=m) (hr:af (fun b=>m<=b) W u y):af (fun b=>some b≠d.ownBlock) W u y:=by
 obtain ⟨vals,_,ho,_⟩:=h;exact hr.sub fun b hb _ e=>by have:=(az ho e.symm).2;omega
theorem L6 {S:Nat->Prop} {w:World} {p:Option Addr} {n cap:Nat} {xs:List Bool} (h:BC S w (.slice p n cap) xs) {k:Nat} (hk:k<xs.length):∃b off,p=some ⟨b,off,none⟩/\w.cell? ⟨b,off+k,none⟩=some (.bool (MI xs k)):=by
 obtain ⟨q,c,e,_,H⟩:=aB.open h;injection e with e1;subst e1;exact H k hk
theorem Vf {t:aA} {i:Nat} (h:i<t.ps.length):MI (dm t) i=decide ((gs t.ns i).size≠0):=by
 unfold MI dm;rw [mN,iJ,List.getElem?_range h];rfl
theorem pQ {W:World} {B n:Nat} {v:Value} {f:Nat->Value} {T:TypeId} (h:aB Any W v n f) (hb:W.heap[B]? = some (Obj.cells #[.slice none 0 0,.slice none 0 0,.slice none 0 0] T (0,0))) (hne:n=0\/∃k,k<n/\f k≠.slice none 0 0):aB (fun b=>b≠B) W v n f:=by
 obtain ⟨p,c,e,hc,h⟩:=h;refine ⟨p,c,e,hc,?_⟩;rcases hne with h0 | ⟨k,hk,hf⟩
 ·exact .inl h0
 rcases h with h | ⟨b,off,e2,_,h⟩
 ·exact .inl h
 ·refine .inr ⟨b,off,e2,fun eb=>?_,h⟩
  subst eb;have h1:=h k hk;simp only [World.cell?,hb] at h1;refine hf ?_;generalize off+k=o at h1
  match o,h1 with
  | 0,h1=>simp at h1;exact h1.symm
  | 1,h1=>simp at h1;exact h1.symm
  | 2,h1=>simp at h1;exact h1.symm
  | o+3,h1=>simp at h1
theorem EY {W:World} {B:Nat} {v:Value} {s:kI} {T:TypeId} (h:aP Any W v s) (hb:W.heap[B]? = some (Obj.cells #[.slice none 0 0,.slice none 0 0,.slice none 0 0] T (0,0))) (hk:∃k,k<s.P.length/\gl s.P k≠[]):aP (fun b=>b≠B) W v s:=by
 obtain ⟨a,b,c,e,h1,h2,f,h3,h4⟩:=h;refine ⟨a,b,c,e,pQ h1 hb ?_,pQ h2 hb ?_,f,pQ h3 hb (.inr ?_),fun k hk=>pQ (h4 k hk) hb ?_⟩
 ·by_cases h0:s.ns.length=0
  ·exact .inl h0
  ·exact .inr ⟨0,by omega,fun e=>by cases e⟩
 ·by_cases h0:s.bs.length=0
  ·exact .inl h0
  ·exact .inr ⟨0,by omega,fun e=>by cases e⟩
 ·obtain ⟨k,hk,hg⟩:=hk
  refine ⟨k,hk,fun e=>hg ?_⟩;obtain ⟨p,c,e2,_,_⟩:=h4 k hk;rw [e2] at e;injection e with _ e3 _;exact A3.1 e3
 ·by_cases h0:(gl s.P k).length=0
  ·exact .inl h0
  ·exact .inr ⟨0,by omega,fun e=>by cases e⟩
structure A0 (B:Nat) (W:World) (s:kI) (n:Nat):Prop where
 ex:∃np nc bp bc pp pc,W.heap[B]? = some (Obj.cells #[.slice np n nc,.slice bp n bc,.slice pp n pc] 36 (0,0))/\aP Any W (.agg #[.slice np n nc,.slice bp n bc,.slice pp n pc]) s
theorem A0.Sk {w2:World} {s:kI} {np bp pp:Option Addr} {n nc bc pc:Nat} (hT:aP Any w2 (.agg #[.slice np n nc,.slice bp n bc,.slice pp n pc]) s):A0 w2.heap.size (w2.alloc (.cells #[.slice np n nc,.slice bp n bc,.slice pp n pc] 36)) s n :=
 ⟨np,nc,bp,bc,pp,pc,fQ _ _ _ _ _,hT.keep ((Up.alloc w2 _).kept _)⟩
theorem A0.Sl {w4:World} {B:Nat} {s:kI} {np bp pp:Option Addr} {n nc bc pc:Nat} (hb:w4.heap[B]? = some (Obj.cells #[.slice none 0 0,.slice none 0 0,.slice none 0 0] 36 (0,0))) (hT:aP Any w4 (.agg #[.slice np n nc,.slice bp n bc,.slice pp n pc]) s) (hk:∃k,k<s.P.length/\gl s.P k≠[]) :
  A0 B (((w4.setCell ⟨B,0,none⟩ (.slice np n nc)).setCell ⟨B,1,none⟩ (.slice bp n bc)).setCell ⟨B,2,none⟩ (.slice pp n pc)) s n:=by
 refine ⟨np,nc,bp,bc,pp,pc,vM hb,((EY hT hb hk).keep fun b hb _=>?_).sub fun _ _ _=>trivial⟩;rw [blk_setCell_other _ _ _ _ hb,blk_setCell_other _ _ _ _ hb,blk_setCell_other _ _ _ _ hb]
theorem L8 {P:List (List Int)} {c p:Nat} (h:dw P c p):∃k,k<(bk P c p).length/\gl (bk P c p) k≠[]:=by
 refine ⟨c,by rw [iq];exact h.1,?_⟩;rw [qZ h.1,if_pos rfl];intro e;have h1:=congrArg List.length e;rw [pY] at h1;simp at h1
theorem JB (b:xd):∃A B L H:Int,zh b=.tuple #[.int .i64 A,.int .i64 B,.int .i64 L,.int .i64 H]/\((b.f=true/\A=b.c/\B=b.p/\L=b.n/\H=0)\/(b.f=false/\H=6)):=by
 unfold zh;cases hf:b.f
 ·exact ⟨0,0,0,6,rfl,.inr ⟨rfl,rfl⟩⟩
 ·exact ⟨_,_,_,_,rfl,.inl ⟨rfl,rfl,rfl,rfl,rfl⟩⟩
@[go_sem high] theorem ZA (w:World) (ts:Array TypeId) (t:TypeId) (k:IntKind):(Builtin.max_ ts t #[.int k 0,.int k 0,.int k 0]).run Tryz.prog w=.ok (.int k 0) w:=by
 simp [Builtin.max_,Builtin.max2]
theorem Py (w:World) (v vs:Value) (acF:List ByteArray) (acG:List (List Int)) (x y z:Int) (h:aC Any w v acF) (hS:aS Any w vs acG)
  (hn:acF.length<=9223372036854775807) (hz:∀k,(gs acF k).size<=9223372036854775807) (hm:acG.length<=9223372036854775807) (hr:∀k,(gl acG k).length<=9223372036854775807) (hx0:0<=x) (hx1:x<=255) (hy0:0<=y) (hy1:y<=255) (hz0:0<=z) (hz1:z<=255) :
  Calls Tryz.prog 3 #[v,vs,.int .u8 x,.int .u8 y,.int .u8 z] w fun e w'=>e=.returned (.bool true)/\Up w w':=by
 obtain ⟨p,cap,rfl,hcap,-⟩:=aB.open h;have h:aC Any w (.slice p acF.length cap) acF:=h;obtain ⟨sp,sc,rfl,-,-⟩:=eE hS;have zG:=aa (Pb Any Any w _ _ acF acG h hS hn hz hm hr);have yO:Hid (∀W,Calls Tryz.prog 6 #[] W fun e w'=>e=.returned (.bool true)/\Up W w'):=Ph;have fo:Hid (kA acF acG=false->Calls Tryz.prog 5 #[.slice sp acG.length sc] w fun e w'=>e=.returned (.int .i64 (eo acG))/\QD w w'):=fun hg =>
  Le Any w _ acG hS (by have:=(nJ hg).m10;omega) (fun k=>by have:=(nJ hg).IX.2.1 k;omega)
 have Ac:Hid (kA acF acG=false->∀W,Up w W->Calls Tryz.prog 7 #[.slice p acF.length cap,.slice sp acG.length sc] W (wJ W acF acG)):=fun hg W hW =>
  Si Any W _ _ acF acG (aC.keep h (hW.kept _)) (by have:=(nJ hg).IX;omega) (fun k=>by have:=(nJ hg).nm k;omega) (aS.keep hS (hW.kept _)) (by have:=(nJ hg).m10;omega) (fun k=>by have:=(nJ hg).IX.2.1 k;omega) (nJ hg).IX.2.2
 have xN:Hid (kA acF acG=false->fG acF acG=0->lG acF acG):=fun hg=>Cj (nJ hg).IX.2.2;have HH:=aa h;have HS:=aa hS;obtain ⟨c,rfl⟩:=o7 hx0;obtain ⟨d,rfl⟩:=o7 hy0;obtain ⟨f,rfl⟩:=o7 hz0;clear h hS hz hr hn hm;go_in;by_cases h4:4<acF.length
 ·have i4:(4:Int)<(acF.length:Int):=by omega
  have d4:decide ((4:Int)<(acF.length:Int))=true:=decide_eq_true i4;clear h4;go_wp2_with fail;refine (yO.out _).mono ?_;rintro e w' ⟨rfl,iC⟩;go_wp2;go_ret;exact ⟨rfl,iC⟩
 have i4:¬(4:Int)<(acF.length:Int):=by omega
 have d4:decide ((4:Int)<(acF.length:Int))=false:=decide_eq_false i4;have H4:Hid (acF.length<=4):=by show acF.length<=4;omega
 clear h4;go_wp2_with fail;refine zG.out.mono ?_;rintro e w1 ⟨rfl,rfl⟩;cases hg:kA acF acG
 case true =>clear zG fo Ac xN hg;go_wp2_with fail;refine (yO.out _).mono ?_;rintro e w' ⟨rfl,iC⟩;go_wp2;go_ret;exact ⟨rfl,iC⟩
 replace fo:=aa (fo.out hg);replace Ac:=aa (Ac.out hg);replace xN:=aa (xN.out hg);clear hg zG;go_wp2_with fail;refine fo.out.mono ?_;rintro e w1 ⟨rfl,hq⟩;have bU:=aa hq.up;clear hq fo;by_cases ha:eo acG=0
 case neg =>
  have d5:(eo acG != 0)=true:=by simpa using ha
  clear ha;generalize eo acG=ag at *;go_wp2_with fail;refine (yO.out _).mono ?_;rintro e w' ⟨rfl,iC⟩;go_wp2;go_ret;exact ⟨rfl,bU.out.trans iC⟩
 rw [ha];by_cases hl:acG.length=acF.length
 case neg =>
  have d5:((acG.length:Int) != (acF.length:Int))=true:=by simp;omega
  clear ha hl;go_wp2_with fail;refine (yO.out _).mono ?_;rintro e w' ⟨rfl,iC⟩;go_wp2;go_ret;exact ⟨rfl,bU.out.trans iC⟩
 have d5:((acG.length:Int) != (acF.length:Int))=false:=by simp [hl]
 have hs0:=(B8 ha).1;have jB:=aa (aS.keep HS.out (bU.out.kept _));obtain ⟨sb,so,r0,r1,rfl,hc0,-⟩:=dV jB.out hs0;rw [Nat.add_zero] at hc0;have i1:(0:Int)<(acG.length:Int):=by omega
 have zR:=aa (B8 ha);have zl:=aa hl;clear ha hl hs0;by_cases h5:4<(gl acG 0).length
 case pos =>
  have i5:(4:Int)<((gl acG 0).length:Int):=by omega
  have d6:decide ((4:Int)<((gl acG 0).length:Int))=true:=decide_eq_true i5;clear h5;go_wp2_with fail;refine (yO.out _).mono ?_;rintro e w' ⟨rfl,iC⟩;go_wp2;go_ret;exact ⟨rfl,bU.out.trans iC⟩
 have i5:¬(4:Int)<((gl acG 0).length:Int):=by omega
 have d6:decide ((4:Int)<((gl acG 0).length:Int))=false:=decide_eq_false i5;have HM4:Hid ((gl acG 0).length<=4):=by show _<=4;omega
 clear h5;go_wp2_with fail;refine (Ac.out w1 bU.out).mono ?_;rintro e w2 ⟨aK,v2,rfl,ht2⟩;have bF:=aa (bU.out.trans aK);clear hc0 d6 i5 d4 i4 d5 i1;by_cases hce:fG acF acG=0
 case neg =>
  have d7:(fG acF acG != 0)=true:=by simpa using hce
  obtain ⟨p2,c2,rfl,-⟩:=Cq ht2;clear hce ht2 aK Ac xN;generalize fG acF acG=ce at *;generalize zi acF acG=bn at *;go_wp2_with fail;refine (yO.out _).mono ?_;rintro e w' ⟨rfl,iC⟩;go_wp2;go_ret;exact ⟨rfl,bF.out.trans iC⟩
 have HC:=aa (xN.out hce);have NP:zi acF acG=dY acF acG:=by unfold zi;rw [if_pos hce]
 have hbl:Cr acF acG=eY acF acG:=by unfold Cr;rw [if_pos hce]
 rw [hce,NP];rw [hbl] at ht2;clear hce NP hbl xN Ac;obtain ⟨hb0,hb1,-⟩:=Dm HC.out;obtain ⟨p2,c2,rfl,-⟩:=Cq ht2;obtain ⟨k,hk⟩:∃k,k=c % (eY acF acG).length:=⟨_,rfl⟩;have kG:k<(eY acF acG).length:=by rw [hk];exact Nat.mod_lt _ hb0
 have TV:(c:Int).tmod ((eY acF acG).length:Int)=(k:Int):=by rw [Int.tmod_eq_emod_of_nonneg (by omega),hk];push_cast;rfl
 have aa1:(c:Int) % ((eY acF acG).length:Int)=(k:Int):=by rw [hk];push_cast;rfl
 obtain ⟨tb,to',pp,pc,np,nc,rfl,q0,q1,hT⟩:=O8 ht2 kG;have HG:=aa (Z9 HC.out H4.out HM4.out kG);have hkk:(k:Int)<((eY acF acG).length:Int):=by omega
 have aa2:(k:Int)<16:=by omega
 have hl0:((eY acF acG).length:Int)≠0:=by omega
 have d0:(((eY acF acG).length:Int)==0)=false:=beq_eq_false_iff_ne.2 hl0;have hne:(eY acF acG=[])=False:=by simp;intro e;rw [e] at hb0;simp at hb0
 have hwd:IntKind.i64.wrap (c:Int)=(c:Int):=IntWalk.i64_in _ (by omega);have hsz:=Pw HC.out.nm ((Dm HC.out).2.2 k kG).1;generalize gt (eY acF acG) k=t at *;have fW:=aa hsz;have nU:=Up.alloc w2 (.cells #[.slice pp t.ps.length pc,.slice np t.ns.length nc] 33);have HT:=aa (aJ.keep hT (nU.kept _));have hx0':=mC w2 (.slice pp t.ps.length pc) (.slice np t.ns.length nc) 33;have aa3:=mD w2 (.slice pp t.ps.length pc) (.slice np t.ns.length nc) 33;have jA:=aa (bF.out.trans nU);clear ht2 hT nU hk kG hsz hb0 hb1 aK;go_wp2_with fail
 have Cg:=aa (BH Any _ _ t HT.out HG.out.of.te HG.out.hi fW.out);generalize w2.alloc (.cells #[.slice pp t.ps.length pc,.slice np t.ns.length nc] 33)=w3 at *;refine Cg.out.mono ?_;rintro e w4 ⟨eB,⟨hdp,rfl⟩ | ⟨hdp,v4,rfl,hst⟩⟩
 ·have gF:=aa (jA.out.trans eB)
  clear eB hdp Cg;go_wp2_with fail;refine (yO.out _).mono ?_;rintro e w' ⟨rfl,iC⟩;go_wp2;go_ret;exact ⟨rfl,(gF.out.trans (Up.alloc _ _)).trans iC⟩
 have yM:=aa (HG.out.stm hdp);have Kj:Hid (∀c p,dw (aH t) c p->fD (bI t) (bk (aH t) c p)):=fun c p he=>HG.out.ext hdp he;have Pz:Hid ((dm t).length=(bI t).length):=by show _=_;rw [gu,di]
 obtain ⟨ap,ac,bp,bc,cp,cc,rfl,kL,PA,nC⟩:=aP.open hst;dsimp only at hst kL PA ⊢;rw [di,gu,cG] at hst ⊢;rw [di] at kL;rw [gu] at PA;obtain ⟨n,hn⟩:∃n,n=t.ps.length:=⟨_,rfl⟩;rw [<- hn] at hst kL PA ⊢;have HN:=aa hn;have n1:1<=n:=by have:=HG.out.lo;omega
 have n7:n<=7:=by have:=HG.out.hi;omega
 have hal:=Up.alloc w4 (.cells #[.slice ap n ac,.slice bp n bc,.slice cp n cc] 36);have hx:=fQ w4 (.slice ap n ac) (.slice bp n bc) (.slice cp n cc) 36;have HX:=aa hx;have HST:=aa (hst.keep (hal.kept _));have sV:=aa (aC.keep kL (hal.kept _));have xT:Hid (BC Any _ (.slice bp n bc) (dm t)):=aB.keep PA (hal.kept _);have gU:=aa ((jA.out.trans eB).trans hal);have Zh:=aS.keep HS.out (gU.out.kept _);obtain ⟨sb2,so2,r2,r3,er,hc0,-⟩:=dV Zh zR.out.1;injection er with er;injection er with OJ OL;subst OJ;subst OL;rw [Nat.add_zero] at hc0
 have i1:(0:Int)<(acG.length:Int):=by have:=zR.out.1;omega
 have xX:=aa Zh;have HH5:=aa (aC.keep HH.out (gU.out.kept _));clear hn hst hal hx eB kL PA nC hdp Cg HT jA Zh;go_wp2_with fail;generalize w4.alloc (.cells #[.slice ap n ac,.slice bp n bc,.slice cp n cc] 36)=w5 at *;clear hc0 hx0' aa3 q0 q1 TV aa1 hkk aa2 hl0 d0 hne hwd;have l4:(gl acG 0).length<=4:=HM4.out
 go_loopw [17,18,19,20,21,22,110,121] (fun l _ _ _ _ _ i _ wr=>∃q:Nat,q<=(gl acG 0).length/\i=.int .i64 q/\Hid (iG w5.heap.size 27 wr l ((gG t acF acG).take q))/\Hid (Up w5 wr)) (fun _ _ _ _ _ _ i _ _=>(gl acG 0).length - (intOf i).toNat)
 case atStart=>exact ⟨0,bg _,rfl,iG.nil _ _ _,Up.refl _⟩
 case round =>
  obtain ⟨q,hq,rfl,hL,hU⟩:=hrel;obtain ⟨wo,rfl⟩:=e9 wr;by_cases hlt:q<(gl acG 0).length
  ·have j1:(q:Int)<((gl acG 0).length:Int):=by omega
   (have j2:(q:Int)<8:=by omega);have bf:=aa hlt;have iC:=Up.alloc wo (.cells #[.int .i64 (-1)] 3);obtain ⟨x0,x1,x2,-,-,-⟩:=aQ ((aO (hU.out.trans iC) _ (bq.1 HX.out).1).trans HX.out);have M0:=aa (F0 _ wo.heap.size 0 n n1 (by omega) (mE wo (.int .i64 (-1)) 3));have HUA:=aa iC;clear hlt iC x1 x2;go_wp2_with fail;refine M0.out.mono ?_;rintro e w6 ⟨g,rfl,hg,iu,hgb⟩;have Cm:=aa (HUA.out.trans iu)
   (have HO6:Hid (au wo.heap.size 3 w6 (.slice (some ⟨g,0,none⟩) n n) ((iF t acF acG q 0).map (Value.int .i64))):=by unfold Hid;rw [<- Px,<- HN.out];exact Sj hgb (by rw [aN] at hg;omega) (by omega));obtain ⟨x0',x1,x2,-,-,-⟩:=aQ ((aO (hU.out.trans Cm.out) _ (bq.1 HX.out).1).trans HX.out);clear x0 hg iu hgb M0 HUA x1 x2;go_wp2_with fail;clear x0'
   go_loopw [20,21,22,121] (fun _ _ _ i wr=>∃m:Nat,m<=n/\i=.int .i64 m/\Hid (au wo.heap.size 3 wr (.slice (some ⟨g,0,none⟩) n n) ((iF t acF acG q m).map (Value.int .i64)))/\Hid (Up wo wr)) (fun _ _ _ i _=>n - (intOf i).toNat)
   case atStart=>exact ⟨0,bg _,rfl,HO6.out,Cm.out⟩
   case round =>
    obtain ⟨m,hm,rfl,hO,gD⟩:=hrel;obtain ⟨wi,rfl⟩:=e9 wr;by_cases hlm:m<n
    ·have s5:m<t.ps.length:=by rw [<- HN.out];exact hlm
     have kK:=hU.out.trans gD.out;obtain ⟨nb,no,rfl,dZ⟩:=fI (aC.keep sV.out (kK.kept _)) (k:=m) (by rw [di];exact s5);rw [uA s5] at dZ;have rH:=aa (tU Any wi _ acF.length (gs acF) (mF t m) (aC.keep HH5.out (kK.kept _)) (by have:=H4.out;omega));have Zi:bZ (fun j=>decide (mF t m=gs acF j)) acF.length=kr acF (mF t m):=rfl;rw [Zi] at rH;obtain ⟨x0,x1,x2,-,-,-⟩:=aQ ((aO kK _ (bq.1 HX.out).1).trans HX.out)
     obtain ⟨bb,bo,rfl,hcb⟩:=L6 (aB.keep xT.out (kK.kept _)) (k:=m) (by rw [gu];exact s5);rw [Vf s5] at hcb;(have m1:(m:Int)<(n:Int):=by omega);(have m2:(m:Int)<8:=by omega);have wR:=aa hlm;(have hx:mF t m=if (gs t.ns m).size=0 then ⟨(120::Lib.decDigits m).toArray⟩ else gs t.ns m:=rfl);by_cases h0:(gs t.ns m).size=0
     ·have kO:Hid (iF t acF acG q (m+1)=iF t acF acG q m):=Pt (Cn s5 h0)
      (have d0:decide ((gs t.ns m).size≠0)=false:=by simp [h0]);rw [d0] at hcb;clear h0 d0 hx Zi s5 kK hlm;generalize mF t m=X at *;generalize kr acF X=fx at *;by_cases hfx:0<=fx
      ·have e1:decide ((0:Int)<=fx)=true:=decide_eq_true hfx
       go_wp2_with fail;refine rH.out.mono ?_;rintro e w' ⟨rfl,rfl⟩;go_wp2
       go_roundw
       case rel=>exact ⟨m+1,wR.out,by go_num,by rw [kO.out];exact hO.out,gD.out⟩
       case measure=>have:=wR.out;simp [intOf];omega
      ·have e1:decide ((0:Int)<=fx)=false:=decide_eq_false hfx
       go_wp2_with fail;refine rH.out.mono ?_;rintro e w' ⟨rfl,rfl⟩;go_wp2
       go_roundw
       case rel=>exact ⟨m+1,wR.out,by go_num,by rw [kO.out];exact hO.out,gD.out⟩
       case measure=>have:=wR.out;simp [intOf];omega
     ·obtain ⟨kk,hk1,hk2,hk3⟩:=EL (p:=q) HC.out HG.out.of s5 h0
      (have kO:Hid (iF t acF acG q (m+1)=(iF t acF acG q m).set m (gi (gl acG kk) q)):=by unfold Hid;rw [I6,hk3]);(have d0:decide ((gs t.ns m).size≠0)=true:=by simp [h0]);rw [d0] at hcb;rw [if_neg h0] at hx;rw [hx] at dZ rH;rw [hk2] at rH;(have hks:kk<acG.length:=by rw [zl.out];exact hk1);obtain ⟨sb3,so3,r4,r5,er,OI,hir⟩:=dV (aS.keep xX.out (kK.kept _)) hks;injection er with er;injection er with OJ OL;subst OJ;subst OL;rw [(zR.out.2 kk hks).1] at OI;obtain ⟨yb,yo,rfl,hcy⟩:=dh hir (k:=q) (by rw [(zR.out.2 kk hks).1];exact bf.out)
      obtain ⟨g',cap',ev,wM,hgs,hgc,hgf,cZ⟩:=hO.out.set (j:=m) (by rw [aD,AZ];exact s5);injection ev with PB ev2 ev3;injection PB with PB;injection PB with PB;subst PB;clear ev2 ev3;have HO7:=aa (cZ (.int .i64 (gi (gl acG kk) q)));rw [JO,<- kO.out] at HO7;have z8:Hid (Up wo (wi.setCell ⟨g,m,none⟩ (.int .i64 (gi (gl acG kk) q)))):=jm (p:=⟨g,m,none⟩) gD.out wM _;(have k1:(kk:Int)<(acG.length:Int):=by omega);(have k2:(kk:Int)<8:=by have:=H4.out;omega);clear h0 d0 hx Zi s5 kK hlm hk1 hk2 hk3 hks hir cZ
      generalize gi (gl acG kk) q=yv at *;generalize gs t.ns m=X at *;go_wp2_with fail;refine rH.out.mono ?_;rintro e w' ⟨rfl,rfl⟩;go_wp2
      go_roundw
      case rel=>exact ⟨m+1,wR.out,by go_num,HO7.out,z8.out⟩
      case measure=>have:=wR.out;simp [intOf];omega
    ·obtain rfl:m=n:=by omega
     (have he:iF t acF acG q m=fJ t acF acG q:=by rw [HN.out];exact Sg _ _ _ _);have hi:=hO.out.ints;rw [he] at hi;have z8:=aa (hU.out.trans gD.out);have TP:=aa (hL.out.kept gD.out);have HFR:=aa (JA hL.out (aj _) hi);(have Ew:Hid (((gG t acF acG).take q).length=q):=by show _=q;rw [iy,nK];omega);have TD:=aa (Sh (t:=t) (acF:=acF) bf.out);(have hq6:q<=1000000:=by omega);clear he hi hO gD hU hL
     go_wp2_with (at_builtin;refine ER wi rfl _ _ 23 rfl w5.heap.size 27 _ 24 Tryz.underlying23 Tryz.eV rfl (by decide) TP.out rfl _ (fJ t acF acG q) rfl HFR.out rfl q Ew.out hq6 z8.out.size ?_;intro g8 mY w8 cD eC Zj;have tj:=aa cD;have lg:=aa Zj;clear cD eC Zj)
     go_roundw
     case rel=>exact ⟨q+1,bf.out,by go_num,by rw [TD.out];exact tj.out,dI (show Below w5.heap.size w5 wi from z8.out) lg.out⟩
     case measure=>have:=bf.out;simp [intOf];omega
  ·obtain rfl:q=(gl acG 0).length:=by omega
   have EE:(gG t acF acG).take (gl acG 0).length=gG t acF acG:=sM (by rw [nK];exact aj _);have PC:=hL.out.rows;rw [EE] at PC;obtain ⟨lp,lc,rfl,-,-⟩:=eE PC;have rZ:=aa PC;have Cm:=aa (gU.out.trans hU.out);have wQ:=aa hU.out;have Zk:=aa (I2 Any wo _ (gG t acF acG) PC (by rw [nK];exact l4) (fun k hk=>by rw [nK] at hk;rw [Pq hk,jg];exact HG.out.hi));clear EE PC hL hU hlt;go_wp2_with fail;refine Zk.out.mono ?_;rintro e w7 ⟨rfl,Ab⟩;cases KL:R9 (gG t acF acG)
   case true =>have z8:=aa (Cm.out.trans Ab);clear Ab KL Zk;go_wp2_with fail;refine (yO.out _).mono ?_;rintro e w' ⟨rfl,iC⟩;go_wp2;go_ret;exact ⟨rfl,z8.out.trans iC⟩
   have sU:=aa (HG.out.pls KL);have z8:=aa (Cm.out.trans Ab);have rK:=aa (wQ.out.trans Ab);have Sm:=aa (aS.keep rZ.out (Ab.kept _));have Sn:=aa (HST.out.keep (rK.out.kept _));have Zl:=(aO rK.out _ (bq.1 HX.out).1).trans HX.out;obtain ⟨x0,x1,x2,-,-,-⟩:=aQ Zl;have KM:=aa Zl;have yN:=aa (wI Any w7 _ _ ⟨bI t,dm t,aH t⟩ (gG t acF acG) Sn.out yM.out Pz.out Sm.out sU.out);dsimp only at yN;rw [HG.out.total] at yN
   have rE:Hid (∀W,Up w7 W->Calls Tryz.prog 15 #[.agg #[.slice ap n ac,.slice bp n bc,.slice cp n cc],.slice lp (gG t acF acG).length lc] W fun e w'=>e=.returned (zh (mL (aH t) (gG t acF acG) (aH t).length))/\Up W w'):=fun W hW=>Pd Any W _ _ ⟨bI t,dm t,aH t⟩ (gG t acF acG) (Sn.out.keep (hW.kept _)) yM.out Pz.out Kj.out (aS.keep Sm.out (hW.kept _)) sU.out
   have zv:Hid (∀W,Up w7 W->∀a b:Nat,a<n->b<n->Calls Tryz.prog 16 #[.agg #[.slice ap n ac,.slice bp n bc,.slice cp n cc],.int .i64 a,.int .i64 b] W (nw W ⟨bI t,dm t,aH t⟩ a b)):=fun W hW a b ha hb=>Au Any W _ ⟨bI t,dm t,aH t⟩ a b (Sn.out.keep (hW.kept _)) yM.out Pz.out (by show a<(bI t).length;rw [di,<- HN.out];exact ha) (by show b<(bI t).length;rw [di,<- HN.out];exact hb)
   have TQ:Hid (∀W u,Up w7 W->∀a b:Nat,dw (aH t) a b->aP Any W u ⟨bI t,dm t,bk (aH t) a b⟩->Calls Tryz.prog 14 #[u,.slice lp (gG t acF acG).length lc] W fun e w'=>e=.returned (.tuple #[.int .i64 (dF (bk (aH t) a b) (gG t acF acG)),.int .i64 0])/\Up W w'):=fun W u hW a b he hu=>wI Any W u _ ⟨bI t,dm t,bk (aH t) a b⟩ (gG t acF acG) hu (Kj.out a b he) Pz.out (aS.keep Sm.out (hW.kept _)) sU.out
   have fK:Hid (∀W u,∀a b:Nat,dw (aH t) a b->aP Any W u ⟨bI t,dm t,bk (aH t) a b⟩->Calls Tryz.prog 17 #[u] W fun e w'=>Up W w'/\∃u,e=.returned (.tuple #[u,.int .i64 0])/\af Any w' u (uh (bk (aH t) a b))):=fun W u a b he hu=>Df Any W u ⟨bI t,dm t,bk (aH t) a b⟩ hu (Kj.out a b he) Pz.out;obtain ⟨b,hb⟩:∃b,b=mL (aH t) (gG t acF acG) (aH t).length:=⟨_,rfl⟩;have Cs:=HG.out.best;dsimp only at Cs;rw [<- hb] at Cs;simp only [<- hb] at rE;have Cs:=aa Cs;(have b6:Hid ((aH t).length=n):=by show _=n;rw [cG,HN.out]);clear KL hb Ab Zl Zk
   generalize (gG t acF acG).length=pn at *;generalize dY acF acG=T at *;go_wp2_with fail;refine yN.out.mono ?_;rintro e w8 ⟨rfl,oC⟩;have lg:=aa (z8.out.trans oC);have HV8:=aa oC;have hx8:=(aO oC _ (bq.1 KM.out).1).trans KM.out;clear x0 x1 x2 yN;obtain ⟨x0,x1,x2,-,-,-⟩:=aQ hx8;clear oC hx8;obtain ⟨A,B,L,H,Ca,hcs⟩:=JB b;rw [Ca] at rE;have tK:=aa hcs;have Zm:=aa (rE.out w8 HV8.out);clear hcs Ca rE;go_wp2_with fail;refine Zm.out.mono ?_;rintro e w9 ⟨rfl,jD⟩;have YI:=aa (lg.out.trans jD)
   have TW:=aa (HV8.out.trans jD);clear x0 x1 x2 jD Zm lg
   go_upto_region 30 with fail
   go_cut [192] from 178 to 192 (fun aa4 wx=>aa4=.bool false/\wx=w9)
   case first =>
    rcases tK.out with ⟨hf,rfl,rfl,rfl,rfl⟩ | ⟨hf,rfl⟩
    ·have d1:decide (T<=b.n)=false:=by have:=(Cs.out.2.1 hf).2.2.1;simp;omega
     clear hf;go_wp2;go_meet
     case rel=>exact ⟨rfl,rfl⟩
    ·clear hf
     go_wp2;go_meet
     case rel=>exact ⟨rfl,rfl⟩
   case rest =>
    obtain ⟨rfl,rfl⟩:=hcut;obtain ⟨wb,rfl⟩:∃W:World,W=wc:=⟨_,rfl⟩
    go_upto_if 194 with fail
    go_cut [] from 193 to 229 (fun wx=>Hid (Up wb wx))
    case first =>
     rcases tK.out with ⟨hf,rfl,rfl,rfl,rfl⟩ | ⟨hf,rfl⟩
     ·obtain ⟨hok,hto,hlt,hct⟩:=Cs.out.2.1 hf
      (have hbc:b.c<n:=by have:=hok.1;rw [b6.out] at this;exact this);(have KL:b.p<n:=by have:=hok.2.1;omega);have pZ:=aa hok;have HTT:=aa hto;have FJ:=aa hct;have JU:=(aO TW.out _ (bq.1 KM.out).1).trans KM.out;obtain ⟨x0,x1,x2,-,-,-⟩:=aQ JU;have HE9:=aa (zv.out wb TW.out b.c b.p hbc KL);clear hok hto hlt hct hbc KL JU hf tK;go_wp2_with fail;refine HE9.out.mono ?_;rintro e Ct ⟨sA,⟨-,v10,rfl,lK⟩ | ⟨hno,-⟩⟩
      case inr=>exact absurd pZ.out hno
      obtain ⟨zV,zW,zX,zY,zZ,z7,rfl,-,-,-⟩:=aP.open lK;dsimp only at lK ⊢;rw [di,gu,iq,cG,<- HN.out] at lK ⊢;have hal:=Up.alloc Ct (.cells #[.slice zV n zW,.slice zX n zY,.slice zZ n z7] 36);have CB:=fQ Ct (.slice zV n zW) (.slice zX n zY) (.slice zZ n z7) 36;obtain ⟨y0,y1,y2,-,-,-⟩:=aQ CB;have Zn:=aa CB;have Zo:=aa (lK.keep (hal.kept _));have Zp:=aa (sA.trans hal);have yN:=aa (TQ.out _ _ (TW.out.trans Zp.out) b.c b.p pZ.out Zo.out);rw [HTT.out] at yN;clear x0 x1 x2 lK hal CB sA HE9
      go_wp2_with fail;generalize Ct.alloc (.cells #[.slice zV n zW,.slice zX n zY,.slice zZ n z7] 36)=w11 at *;refine yN.out.mono ?_;rintro e w12 ⟨rfl,L9⟩;have Zq:=(aO L9 _ (bq.1 Zn.out).1).trans Zn.out;clear y0 y1 y2;obtain ⟨y0,y1,y2,-,-,-⟩:=aQ Zq;have Sq:=aa (fK.out w12 _ b.c b.p pZ.out (Zo.out.keep (L9.kept _)));rw [FJ.out] at Sq;have aa5:=aa (Zp.out.trans L9);clear L9 Zq yN;go_wp2_with fail;refine Sq.out.mono ?_;rintro e Zr ⟨Zs,u13,rfl,I7⟩;obtain ⟨ip,ic,rfl,-,-⟩:=aB.open I7
      have I7:af Any Zr (.slice ip 1 ic) [(b.c:Int)]:=I7;have aa6:=aa (aa5.out.trans Zs);have Sr:=Up.alloc Zr (.cells #[.int .i64 b.c] 3);have HEQ:=aa (Jg Any Any _ _ _ [(b.c:Int)] [(b.c:Int)] (af.keep I7 (Sr.kept _)) (F5 Zr #[.int .i64 b.c] 3 [(b.c:Int)] rfl 1 rfl) (by simp) (by simp));rw [decide_eq_true (rfl:[(b.c:Int)]=[(b.c:Int)])] at HEQ;have aa7:=aa (aa6.out.trans Sr);have hlen:([(b.c:Int)]:List Int).length=1:=rfl;(try rw [hlen]);clear y0 y1 y2 Zs I7 Sr Sq;go_wp2_with fail;refine HEQ.out.mono ?_;rintro e w15 ⟨rfl,nq,rfl⟩
      go_wp2;go_meet
      case rel=>exact aa7.out.trans (Up.drewN _ nq)
     ·clear hf
      go_wp2;go_meet
      case rel=>exact Up.refl _
    case rest =>
     obtain ⟨wd,rfl⟩:∃W:World,W=wc:=⟨_,rfl⟩;have Tp:=aa (YI.out.trans hcut.out);have Zt:=aa (TW.out.trans hcut.out);have hxd:=(aO Zt.out _ (bq.1 KM.out).1).trans KM.out;obtain ⟨x0,x1,x2,-,-,-⟩:=aQ hxd;have kP:=aa (And.intro x0 (And.intro x1 x2));obtain ⟨jd,TX⟩:∃j,j=d % n:=⟨_,rfl⟩;obtain ⟨jf,TY⟩:∃j,j=f % n:=⟨_,rfl⟩;(have Zu:jd<n:=by rw [TX];exact Nat.mod_lt _ (by omega));(have Zv:jf<n:=by rw [TY];exact Nat.mod_lt _ (by omega));have hsd:(d:Int).tmod (n:Int)=(jd:Int):=by rw [Int.tmod_eq_emod_of_nonneg (by omega),TX];push_cast;rfl
     (have aa8:(d:Int) % (n:Int)=(jd:Int):=by rw [TX];push_cast;rfl);(have SR:(f:Int).tmod (n:Int)=(jf:Int):=by rw [Int.tmod_eq_emod_of_nonneg (by omega),TY];push_cast;rfl);(have aa9:(f:Int) % (n:Int)=(jf:Int):=by rw [TY];push_cast;rfl);(have n0:(n:Int)≠0:=by omega);have n00:((n:Int)==0)=false:=beq_eq_false_iff_ne.2 n0;(have aba:(n=0)=False:=by simp;omega);have hwd:IntKind.i64.wrap (d:Int)=(d:Int):=IntWalk.i64_in _ (by omega);have hwf:IntKind.i64.wrap (f:Int)=(f:Int):=IntWalk.i64_in _ (by omega)
     have Zw:Hid (∀W,Up wd W->Calls Tryz.prog 16 #[.agg #[.slice ap n ac,.slice bp n bc,.slice cp n cc],.int .i64 jd,.int .i64 jf] W (nw W ⟨bI t,dm t,aH t⟩ jd jf)):=fun W hW=>zv.out W (Zt.out.trans hW) jd jf Zu Zv;clear hcut hxd TX TY Zu Zv zv;go_wp2_with fail
     go_cut [35,36] from 230 to 246 (fun s35 s36 wx=>∃(E:Nat) (code:Int),s35=.pointer (some ⟨E,0,none⟩)/\s36=.int .i64 code/\Hid (Up wd wx/\(code≠0\/(code=0/\dw (aH t) jd jf/\A0 E wx ⟨bI t,dm t,bk (aH t) jd jf⟩ n))))
     case first =>
      refine jT (by kernel_rfl) 14 (fun w'=>w'.cell? ⟨w4.heap.size,0,none⟩=some (.slice ap n ac)/\w'.cell? ⟨w4.heap.size,1,none⟩=some (.slice bp n bc)/\w'.cell? ⟨w4.heap.size,2,none⟩=some (.slice cp n cc)) kP.out (fun hS=>?_);simp only [gI,bB,eW,Nat.reduceAdd,jL,jM,gH,dz,cw];refine ah.uv 0 1 2 3 hS ?_;(try simp only [Act.put,av,ax,ay]);refine ah.uv 4 5 6 7 hS ?_
      (try simp only [Act.put,av,ax,ay]);refine ah.uv 8 9 10 11 hS ?_;(try simp only [Act.put,av,ax,ay]);refine ah.tk 12 hS ?_;(try simp only [Act.put,av,ax,ay]);refine ah.step2 (i:=13) (i2:=17) rfl rfl (by kernel_rfl) (fun K' hK=>?_) (fun K' hK=>?_)
      ·go_simp
       refine (Zw.out _ (Up.drewN wd 1)).mono ?_;rintro e Ct ⟨sA,⟨hok,v10,rfl,lK⟩ | ⟨hno,code,hcd,-,rfl⟩⟩
       ·obtain ⟨KD,KE,KF,bc2,KG,KH,rfl,-,-,-⟩:=aP.open lK
        dsimp only at lK ⊢;rw [di,gu,iq,cG,<- HN.out] at lK ⊢;have rI:=aa (A0.Sk lK);have Pu:=aa (((Up.drewN wd 1).trans sA).trans (Up.alloc Ct (.cells #[.slice KD n KE,.slice KF n bc2,.slice KG n KH] 36)));obtain ⟨b0,b1,b2,b3,b4,b5⟩:=aQ (fQ Ct (.slice none 0 0) (.slice none 0 0) (.slice none 0 0) 36);have pZ:=aa hok;clear lK sA hok;refine hK.out _ _ (aT ·) (fun _=>?_);(try simp only [av,ax,ay]);refine ah.fr 14 (aT ·) ?_
        (try simp only [Act.put,av,ax,ay]);refine ah.fr 15 (aT ·) ?_;(try simp only [Act.put,av,ax,ay]);refine ah.fr 16 (aT ·) ?_;(try simp only [Act.put,av,ax,ay]);refine ah.st 17 fun K' hK=>?_;go_simp;refine hK.out _ _ (aT ·) (fun _=>?_);(try simp only [av,ax,ay]);refine ah.st 18 fun K' hK=>?_;go_simp;refine hK.out _ _ (aT ·) (fun _=>?_)
        (try simp only [av,ax,ay]);refine ah.st 19 fun K' hK=>?_;go_simp;refine hK.out _ _ (aT ·) (fun _=>?_);refine ah.done (by kernel_rfl) ?_;go_wp2;go_meet
        case rel=>exact ⟨_,_,rfl,rfl,Pu.out,.inr ⟨rfl,pZ.out,rI.out⟩⟩
       ·have Pu:=aa (((Up.drewN wd 1).trans sA).trans (Up.alloc Ct (.cells #[.slice none 0 0,.slice none 0 0,.slice none 0 0] 36)))
        obtain ⟨b0,b1,b2,b3,b4,b5⟩:=aQ (fQ Ct (.slice none 0 0) (.slice none 0 0) (.slice none 0 0) 36);have Zx:=aa hcd;clear sA hno hcd;refine hK.out _ _ (aT ·) (fun _=>?_);(try simp only [av,ax,ay]);refine ah.fr 14 (aT ·) ?_;(try simp only [Act.put,av,ax,ay]);refine ah.fr 15 (aT ·) ?_;(try simp only [Act.put,av,ax,ay]);refine ah.fr 16 (aT ·) ?_
        (try simp only [Act.put,av,ax,ay]);refine ah.st 17 fun K' hK=>?_;go_simp;refine hK.out _ _ (aT ·) (fun _=>?_);(try simp only [av,ax,ay]);refine ah.st 18 fun K' hK=>?_;go_simp;refine hK.out _ _ (aT ·) (fun _=>?_);(try simp only [av,ax,ay]);refine ah.st 19 fun K' hK=>?_;go_simp;refine hK.out _ _ (aT ·) (fun _=>?_);refine ah.done (by kernel_rfl) ?_;go_wp2;go_meet
        case rel=>exact ⟨_,_,rfl,rfl,Pu.out,.inl Zx.out⟩
      ·go_simp
       have hal:=Up.alloc wd (.cells #[.slice none 0 0,.slice none 0 0,.slice none 0 0] 36);have hdr:=Up.drewN (wd.alloc (.cells #[.slice none 0 0,.slice none 0 0,.slice none 0 0] 36)) 1;have hb1:=fQ wd (.slice none 0 0) (.slice none 0 0) (.slice none 0 0) 36;have hs1:(wd.alloc (.cells #[.slice none 0 0,.slice none 0 0,.slice none 0 0] 36)).heap.size=wd.heap.size+1:=aN _ _;refine hK.out _ _ (fun _=>⟨hal.cell kP.out.1,hal.cell kP.out.2.1,hal.cell kP.out.2.2⟩) (fun hS=>?_);replace hS:=hS ⟨13,by decide,rfl⟩
       (try simp only [av,ax,ay]);refine ah.st 13 fun K' hK=>?_;go_simp;refine (Zw.out _ (hal.trans hdr)).mono ?_;rintro e Ct ⟨sA,hpost⟩;have kK:=(hal.trans hdr).trans sA;have hb3:=(aO (hdr.trans sA) wd.heap.size (by rw [hs1];omega)).trans hb1;obtain ⟨b0,b1,b2,b3,b4,b5⟩:=aQ hb3;have zF:=aa hb3;have bF:=aa kK;clear hal hdr hb1 hs1 sA kK hb3;rcases hpost with ⟨hok,v10,rfl,lK⟩ | ⟨hno,code,hcd,-,rfl⟩
       ·obtain ⟨KD,KE,KF,bc2,KG,KH,rfl,-,-,-⟩:=aP.open lK
        dsimp only at lK ⊢;rw [di,gu,iq,cG,<- HN.out] at lK ⊢;have rI:=aa (A0.Sl zF.out lK (L8 hok));have pZ:=aa hok;clear lK hok;refine hK.out _ _ (aT ·) (fun _=>?_);(try simp only [av,ax,ay]);refine ah.fr 14 (aT ·) ?_;(try simp only [Act.put,av,ax,ay]);refine ah.fr 15 (aT ·) ?_;(try simp only [Act.put,av,ax,ay]);refine ah.fr 16 (aT ·) ?_
        (try simp only [Act.put,av,ax,ay]);refine ah.st 18 fun K' hK=>?_;go_simp;refine hK.out _ _ (aT ·) (fun _=>?_);(try simp only [av,ax,ay]);refine ah.st 19 fun K' hK=>?_;go_simp;refine hK.out _ _ (aT ·) (fun _=>?_);refine ah.done (by kernel_rfl) ?_;go_wp2;go_meet
        case rel=>exact ⟨_,_,rfl,rfl,Ar bF.out (aj _),.inr ⟨rfl,pZ.out,rI.out⟩⟩
       ·have Zx:=aa hcd
        clear hno hcd;refine hK.out _ _ (aT ·) (fun _=>?_);(try simp only [av,ax,ay]);refine ah.fr 14 (aT ·) ?_;(try simp only [Act.put,av,ax,ay]);refine ah.fr 15 (aT ·) ?_;(try simp only [Act.put,av,ax,ay]);refine ah.fr 16 (aT ·) ?_;(try simp only [Act.put,av,ax,ay]);refine ah.st 18 fun K' hK=>?_;go_simp;refine hK.out _ _ (aT ·) (fun _=>?_)
        (try simp only [av,ax,ay]);refine ah.st 19 fun K' hK=>?_;go_simp;refine hK.out _ _ (aT ·) (fun _=>?_);refine ah.done (by kernel_rfl) ?_;go_wp2;go_meet
        case rel=>exact ⟨_,_,rfl,rfl,Ar bF.out (aj _),.inl Zx.out⟩
     case rest =>
      obtain ⟨E,code,rfl,rfl,hB⟩:=hcut;obtain ⟨we,rfl⟩:∃W:World,W=wc:=⟨_,rfl⟩;obtain ⟨Zy,dr⟩:=hB.out;have HUE:=aa (Tp.out.trans Zy);have HVE:=aa (Zt.out.trans Zy);clear x0 x1 x2 Zy kP Zw hsd aa8 SR aa9 n0 n00 aba hwd hwf;rcases dr with hcd | ⟨rfl,hok,eG⟩
      ·have d1:(code != 0)=true:=by simpa using hcd
       clear hcd;go_wp2_with fail;refine (yO.out _).mono ?_;rintro e w' ⟨rfl,iC⟩;go_wp2;go_ret;exact ⟨rfl,HUE.out.trans iC⟩
      obtain ⟨ep,ec,fp,fc,gp,gc,sS,TV⟩:=eG.ex;obtain ⟨y0,y1,y2,-,-,-⟩:=aQ sS;have yC:=aa (TQ.out we _ HVE.out jd jf hok TV);obtain ⟨O,hO⟩:∃O,O=dF (bk (aH t) jd jf) (gG t acF acG):=⟨_,rfl⟩;have GL:=Cs.out.2.2.1 jd jf hok;have JN:=Cs.out.2.2.2 jd jf hok;have oB:=fun hf=>Cs.out.1 hf jd jf hok;rw [<- hO] at yC GL JN oB;have HO3:=aa oB;(have d2:decide (O<=T)=true:=by simp;omega);clear hO eG sS TV hok oB;go_wp2_with fail;refine yC.out.mono ?_;rintro e wf ⟨rfl,huf⟩;have Zz:=aa (HUE.out.trans huf);clear y0 y1 y2 huf yC
      rcases tK.out with ⟨hf,rfl,rfl,rfl,rfl⟩ | ⟨hf,rfl⟩
      ·have d3:decide (b.n<=O)=true:=by simp;omega
       clear hf;go_wp2_with fail;refine (yO.out _).mono ?_;rintro e w' ⟨rfl,iC⟩;go_wp2;go_ret;exact ⟨rfl,Zz.out.trans iC⟩
      ·obtain rfl:O=T:=HO3.out hf
       clear hf GL JN;go_wp2_with fail;refine (yO.out _).mono ?_;rintro e w' ⟨rfl,iC⟩;go_wp2;go_ret;exact ⟨rfl,Zz.out.trans iC⟩
end Go.Proofs.YtfomhlbhcifgbaaGreatDoor
