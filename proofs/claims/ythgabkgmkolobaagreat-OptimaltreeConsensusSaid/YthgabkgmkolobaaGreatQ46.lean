/- Reference 34: Consensus. The laws .. -/
import Derived.Test.YthgabkgmkolobaaGreatQ40
import Derived.Test.YthgabkgmkolobaaGreatQ42
import Derived.Test.YthgabkgmkolobaaGreatQ45
set_option maxRecDepth 100000
set_option maxHeartbeats 8000000
namespace Go.Proofs.YthgabkgmkolobaaGreat
section
open Go.RowKit Go.Deep
def xK (l c:List (List Int)) (k:Nat):List (List Int):=(c.take k).filter fun s=>l.contains s
theorem adC {l c:List (List Int)} {k:Nat} (hk:k<c.length):xK l c (k+1)=xK l c k++(if l.contains (gl c k)=true then [gl c k] else []):=by
 unfold xK;rw [jQ hk,rO];have e:gl c k=c[k]:=by simp [gl,hk]
 rw [e];congr 1;by_cases h:l.contains c[k]=true
 ·rw [if_pos h,FZ h,List.filter_nil]
 ·rw [if_neg h,FY h,List.filter_nil]
theorem afy (ts:List ax) (amd:List ByteArray) (n:Nat):xK (dP (gt ts n) amd) (kP ts amd n) (kP ts amd n).length=kP ts amd (n+1):=by
 unfold xK;rw [fT,NN];refine List.filter_congr fun s _=>?_;rw [mW,dU,decide_eq_true_iff]
theorem afz (l c:List (List Int)) (k:Nat):(xK l c k).length<=k:=by
 unfold xK;exact aB (mN _ _) (by rw [jl];omega)
theorem Hi {base:Nat} {T:TypeId} {w:World} {d:Value} {xs:List (List Int)} (h:kR base T w d xs):∃p c,d=.slice p xs.length c:=by
 obtain ⟨vals,hl,ho,_⟩:=h;obtain ⟨p,c,e,_⟩:=ho.form (n:=xs.length) hl;exact ⟨p,c,e⟩
theorem Xd {base:Nat} {T:TypeId} {w:World} {d:Value} {xs:List (List Int)} (h:kR base T w d xs) {b:Nat} (hb:d.ownBlock=some b):base<=b:=by
 obtain ⟨vals,_,ho,_⟩:=h;exact (av ho hb).1
theorem aap (S:Nat->Prop) (w:World) (v vt:Value) (amd:List ByteArray) (ts:List ax) (h:aj S w v amd) (hn:amd.length<=1000000) (hz:∀k,(gs amd k).size<=70000) (h5:amd.length<=5\/7<amd.length) (hT:fQ S w vt ts) (htn:ts.length<=64)
  (htr:∀k,(gt ts k).ps.length<=1000000/\(gt ts k).ns.length<=1000000/\∀j,(gs (gt ts k).ns j).size<=70000) :
  Calls Tryz.prog 50 #[v,vt] w (vO w amd ts):=by
 obtain ⟨mp,mc,rfl,-,-⟩:=aq.open h;have h:aj S w (.slice mp amd.length mc) amd:=h;obtain ⟨tp,tc,rfl,-⟩:=nH hT;have uZ:Up w (w.alloc (.cells #[.slice none 0 0,.slice none 0 0] 39)):=Up.alloc _ _;have hrb:(w.alloc (.cells #[.slice none 0 0,.slice none 0 0] 39)).heap[w.heap.size]? = some (.cells #[.slice none 0 0,.slice none 0 0] 39 (0,0)):=iN;have hsz:w.heap.size<(w.alloc (.cells #[.slice none 0 0,.slice none 0 0] 39)).heap.size:=by simp
 obtain ⟨w0,hw0⟩:∃x,w.alloc (.cells #[.slice none 0 0,.slice none 0 0] 39)=x:=⟨_,rfl⟩;have Yg:=aa hw0;rw [hw0] at uZ hrb hsz;clear hw0;have Ef:=aa uZ;have gY:Hid (∀W,Up w0 W->W.heap[w.heap.size]? = some (.cells #[.slice none 0 0,.slice none 0 0] 39 (0,0))):=fun W hW=>(bH hW _ hsz).trans hrb;have BP:Hid (∀W c,Up w0 W->nJ amd ts=c->c≠0->_):=fun W c hW h1 h2=>And.intro (boxed (gY.out W hW)) (aad (c:=c) (Ef.out.trans hW) (gY.out W hW) h1 h2);have HN:=aa (aj.keep h (uZ.kept S));have HT:=aa (hT.keep (uZ.kept S));have wD:=aa htr;have jD:=aa (KF S w0 _ amd HN.out hn hz);have Ec:Hid (nJ amd ts=if eL amd≠0 then eL amd else if ts.length=0 then 5 else bf (o6 ts amd) ts.length):=rfl;have ij:Hid (eL amd=0->nQ amd):=fun e=>(Dy (LH h5 e)).1 e;have HBZ:=aa hz;clear h hT hz htr uZ hrb hsz;go_in;go_wp2_with fail;rw [Yg.out];refine jD.out.mono ?_;rintro e w1 ⟨rfl,bK⟩;have cB:=aa bK;by_cases e1:eL amd=0
 ·have HM:=aa (ij.out e1)
  have lZ:Hid (nJ amd ts=if ts.length=0 then 5 else bf (o6 ts amd) ts.length):=by unfold Hid;rw [Ec.out,if_neg (fun h=>h e1)]
  rw [e1];clear e1 ij Ec bK jD;by_cases e2:ts.length=0
  ·have hst:=BP.out w1 5 cB.out (by rw [lZ.out,if_pos e2]) (by decide)
   obtain ⟨⟨q0,q1,q2,q3⟩,s2,s3,hp⟩:=hst;have HP:=aa hp;(have d1:((ts.length:Int)==0)=true:=by simp [e2]);clear hp e2;go_wp2_with fail;exact ⟨rfl,.tuple #[.agg #[.slice none 0 0,.slice none 0 0],.int .i64 5],by simp [results,Tryz.results50,go_sem,s2,s3],HP.out⟩
  ·have d1:((ts.length:Int)==0)=false:=beq_eq_false_iff_ne.2 (by omega)
   (have AQ:Hid (nJ amd ts=bf (o6 ts amd) ts.length):=by unfold Hid;rw [lZ.out,if_neg e2]);(have zg:Hid (0<ts.length):=by unfold Hid;omega);clear e2 lZ;go_wp2_with fail;clear d1
   go_loopw [7,8] (fun i _ wr=>∃k:Nat,k<=ts.length/\i=.int .i64 k/\Hid (Up w0 wr)/\Hid (∀j,j<k->o6 ts amd j=0)) (fun i _ _=>ts.length - (intOf i).toNat)
   case atStart=>exact ⟨0,aF _,rfl,cB.out,fun j hj=>absurd hj (aZ _)⟩
   case round =>
    obtain ⟨k,hk,rfl,hU,hd⟩:=hrel;obtain ⟨wo,rfl⟩:=eM wr;by_cases hlt:k<ts.length
    ·obtain ⟨tb,ac1,pp,pc,np,nc,rfl,c0,c1,NX⟩:=oW (HT.out.keep (hU.out.kept S)) hlt
     (have i1:(0:Int)<=(k:Int):=by omega);(have i2:(k:Int)<(ts.length:Int):=by omega);(have i3:(k:Int)<65:=by omega);obtain ⟨z1,z2,z3⟩:=wD.out k;have su:=aa (ZP S S wo _ (.slice mp amd.length mc) (gt ts k) amd NX z1 z2 z3 (aj.keep HN.out (hU.out.kept S)) hn);(have G3:Hid (o6 ts amd k≠0->nJ amd ts=o6 ts amd k):=fun h0=>by rw [AQ.out];exact eX hlt hd.out h0);have Al:Hid (o6 ts amd k=FO (gt ts k) amd):=rfl;(have xA:Hid (o6 ts amd k=0->∀j,j<k+1->o6 ts amd j=0):=fun h0 j hj=>if e:j=k then by subst e;exact h0 else hd.out j (by omega));have Eb:=aa hU.out;clear NX hU hd z1 z2 z3;generalize gt ts k=t at *;generalize FO t amd=fe at *;by_cases g1:fe=0
     ·subst g1
      have nB:=aa (xA.out Al.out);clear xA G3 Al;go_wp2_with fail;refine su.out.mono ?_;rintro e w3 ⟨rfl,cR⟩;have HUC:=aa (Eb.out.trans cR);clear cR su;go_wp2
      go_roundw
      case rel=>exact ⟨k+1,by omega,by go_num,HUC.out,nB.out⟩
      case measure=>simp [intOf];omega
     ·have d1:(fe != 0)=true:=by simpa using g1
      (have HE9:Hid (nJ amd ts=fe):=by unfold Hid;rw [G3.out (by rw [Al.out];exact g1),Al.out]);have HG1:=aa g1;clear xA G3 Al g1;go_wp2_with fail;refine su.out.mono ?_;rintro e w3 ⟨rfl,cR⟩;have hst:=BP.out w3 fe (Eb.out.trans cR) HE9.out HG1.out;obtain ⟨⟨r0,r1,r2,r3⟩,s2,s3,hp⟩:=hst;have HP:=aa hp;clear hp cR su;go_wp2_with fail;exact ⟨rfl,.tuple #[.agg #[.slice none 0 0,.slice none 0 0],.int .i64 fe],by simp [results,Tryz.results50,go_sem,s2,s3],HP.out⟩
    ·obtain rfl:k=ts.length:=by omega
     have HZ:Hid (bf (o6 ts amd) ts.length=0):=cG hd.out;have jk:=aa (ad2 HM.out HZ.out);have NG:Hid (nJ amd ts=0):=AQ.out.trans HZ.out;have kZ:=aa hU.out;obtain ⟨tb,ac1,pp,pc,np,nc,rfl,c0,c1,GM⟩:=oW (HT.out.keep (hU.out.kept S)) zg.out;simp only [Nat.zero_mul,mZ] at c0 c1;obtain ⟨z1,z2,z3⟩:=wD.out 0;have NY:=aa (Vc S S wo _ (.slice mp amd.length mc) (gt ts 0) amd GM (aj.keep HN.out (hU.out.kept S)) z1 z2 z3 hn);unfold CG at NY;rw [oD.2 (jk.out 0 zg.out)] at NY;(have pW:Hid (∀W n,Up w0 W->n<ts.length->∀P N,aG S W (.agg #[P,N]) (gt ts n)->Calls Tryz.prog 113 #[.agg #[P,N],.slice mp amd.length mc] W fun e w'=>Up W w'/\∃u,e=.returned (.tuple #[u,.int .i64 0])/\aT Any w' u (dP (gt ts n) amd)):=fun W n hW hlt P N ht=>by obtain ⟨z1,z2,z3⟩:=wD.out n;have h:=Vc S S W (.agg #[P,N]) (.slice mp amd.length mc) (gt ts n) amd ht (aj.keep HN.out (hW.kept S)) z1 z2 z3 hn;unfold CG at h;rw [oD.2 (jk.out n hlt)] at h;exact h);have gA:=aa (RX ts amd);have dM:Hid (∀n,(dP (gt ts n) amd).length<=1000000/\∀j,(gl (dP (gt ts n) amd) j).length<=1000000):=fun n=>⟨aB (vK _ amd) (wD.out n).1,fun j=>aB (zO _ amd j) (by decide)⟩;have oZ:Hid (∀n,(kP ts amd n).length<=1000000):=fun n=>aB (vM ts amd n).length_le (aB (vK _ amd) (wD.out 0).1);have HCR:Hid (∀n j,(gl (kP ts amd n) j).length<=1000000):=fun n j=>by
      by_cases hj:j<(kP ts amd n).length
      ·obtain ⟨i,hi,e⟩:=rQ ((vM ts amd n).mem (lI hj))
       have:=zO (gt ts 0) amd i;rw [show gl (dP (gt ts 0) amd) i=gl (kP ts amd n) j by rw [<- e];simp [gl,hi]] at this;omega
      ·simp [gl,show (kP ts amd n).length<=j by omega]
     (have i1:(0:Int)<(ts.length:Int):=by have:=zg.out;omega);have i9:0<ts.length:=zg.out;clear hU hd hlt hk BP AQ HZ GM z1 z2 z3;rw [<- gA.out] at NY;generalize gt ts 0=t0 at NY c0 c1;go_wp2_with fail;refine NY.out.mono ?_;rintro e w5 ⟨gJ,u5,rfl,DW⟩;obtain ⟨p5,c5,rfl,-,-⟩:=dy DW;have HR5:=aa DW;have kK:=aa (kZ.out.trans gJ);clear DW gJ NY c0 c1 i1 i9 gA;go_wp2
     go_loopw [9,11,12,13,14,15] (fun c i _ _ _ _ wr=>∃n:Nat,1<=n/\n<=ts.length/\i=.int .i64 n/\Hid (Up w0 wr)/\Hid (aT Any wr c (kP ts amd n))) (fun _ i _ _ _ _ _=>ts.length - (intOf i).toNat)
     case atStart=>exact ⟨1,ah _,zg.out,rfl,kK.out,HR5.out⟩
     case round =>
      obtain ⟨n,EE,hnl,rfl,hU,hR⟩:=hrel;obtain ⟨wo,rfl⟩:=eM wr;obtain ⟨p9,c9,e9,-,-⟩:=dy hR.out;subst e9;(have hn0:(0:Int)<=(n:Int):=by omega);by_cases hlt:n<ts.length
      ·obtain ⟨tb',alo,pp',pc',np',nc',e1,c0,c1,Rw⟩:=oW (HT.out.keep (hU.out.kept S)) hlt
       injection e1 with e1;injection e1 with e1 e2;subst e1;subst e2;have Xe:=aa (pW.out wo n hU.out hlt _ _ Rw);have Aj:=aa (afy ts amd n);have uT:=aa (dM.out n);have aif:=aa (oZ.out n);have akx:=aa (HCR.out n);have aR:=aa hlt;have o5:=aa EE;have Eb:=aa hU.out;have HRO:=aa hR.out;(have i2:(n:Int)<(ts.length:Int):=by omega);(have i3:(n:Int)<65:=by omega);clear Rw hU hR hlt hnl EE;generalize dP (gt ts n) amd=L at Xe Aj uT;generalize gt ts n=t at Xe c0 c1;obtain ⟨C1,hC1⟩:∃C1,kP ts amd (n+1)=C1:=⟨_,rfl⟩;rw [hC1] at Aj;have gA:=aa hC1;clear hC1;generalize kP ts amd n=C at *;go_wp2_with fail;refine Xe.out.mono ?_;rintro e w6 ⟨ir,lv,rfl,hl6⟩;obtain ⟨lp,lc,rfl,-,-⟩:=dy hl6;have HC6:Hid (aT (fun b=>b<w6.heap.size) w6 (.slice p9 C.length c9) C):=(HRO.out.keep (ir.kept _)).sub fun b _ hb=>hb;have eO:=aa hl6;have uY:=aa (Eb.out.trans ir);have uK:Hid (kR w6.heap.size 26 (w6.alloc (.cells #[] 26)) (.slice (some ⟨w6.heap.size,0,none⟩) 0 0) (xK L C 0)/\Up w6 (w6.alloc (.cells #[] 26))):=⟨kR.made w6 26,Up.alloc _ _⟩;clear hl6 ir Xe c0 c1 HRO Eb;go_wp2
       go_loopw [14,15] (fun d i wr=>∃k:Nat,k<=C.length/\i=.int .i64 k/\Hid (kR w6.heap.size 26 wr d (xK L C k)/\Up w6 wr)) (fun _ i _=>C.length - (intOf i).toNat)
       case atStart=>exact ⟨0,aF _,rfl,uK.out⟩
       case round =>
        obtain ⟨k,hk,rfl,hI⟩:=hrel;obtain ⟨wi,rfl⟩:=eM wr;obtain ⟨hA,xG⟩:=hI.out;(have nj:(0:Int)<=(k:Int):=by omega);by_cases hlk:k<C.length
        ·obtain ⟨rb,ro,rq,rc,rfl,KE,hrow⟩:=eZ (HC6.out.keep (xG.kept _)) hlk
         have LX:=aa (afa Any _ wi (.slice lp L.length lc) (.slice rq (gl C k).length rc) L (gl C k) (eO.out.keep (xG.kept _)) hrow uT.out.1 uT.out.2 (akx.out k));have SU:Hid (xK L C (k+1)=xK L C k++(if L.contains (gl C k)=true then [gl C k] else [])):=adC hlk;have Fk:Hid ((xK L C k).length<=1000000):=aB (afz L C k) (by have:=aif.out;omega);obtain ⟨dp,dc,rfl⟩:=Hi hA;(have HRU:Hid (∀W,Up wi W->af (fun b=>some b≠(Value.slice dp (xK L C k).length dc).ownBlock) W (.slice rq (gl C k).length rc) (gl C k)):=fun W hW=>aq.sub (af.keep hrow (hW.kept _)) fun b hb _ e=>by have h1:=Xd hA e.symm;have hb:b<w6.heap.size:=hb;omega);have HA:=aa hA;have He:=aa xG;have HLK:=aa hlk;(have i4:(k:Int)<(C.length:Int):=by omega);(have i5:(k:Int)<1000000:=by have:=aif.out;omega);clear hI hA xG hrow hlk hk;generalize gl C k=g at *;obtain ⟨F,hF⟩:∃F,xK L C k=F:=⟨_,rfl⟩;rw [hF] at SU Fk HRU HA ⊢;clear hF;obtain ⟨m,hm⟩:∃m,F.length=m:=⟨_,rfl⟩;rw [hm] at Fk HRU HA ⊢;have HM:=aa hm;clear hm;by_cases hc:L.contains g=true
         ·have lg:Hid (xK L C (k+1)=F++[g]):=by unfold Hid;rw [SU.out,if_pos hc]
          rw [hc] at LX;clear hc SU;go_wp2_with fail;refine LX.out.mono ?_;rintro e w7 ⟨rfl,nZ⟩;have KE:=nZ.cell KE;have HA7:=aa (HA.out.kept nZ);have HR7:=aa (HRU.out w7 nZ);have G7:=aa (He.out.trans nZ);clear nZ LX HA HRU;go_wp2_with (at_builtin;refine Og w7 rfl _ _ 23 rfl w6.heap.size 26 _ 24 Tryz.underlying23 Tryz.O6 rfl (by decide) HA7.out rfl (.slice rq g.length rc) g rfl HR7.out rfl m HM.out Fk.out G7.out.size ?_;intro g8 kM w8 gp jr aih;have Ze:=aa gp;have wN:=aa aih;clear gp jr aih)
          go_roundw
          case rel=>exact ⟨k+1,HLK.out,by go_num,by rw [lg.out];exact Ze.out,iz (show Below w6.heap.size w6 _ from G7.out) wN.out⟩
          case measure=>have:=HLK.out;simp [intOf];omega
         ·have lg:Hid (xK L C (k+1)=F):=by unfold Hid;rw [SU.out,if_neg hc,eG]
          rw [Bool.not_eq_true] at hc;rw [hc] at LX;clear hc SU;go_wp2_with fail;refine LX.out.mono ?_;rintro e w7 ⟨rfl,nZ⟩;have HA7:=aa (HA.out.kept nZ);have G7:=aa (He.out.trans nZ);clear nZ LX HA HRU;go_wp2
          go_roundw
          case rel=>exact ⟨k+1,HLK.out,by go_num,by rw [lg.out];exact HA7.out,G7.out⟩
          case measure=>have:=HLK.out;simp [intOf];omega
        ·obtain rfl:k=C.length:=by omega
         have hrw:=hA.rows;rw [Aj.out] at hrw;have Jq:=aa hrw;have HUE:=aa (uY.out.trans xG);obtain ⟨dp,dc,rfl⟩:=Hi hA;clear hI hA xG hlk hk hrw;go_wp2
         go_roundw
         case rel=>exact ⟨n+1,by omega,aR.out,by go_num,HUE.out,by unfold Hid;rw [gA.out];exact Jq.out⟩
         case measure=>have:=aR.out;simp [intOf];omega
      ·obtain rfl:n=ts.length:=by omega
       have lQ:=aa (aao Any wo (.slice mp amd.length mc) (.slice p9 (kP ts amd ts.length).length c9) amd (rI ts amd) ((aj.keep HN.out (hU.out.kept S)).sub fun _ _ _=>trivial) hR.out hn HBZ.out (oZ.out _) (HCR.out _));have Sq:=aa hU.out;clear hU hR hlt hnl;have hl9:kP ts amd ts.length=rI ts amd:=rfl;rw [hl9] at lQ ⊢;go_wp2_with fail;refine lQ.out.mono ?_;rintro e w7 ⟨nZ,tv,rfl,P5,N5,rfl,FQ,FR⟩;obtain ⟨p7,c7,rfl,-,-⟩:=aq.open FQ;obtain ⟨n7,d7,rfl,-,-⟩:=aq.open FR;have BD:=gY.out w7 (Sq.out.trans nZ);obtain ⟨r0,r1,r2,r3⟩:=boxed BD;have iy:=aa (aae (amd:=amd) (ts:=ts) (T:=jN amd (rI ts amd)) (c:=eR amd (rI ts amd)) (Ef.out.trans (Sq.out.trans nZ)) BD ⟨_,_,rfl,FQ,FR⟩ (by unfold RY;rw [if_neg fun h=>h NG.out]) (by unfold Kz;rw [if_neg fun h=>h NG.out]));clear BD nZ FQ FR lQ;generalize eR amd (rI ts amd)=be at *;generalize jN amd (rI ts amd)=T at *;go_wp2_with fail;obtain ⟨s2,s3,hp⟩:=iy.out;exact ⟨rfl,.tuple #[.agg #[.slice p7 T.ps.length c7,.slice n7 T.ns.length d7],.int .i64 be],by simp [results,Tryz.results50,go_sem,s2,s3],hp⟩
 ·have d1:(eL amd != 0)=true:=by simpa using e1
  have hst:=BP.out w1 (eL amd) bK (by rw [Ec.out,if_pos e1]) e1;obtain ⟨⟨q0,q1,q2,q3⟩,s2,s3,hp⟩:=hst;have HP:=aa hp;generalize eL amd=ne at d1 s2 s3 HP ⊢;clear hp bK e1 jD Ec ij;go_wp2_with fail;exact ⟨rfl,.tuple #[.agg #[.slice none 0 0,.slice none 0 0],.int .i64 ne],by simp [results,Tryz.results50,go_sem,s2,s3],HP.out⟩
theorem adD {amd:List ByteArray} {l:List (List Int)} (h:eR amd l=0):cF (jN amd l) amd=0/\dP (jN amd l) amd=wX l/\aA (jN amd l)=0:=by
 have hk:=Fs.1 h;have hr:jN amd l=zG amd l:=by unfold jN;rw [if_pos h]
 rw [hr];by_cases h3:3<=amd.length
 ·obtain ⟨a,b⟩:=Rn hk (FE hk h3)
  exact ⟨oD.2 a,b,a.te⟩
 ·have hf:=hk.few (by omega)
  have hsm:3+(aJ l).length+(amd.length - 1)<=64:=by rw [hf];simp [aJ,Dt,jd];omega
  obtain ⟨a,b⟩:=Rn hk hsm;exact ⟨oD.2 a,b,a.te⟩
@[go_sem high] theorem aiY (w:World) (ts:Array TypeId) (t:TypeId) (k:IntKind):(Builtin.max_ ts t #[.int k 0,.int k 0,.int k 0,.int k 0,.int k 0,.int k 0,.int k 0]).run Tryz.prog w=.ok (.int k 0) w:=by
 simp [Builtin.max_,Builtin.max2]
end
section
open Go.RowKit Go.Deep Go.Sort
theorem Xf {amd:List ByteArray} {l:List (List Int)} (h:eR amd l=0):(jN amd l).ps.length<=64/\(jN amd l).ns.length<=64/\∀k,(gs (jN amd l).ns k).size<=70000:=by
 obtain ⟨_,_,ht⟩:=adD h;obtain ⟨_,h1,h2,_,_⟩:=aH ht;exact ⟨h1,by omega,Wa ht⟩
end
section
open Go.RowKit Go.Deep
theorem afA {ts:List ax} (h:DG ts=false):ts.length<=16/\∀k,(gt ts k).ps.length<=66/\(gt ts k).ns.length<=68/\∀j,(gs (gt ts k).ns j).size<=20:=by
 unfold DG at h;rw [zW,decide_eq_false_iff_not] at h;obtain ⟨h1,h2⟩:=h;refine ⟨by omega,fun k=>?_⟩;by_cases hk:k<ts.length
 ·have h3:=any_false h1 hk
  unfold uJ at h3;rw [zW,zW,zW] at h3;obtain ⟨⟨⟨_,h4⟩,h5⟩,h6⟩:=h3;rw [decide_eq_false_iff_not] at h4 h5;refine ⟨by omega,by omega,fun j=>?_⟩;by_cases hj:j<(gt ts k).ns.length
  ·have:=of_decide_eq_false (any_false h6 hj);omega
  ·have:gs (gt ts k).ns j=ByteArray.empty:=by simp [gs,hj]
   rw [this];exact aF _
 ·have:gt ts k=⟨[],[]⟩:=by simp [gt,hk]
  rw [this];exact ⟨aF _,aF _,fun j=>by simp [gs]⟩
theorem aaq (amd:List ByteArray) (ts:List ax):(Kz amd ts).ps.length<=1000000/\(Kz amd ts).ns.length<=1000000:=by
 unfold Kz;split
 ·exact ⟨aF _,aF _⟩
 ·by_cases h:eR amd (rI ts amd)=0
  ·obtain ⟨h1,h2,_⟩:=Xf h
   omega
  ·unfold jN;rw [if_neg h];exact ⟨aF _,aF _⟩
theorem CD.keep {W W':World} {v:Value} {amd:List ByteArray} {ame:List (List Int)} {ts:List ax} {sc:Int} (h:CD W v amd ame ts sc) (hu:Up W W'):CD W' v amd ame ts sc:=by
 obtain ⟨V0,V1,V2,e,hN,hS,hT⟩:=h.ex;exact ⟨⟨V0,V1,V2,e,aj.keep hN (hu.kept _),hS.keep (hu.kept _),hT.keep (hu.kept _)⟩,h.n,h.s,h.t,h.sc⟩
structure aar (amd:List ByteArray) (ame:List (List Int)) (ts:List ax):Prop where
 n:amd.length<=1000000
 nz:∀k,(gs amd k).size<=70000
 n5:amd.length<=5\/7<amd.length
 s:ame.length<=1000000
 sr:∀k,(gl ame k).length<=1000000
 t:ts.length<=16
 tz:∀k,(gt ts k).ps.length<=1000000/\(gt ts k).ns.length<=1000000/\∀j,(gs (gt ts k).ns j).size<=70000
theorem aas {amd:List ByteArray} {ame:List (List Int)} {ts:List ax} (h:CK amd ame ts=false):aar amd ame ts:=by
 unfold CK at h;rw [zW] at h;have h1:=afk h.1;obtain ⟨h2,h3,h4⟩:=h1.akh;obtain ⟨h5,h6⟩:=afA h.2;refine ⟨by omega,fun k=>aB (h1.nm k) (by decide),h4,aB h1.m10 (by decide),fun k=>aB (h3 k) (by decide),h5,fun k=>?_⟩;obtain ⟨z1,z2,z3⟩:=h6 k;exact ⟨by omega,by omega,fun j=>aB (z3 j) (by decide)⟩
theorem Xg (w:World) (v:Value) (amd:List ByteArray) (ame:List (List Int)) (ts:List ax) (sc:Int) (h:CD w v amd ame ts sc) :
  Calls Tryz.prog 9 #[v] w fun e w'=>e=.returned (.bool true)/\Up w w':=by
 obtain ⟨V0,V1,V2,rfl,hN,hS,hT⟩:=h.ex;obtain ⟨p0,c0,rfl,-,-⟩:=aq.open hN;obtain ⟨p1,c1,rfl,-,-⟩:=dy hS;obtain ⟨p2,c2,rfl,-⟩:=nH hT;have hN:aj Any w (.slice p0 amd.length c0) amd:=hN;have hu:=Up.alloc w (.cells #[.slice p0 amd.length c0,.slice p1 ame.length c1,.slice p2 ts.length c2,.int .i64 sc] 69);have q0:=aS w #[.slice p0 amd.length c0,.slice p1 ame.length c1,.slice p2 ts.length c2,.int .i64 sc] 69 0;have q1:=aS w #[.slice p0 amd.length c0,.slice p1 ame.length c1,.slice p2 ts.length c2,.int .i64 sc] 69 1;have q2:=aS w #[.slice p0 amd.length c0,.slice p1 ame.length c1,.slice p2 ts.length c2,.int .i64 sc] 69 2;have q3:=aS w #[.slice p0 amd.length c0,.slice p1 ame.length c1,.slice p2 ts.length c2,.int .i64 sc] 69 3;simp only [List.getElem?_toArray,List.getElem?_cons_zero,F2] at q0 q1 q2 q3;have DY:=aa (Tu _ _ amd ame ts sc (h.keep hu));have HAW:Hid (∀W,Calls Tryz.prog 26 #[] W fun e w'=>e=.returned (.bool true)/\Up W w'):=aaa;have pW:Hid (CK amd ame ts=false->aar amd ame ts):=aas;have HU:=aa hu;have HN:=aa (aj.keep hN (hu.kept _));have HT:=aa (hT.keep (hu.kept _));clear h hN hS hT hu;go_in;go_wp2_with fail;generalize w.alloc (.cells #[.slice p0 amd.length c0,.slice p1 ame.length c1,.slice p2 ts.length c2,.int .i64 sc] 69)=w1 at *;refine DY.out.mono ?_;rintro e w2 ⟨rfl,aI⟩;have b7:=aa aI;replace q0:=aI.cell q0;replace q2:=aI.cell q2;clear aI DY q1 q3;cases hg:CK amd ame ts
 ·have hok:=pW.out hg
  have oB:=aa (aj.keep HN.out (b7.out.kept _));have wE:=aa (HT.out.keep (b7.out.kept _));have gA:=aa (ac0 Any w2 _ _ amd ts oB.out hok.n hok.nz hok.n5 wE.out (by have:=hok.t;omega) hok.tz);have lZ:Hid (∀W,Up w2 W->Calls Tryz.prog 50 #[.slice p0 amd.length c0,.slice p2 ts.length c2] W (vO W amd ts)):=fun W hW=>aap Any W _ _ amd ts (aj.keep oB.out (hW.kept _)) hok.n hok.nz hok.n5 (wE.out.keep (hW.kept _)) (by have:=hok.t;omega) hok.tz;have dM:=aa (aaq amd ts);clear hok hg pW HN HT;unfold vO at gA lZ;generalize RY amd ts=ce at *;generalize Kz amd ts=T at *;go_wp2_with fail;refine gA.out.mono ?_;rintro e w3 ⟨cR,_,rfl,P3,N3,rfl,hP3,hN3⟩;obtain ⟨pp,pc,rfl,-,-⟩:=aq.open hP3;obtain ⟨np,nc,rfl,-,-⟩:=aq.open hN3;have nY:=Up.alloc w3 (.cells #[.slice pp T.ps.length pc,.slice np T.ns.length nc] 39);obtain ⟨r0,r1,-,-⟩:=boxed (iN (w:=w3) (P:=.slice pp T.ps.length pc) (N:=.slice np T.ns.length nc) (T:=39));have HTA:Hid (aG Any (w3.alloc (.cells #[.slice pp T.ps.length pc,.slice np T.ns.length nc] 39)) (.agg #[.slice pp T.ps.length pc,.slice np T.ns.length nc]) T):=aG.keep ⟨_,_,rfl,hP3,hN3⟩ (nY.kept _);have eW:=aa (cR.trans nY);replace q0:=(cR.trans nY).cell q0;replace q2:=(cR.trans nY).cell q2;have AQ:=aa (lZ.out _ eW.out);clear cR hP3 hN3 nY gA lZ;go_wp2_with fail;generalize w3.alloc (.cells #[.slice pp T.ps.length pc,.slice np T.ns.length nc] 39)=w4 at *;refine AQ.out.mono ?_;rintro e w5 ⟨gJ,_,rfl,P5,N5,rfl,FQ,FR⟩;obtain ⟨pq,pd,rfl,-,-⟩:=aq.open FQ;obtain ⟨nq,nd,rfl,-,-⟩:=aq.open FR;have OJ:=Up.alloc w5 (.cells #[.slice pq T.ps.length pd,.slice nq T.ns.length nd] 39);obtain ⟨s0,s1,-,-⟩:=boxed (iN (w:=w5) (P:=.slice pq T.ps.length pd) (N:=.slice nq T.ns.length nd) (T:=39));have Mf:aG Any (w5.alloc (.cells #[.slice pq T.ps.length pd,.slice nq T.ns.length nd] 39)) (.agg #[.slice pq T.ps.length pd,.slice nq T.ns.length nd]) T:=aG.keep ⟨_,_,rfl,FQ,FR⟩ (OJ.kept _);have hst:=DF Any Any _ _ _ T T (HTA.out.keep ((gJ.trans OJ).kept _)) Mf dM.out.1 dM.out.2;rw [decide_eq_true rfl] at hst;have HST:=aa hst;have kK:=aa (((HU.out.trans b7.out).trans eW.out).trans (gJ.trans OJ));replace r0:=(gJ.trans OJ).cell r0;replace r1:=(gJ.trans OJ).cell r1;clear gJ FQ FR OJ Mf hst AQ HTA q0 q2;have d1:(ce==ce)=true:=by simp
  go_wp2_with fail;generalize w5.alloc (.cells #[.slice pq T.ps.length pd,.slice nq T.ns.length nd] 39)=w6 at *;refine HST.out.mono ?_;rintro e w7 ⟨rfl,nZ⟩;have G7:=aa (kK.out.trans nZ);clear nZ HST;go_wp2_with fail;refine (HAW.out _).mono ?_;rintro e w8 ⟨rfl,iH⟩;have wN:=aa (G7.out.trans iH);clear iH;go_wp2;go_ret;exact ⟨rfl,wN.out⟩
 ·clear pW HN HT hg
  go_wp2_with fail;refine (HAW.out _).mono ?_;rintro e w8 ⟨rfl,iH⟩;have wN:=aa ((HU.out.trans b7.out).trans iH);clear iH;go_wp2;go_ret;exact ⟨rfl,wN.out⟩
end
end Go.Proofs.YthgabkgmkolobaaGreat
