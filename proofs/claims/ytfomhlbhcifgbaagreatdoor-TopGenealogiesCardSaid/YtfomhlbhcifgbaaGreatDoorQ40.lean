/- optimaltree.score, Score. Plain: valid stemmata as the law of TopGenealogies has them .. -/
import Derived.Test.YtfomhlbhcifgbaaGreatDoorQ38
set_option maxRecDepth 100000
set_option maxHeartbeats 800000
namespace Go.Proofs.YtfomhlbhcifgbaaGreatDoor
section
open Go.RowKit Go.Deep
def tL (t:aA) (acF:List ByteArray) (acG:List (List Int)):Value:=.tuple #[.int .i64 (if qz t acF then dX t acF acG else 0),.int .i64 (if qz t acF then 0 else 9)]
theorem Dg {f:Nat->Int}:∀ {n:Nat},(∀p,p<n->0<=f p/\f p<=100000)->0<=aY f n/\aY f n<=100000*n
 | 0,_=>⟨jN _,jN _⟩
 | n+1,h=>by
  have h1:=Dg (f:=f) (n:=n) fun p hp=>h p (by omega)
  have h2:=h n (by omega)
  rw [dS]
  omega
theorem OG {acG:List (List Int)} (h:eo acG=0):acG.length<=32/\(gl acG 0).length<=4096:=by
 unfold eo at h;split at h
 ·cases h
 ·split at h
  ·cases h
  ·rename_i h1;omega
theorem OH (S:Nat->Prop) (w:World) (v vn vs:Value) (t:aA) (acF:List ByteArray) (acG:List (List Int)) (hT:aJ S w v t) (ht:aF t=0) (hz:∀k,(gs t.ns k).size<=70000) (h:aC S w vn acF) (hS:aS S w vs acG) (hc:lG acF acG) :
  Calls Tryz.prog 23 #[v,vn,vs] w fun e w'=>e=.returned (tL t acF acG)/\Up w w':=by
 obtain ⟨hp1,CD,hnl,hok,-⟩:=aG ht;have hlv:=tR t.ns;obtain ⟨P,N,rfl,hP,hN⟩:=hT;obtain ⟨np,nc,rfl,-,-⟩:=aB.open hN;have hN:aC S w (.slice np t.ns.length nc) t.ns:=hN;obtain ⟨pp,pc,rfl,-,-⟩:=aB.open hP;have hP:af S w (.slice pp t.ps.length pc) t.ps:=hP;obtain ⟨mp,mc,rfl,-,-⟩:=aB.open h;have h:aC S w (.slice mp acF.length mc) acF:=h;obtain ⟨sp,sc,rfl,-,-⟩:=eE hS;obtain ⟨ag0,agr⟩:=B8 hc.ag;obtain ⟨YF,ag4⟩:=OG hc.ag;have aM:Up w (w.alloc (.cells #[.slice pp t.ps.length pc,.slice np t.ns.length nc] 33)):=Up.alloc _ _
 have hrb:=uK (w:=w) (P:=.slice pp t.ps.length pc) (N:=.slice np t.ns.length nc) (T:=33);obtain ⟨q0,q1,-,-⟩:=boxed hrb;have p6:aJ S (w.alloc (.cells #[.slice pp t.ps.length pc,.slice np t.ns.length nc] 33)) (.agg #[.slice pp t.ps.length pc,.slice np t.ns.length nc]) t:=⟨_,_,rfl,af.keep hP (aM.kept S),aC.keep hN (aM.kept S)⟩;have rZ:=aa (RL S (w.alloc (.cells #[.slice pp t.ps.length pc,.slice np t.ns.length nc] 33)) _ _ t acF p6 (by omega) (by omega) hz (aC.keep h (aM.kept S)) (by have:=hc.nm.hi;omega));have DZ:=aa p6
 have jB:=aa (aS.keep hS (aM.kept S));have bU:=aa aM;have HB:Hid (wZ t acF=qz t acF):=by unfold Hid wZ;rw [decide_eq_true ht];rfl
 have tJ:Hid (∀W v u st,aJ S W v t->af Any W u st->st.length<=64->Calls Tryz.prog 48 #[v,u] W (Nf W t st)):=fun W v u st h1 h2 h3=>Uq Any W v u t st (h1.sub fun _ _ _=>trivial) h2 (by omega) (by omega) hz (by omega);have zR:=aa agr;have Ku:=aa (And.intro ag0 (And.intro YF ag4));have Iy:Hid ((aq t.ns).length<=64):=by unfold Hid;omega
 have kP:=aa hc.len;have HST:Hid (tL t acF acG=.tuple #[.int .i64 (if qz t acF then dX t acF acG else 0),.int .i64 (if qz t acF then 0 else 9)]):=rfl;have HVA:Hid (qz t acF=true->∀p,p<(gl acG 0).length->cI t (gj t acF acG p) (bT 16)<=100000/\0<=cI t (gj t acF acG p) (bT 16)/\gZ t (gj t acF acG p) (bT 16)=0):=fun hf p hp=>by have hv:=qd hc ((Ik hc.nm ht).1 hf) hp;exact ⟨Ds hv,rz hv,hv.par⟩
 have HFD:Hid (qz t acF=true->∀j,j<(aq t.ns).length->∃b:Nat,gi (tI t acF (aq t.ns).length) j=b/\b<acF.length):=fun hf j hj=>by have ho:=(Ik hc.nm ht).1 hf;obtain ⟨v,hv,xQ,hv0⟩:=mW hj;obtain ⟨b,hb,_,e⟩:=B5 ho (show v<t.ps.length by omega) hv0;exact ⟨b,by rw [Ox hj,hv,ei,e],hb⟩
 clear hP hN h hS aM hrb hz p6 hc ht agr ag0 YF ag4 hok hp1 CD hnl hlv;go_in;go_wp2_with fail;generalize w.alloc (.cells #[.slice pp t.ps.length pc,.slice np t.ns.length nc] 33)=w1 at *;refine rZ.out.mono ?_;rintro e w2 ⟨aK,pv,rfl,hpv⟩;rw [HB.out] at hpv ⊢;cases hfit:qz t acF
 ·have Cc:Hid (tL t acF acG=.tuple #[.int .i64 0,.int .i64 9]):=by unfold Hid;rw [HST.out,hfit];rfl
  have ny:Hid (Ending.returned (.tuple #[.int .i64 0,.int .i64 9])=Ending.returned (tL t acF acG)/\Up w w2):=⟨by rw [Cc.out],bU.out.trans aK⟩;clear hpv aK rZ;go_wp2;go_ret2;exact ny.out
 ·have hpi:=hpv hfit
  obtain ⟨rp,rc,rfl,-,-⟩:=aB.open hpi;rw [uU] at hpi;rw [uU];have VB:=aa hpi;have Cc:Hid (tL t acF acG=.tuple #[.int .i64 (dX t acF acG),.int .i64 0]):=by unfold Hid;rw [HST.out,hfit];rfl
  have YG:=aa (HVA.out hfit);have aaW:=aa (HFD.out hfit);have bF:=aa (bU.out.trans aK);have zC:=aa (DZ.out.keep (aK.kept S));have td:=aa (jB.out.keep (aK.kept S));have HQ:=aa (And.intro (aK.cell q0) (aK.cell q1));obtain ⟨sb,so,s0,s1,rfl,hc0,gT⟩:=dV td.out Ku.out.1;rw [Nat.add_zero] at hc0;have i1:(0:Int)<(acG.length:Int):=by have:=Ku.out.1;omega
  clear hpv hpi aK rZ DZ jB HST HVA HFD q0 q1 gT bU;go_wp2_with fail;have IB:Hid (∀n:Nat,n<=(gl acG 0).length->0<=aY (fun p=>cI t (gj t acF acG p) (bT 16)) n/\aY (fun p=>cI t (gj t acF acG p) (bT 16)) n<=100000*n):=fun n hn=>Dg fun p hp=>by obtain ⟨h1,h2,_⟩:=YG.out p (by omega);exact ⟨h2,h1⟩
  have uw:Hid (∀n:Nat,aY (fun p=>cI t (gj t acF acG p) (bT 16)) (n+1)=aY (fun p=>cI t (gj t acF acG p) (bT 16)) n+cI t (gj t acF acG n) (bT 16)):=fun n=>rfl;have sr:Hid (dX t acF acG=aY (fun p=>cI t (gj t acF acG p) (bT 16)) (gl acG 0).length):=rfl;generalize hF:(fun n=>aY (fun p=>cI t (gj t acF acG p) (bT 16)) n)=F at *;have Kw:∀n,aY (fun p=>cI t (gj t acF acG p) (bT 16)) n=F n:=fun n=>by rw [<- hF]
  have HF0:Hid (F 0=0):=by unfold Hid;rw [<- Kw];rfl
  have IB:Hid (∀n:Nat,n<=(gl acG 0).length->0<=F n/\F n<=100000*n):=fun n hn=>by rw [<- Kw];exact IB.out n hn
  have uw:Hid (∀n:Nat,F (n+1)=F n+cI t (gj t acF acG n) (bT 16)):=fun n=>by rw [<- Kw,<- Kw];exact uw.out n
  have sr:Hid (dX t acF acG=F (gl acG 0).length):=by unfold Hid;rw [<- Kw];exact sr.out
  clear hF Kw
  go_loopw [10,11,12,14,15,16,29] (fun s _ _ _ _ _ i wr=>∃n:Nat,n<=(gl acG 0).length/\i=.int .i64 n/\s=.int .i64 (F n)/\Hid (Up w2 wr)) (fun _ _ _ _ _ _ i _=>(gl acG 0).length - (intOf i).toNat)
  case atStart=>exact ⟨0,bg _,rfl,by rw [HF0.out],Up.refl _⟩
  case round =>
   obtain ⟨n,hn,rfl,rfl,hU⟩:=hrel;obtain ⟨wo,rfl⟩:=e9 wr;by_cases hlt:n<(gl acG 0).length
   ·have i2:(n:Int)<((gl acG 0).length:Int):=by omega
    (have i3:(n:Int)<4096:=by have:=Ku.out.2.2;omega);(have i4:(0:Int)<=(n:Int):=by omega);have zM:=IB.out n hn;have hf2:=IB.out (n+1) hlt;rw [uw.out n] at hf2;obtain ⟨YH,hv2,hv3⟩:=YG.out n hlt;have HV:=aa (And.intro zM (And.intro hf2 (And.intro YH (And.intro hv2 hv3))));have uX:Hid (au wo.heap.size 3 wo (.slice none 0 0) ((oA t acF (wz acG n) 0).map (Value.int .i64))/\Up wo wo):=⟨au.nil _ _ _,Up.refl _⟩;clear zM hf2 YH hv2 hv3;go_wp2
    go_loopw [12,14,34] (fun o _ i wr=>∃j:Nat,j<=(aq t.ns).length/\i=.int .i64 j/\Hid (au wo.heap.size 3 wr o ((oA t acF (wz acG n) j).map (Value.int .i64))/\Up wo wr)) (fun _ _ i _=>(aq t.ns).length - (intOf i).toNat)
    case atStart=>exact ⟨0,bg _,rfl,uX.out⟩
    case round =>
     obtain ⟨j,hj,rfl,hI⟩:=hrel;obtain ⟨wi,rfl⟩:=e9 wr;obtain ⟨hA,mJ⟩:=hI.out;by_cases hlj:j<(aq t.ns).length
     ·obtain ⟨b,hb1,hb2⟩:=aaW.out j hlj
      obtain ⟨xb,xo,rfl,qD⟩:=dh (af.keep VB.out ((hU.out.trans mJ).kept _)) (k:=j) (by rw [uU];exact hlj);rw [hb1] at qD;(have wL:b<acG.length:=by rw [kP.out];exact hb2);obtain ⟨rb,ro,r0,r1,er,OI,hir⟩:=dV (aS.keep td.out ((hU.out.trans mJ).kept S)) wL;injection er with er;injection er with OJ OL;subst OJ;subst OL;rw [(zR.out b wL).1] at OI;obtain ⟨yb,yo,rfl,hcy⟩:=dh hir (k:=n) (by rw [(zR.out b wL).1];exact hlt)
      (have yJ:Hid ((oA t acF (wz acG n) (j+1)).map (Value.int .i64)=(oA t acF (wz acG n) j).map (Value.int .i64)++[.int .i64 (gi (gl acG b) n)]):=by unfold Hid;(have e2:kr acF (gs t.ns (gi (aq t.ns) j).toNat)=b:=by rw [<- Ox hlj];exact hb1);rw [Oi,cm,e2,ei,Il _ _ wL];rfl);(have b6:Hid (((oA t acF (wz acG n) j).map (Value.int .i64)).length=j):=by unfold Hid;rw [aD,sj]);have HA:=aa hA;have TI:=aa mJ;have hsz:=mJ.size;have k1:(0:Int)<=(j:Int):=by omega
      (have k2:(j:Int)<((aq t.ns).length:Int):=by omega);(have k3:(j:Int)<64:=by have:=Iy.out;omega);(have k4:(0:Int)<=(b:Int):=by omega);(have k5:(b:Int)<(acG.length:Int):=by omega);generalize gi (gl acG b) n=y at *;clear hI hA mJ hlj hir hb1 hb2 wL;go_wp2_with (at_builtin;refine zx wi rfl _ _ 27 rfl wo.heap.size 3 _ 8 Tryz.underlying27 Tryz.pF rfl (by decide) HA.out rfl _ rfl rfl j b6.out (by omega) hsz ?_;intro g cap w8 hown1 hg1 ym)
      (have Yz:Hid (au wo.heap.size 3 w8 (.slice (some ⟨g,0,none⟩) (j+1) cap) ((oA t acF (wz acG n) (j+1)).map (Value.int .i64))):=by unfold Hid;rw [yJ.out];exact hown1);have lg:Hid (Up wo w8):=dI TI.out ym;clear hown1 hg1 ym
      go_roundw
      case rel=>exact ⟨j+1,by omega,by go_num,Yz.out,lg.out⟩
      case measure=>simp [intOf];omega
     ·obtain rfl:j=(aq t.ns).length:=by omega
      obtain ⟨op,oc,rfl,-⟩:=hA.form (n:=(aq t.ns).length) (by rw [aD,sj]);have Cg:=aa (tJ.out wi _ (.slice op (aq t.ns).length oc) (gj t acF acG n) (zC.out.keep ((hU.out.trans mJ).kept S)) (hA.ints.sub fun _ _ _=>trivial) (by unfold gj;rw [sj];exact Iy.out));have q0:=(hU.out.trans mJ).cell HQ.out.1;have q1:=(hU.out.trans mJ).cell HQ.out.2;have HUi:=aa (hU.out.trans mJ);have qa:=aa (uw.out n);clear hI hA mJ hlj hj;obtain ⟨zM,hf2,YH,hv2,hv3⟩:=HV.out;have HV3:=aa hv3;clear hv3;generalize F n=fn at *;go_wp2_with fail
      refine Cg.out.mono ?_;rintro e w9 ⟨jD,rfl⟩;have YI:=aa (HUi.out.trans jD);rw [HV3.out];clear jD Cg;generalize cI t (gj t acF acG n) (bT 16)=z at *;(have Wv:fn+z<=409600000/\0<=fn+z:=by constructor<;>omega);go_wp2
      go_roundw
      case rel=>exact ⟨n+1,by omega,by go_num,by rw [qa.out],YI.out⟩
      case measure=>simp [intOf];omega
   ·obtain rfl:n=(gl acG 0).length:=by omega
    have ny:Hid (Ending.returned (.tuple #[.int .i64 (F (gl acG 0).length),.int .i64 0])=Ending.returned (tL t acF acG)/\Up w wo):=⟨by rw [Cc.out,sr.out],bF.out.trans hU.out⟩;clear hlt;go_wp2;go_ret2;exact ny.out
end
section
theorem yK {t:aA} (ht:aF t=0):xB (aH t):=fun i hi=>by
 obtain ⟨j9,_,_,hok,_⟩:=aG ht
 rw [cG] at hi
 obtain ⟨h1,h2,_⟩:=pV hok hi
 rw [oL hi]
 split
 ·exact ⟨fun p hp=>(by cases hp),fun k hk=>by simp at hk⟩
 ·rename_i h0
  refine ⟨fun p hp=>?_,fun k hk=>by simp at hk⟩
  rw [eN.1 hp]
  omega
theorem RS {a b:Int} (h:a≠b):∃x y,dK [a,b]=[x,y]/\x<y/\((x=a/\y=b)\/(x=b/\y=a)):=by
 by_cases hab:a<=b
 ·exact ⟨a,b,by unfold dK;simp [List.mergeSort,hab],by omega,.inl ⟨rfl,rfl⟩⟩
 ·exact ⟨b,a,by unfold dK;simp [List.mergeSort,hab],by omega,.inr ⟨rfl,rfl⟩⟩
theorem RU {t:aA} (ht:aF t=0) {c p:Nat} (h:dw (aH t) c p):xB (bk (aH t) c p):=fun i hi=>by
 have hr:=yK ht
 rw [iq] at hi
 obtain ⟨r1,r2⟩:=hr i hi
 rw [qZ hi]
 split
 ·rename_i e
  subst e
  obtain ⟨hc,hp,hn⟩:=h
  rw [cG] at hi
  rw [oL hi,if_neg (by omega)] at hn r1 ⊢
  have hq:=r1 _ (eN.2 rfl)
  obtain ⟨x,y,e,hxy,dr⟩:=RS (a:=gi t.ps i) (b:=(p:Int)) (fun e=>hn (by rw [e];simp))
  show (∀q∈dK [gi t.ps i,(p:Int)],_)/\∀k,k+1<(dK [gi t.ps i,(p:Int)]).length->gi (dK [gi t.ps i,(p:Int)]) k<gi (dK [gi t.ps i,(p:Int)]) (k+1)
  rw [e]
  refine ⟨fun q xG=>?_,fun k hk=>?_⟩
  ·have:q=x\/q=y:=by simpa using xG
   omega
  ·have:k=0:=by simp at hk;omega
   subst this
   simpa [gi] using hxy
 ·exact ⟨r1,r2⟩
theorem OM {t:aA} {ns:List ByteArray} (ht:aF t=0) (hs:fD ns (aH t)) {c p:Nat} (h:dw (aH t) c p):fD ns (bk (aH t) c p) :=
 ⟨hs.pos,hs.le,by rw [iq];exact hs.len,hs.nm,hs.nd,RU ht h⟩
theorem IC {st:List Int} (h:(dd (bJ st)).length<=2):(bM st).length<=2:=by
 unfold bM;split
 ·simp
 ·rw [MU];exact h
theorem RX {acF:List ByteArray} (hn:iE acF) (h4:acF.length<=4) {t:aA} (ht:t∈allT acF):3<=t.ps.length/\t.ps.length<=7:=by
 obtain ⟨_,q,hq,rfl⟩:=ri hn ht;have h1:=(iX hn hq).2.2.1;have h2:=oZ q;have:=hn.lo;omega
theorem RY {t:aA} {c p:Nat} (h:dw (aH t) c p):gl (aH t) c≠[]:=by
 obtain ⟨hc,hp,_⟩:=h;rw [cG] at hc;rw [oL hc,if_neg (by omega)];simp
end
end Go.Proofs.YtfomhlbhcifgbaaGreatDoor
