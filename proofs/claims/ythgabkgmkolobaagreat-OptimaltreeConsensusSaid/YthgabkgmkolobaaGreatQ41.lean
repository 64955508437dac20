/- The contracts of layer 32's reference's .. -/
import Derived.Test.YthgabkgmkolobaaGreatQ36
set_option maxRecDepth 100000
set_option maxHeartbeats 4000000
namespace Go.Proofs.YthgabkgmkolobaaGreat
section
open Go.RowKit Go.Deep
theorem Bf {a b:ByteArray}:(a.toList==b.toList)=decide (a=b):=by
 rw [mW,beq_iff_eq,decide_eq_true_eq,toList_data,toList_data];exact ⟨fun h=>yD h,fun h=>by rw [h]⟩
theorem Sr {amd:List ByteArray} {s:ByteArray} {k:Nat} (hk:k<amd.length) (h:gs amd k=s) (hb:∀j,j<k->gs amd j≠s):dD amd s=(k:Int) :=
 gG hk (fun j hj=>decide_eq_false fun e=>hb j hj e.symm) (decide_eq_true h.symm)
theorem ah1 {amd:List ByteArray} {s:ByteArray} (hb:∀j,j<amd.length->gs amd j≠s):dD amd s = -1 :=
 dZ fun j hj=>decide_eq_false fun e=>hb j hj e.symm
theorem FT (S:Nat->Prop) (w:World) (v:Value) (amd:List ByteArray) (s:ByteArray) (h:aj S w v amd) (hn:amd.length<=1000000) :
  Calls Tryz.prog 160 #[v,.string s] w fun e w'=>e=.returned (.int .i64 (dD amd s))/\w=w':=by
 obtain ⟨pp,pc,rfl,_,_⟩:=aq.open h;have H:aj S w (.slice pp amd.length pc) amd:=h;have HH:=aa H;have lQ:=aa hn;clear h H hn;go_in;go_wp2
 go_loop [5] (fun i=>∃k:Nat,k<=amd.length/\i=.int .i64 k/\Hid (∀j,j<k->gs amd j≠s)) (fun i=>amd.length - (intOf i).toNat)
 case atStart=>exact ⟨0,aF _,rfl,fun j hj=>by omega⟩
 case round =>
  obtain ⟨k,hk,rfl,hno⟩:=hrel;by_cases hlt:k<amd.length
  ·obtain ⟨b,off,rfl,hc⟩:=cH HH.out hlt
   (have i1:(0:Int)<=(k:Int):=by omega);(have i2:(k:Int)<(amd.length:Int):=by omega);have u7:=aa hno.out;have aR:=aa hlt;clear hno hk hlt;by_cases e:gs amd k=s
   ·have t1:((gs amd k).toList==s.toList)=true:=by rw [Bf];exact decide_eq_true e
    have HR:Hid (dD amd s=(k:Int)):=Sr aR.out e u7.out;clear e;go_wp2;go_ret;exact ⟨aC (by rw [HR.out]),rfl⟩
   ·have t1:((gs amd k).toList==s.toList)=false:=by rw [Bf];exact decide_eq_false e
    have HE:=aa e;(have i3:(k:Int)<1000000:=by have:=lQ.out;have:=aR.out;omega);clear e;go_wp2
    go_round
    case rel=>exact ⟨k+1,aR.out,by go_num,fun j hj=>by
     by_cases q:j=k
     ·subst q;exact HE.out
     ·exact u7.out j (by omega)⟩
    case measure=>have:=aR.out;simp [intOf];omega
  ·obtain rfl:k=amd.length:=by omega
   have HR:Hid (dD amd s = -1):=ah1 hno.out;clear hno hk hlt;go_wp2;go_ret;exact ⟨aC (by rw [HR.out]),rfl⟩
theorem ac3 {ps:List Int} {n:Nat} (hp:jB ps=true) (hn:n<ps.length) (h0:n≠0):fJ ps n 0=false:=by
 cases e:fJ ps n 0 with
 | false=>rfl
 | true=>have:=uA hp (show 0<ps.length by omega) e;omega
theorem W4 (S:Nat->Prop) (w:World) (v:Value) (t:ax) (a b:Nat) (hT:aG S w v t) (hok:jB t.ps=true) (ha:a<t.ps.length) (hb:b<t.ps.length) :
  Calls Tryz.prog 152 #[v,.int .i64 a,.int .i64 b] w fun e w'=>e=.returned (.bool (fJ t.ps b a))/\Up w w':=by
 obtain ⟨P,N,rfl,hP,hN⟩:=hT;obtain ⟨pp,pc,rfl,_,_⟩:=aq.open hP;have hP:af S w (.slice pp t.ps.length pc) t.ps:=hP;have hu:=Up.alloc w (.cells #[.slice pp t.ps.length pc,N] 39);have hc0:=iq w (.slice pp t.ps.length pc) N 39;have HP1:=aa (af.keep hP (hu.kept S));have HU:=aa hu;have xF:=aa hok;have lV:=aa hc0;have HA:=aa (And.intro ha hb);clear hu hP hN hok ha hb;go_in;go_wp2_with fail;generalize w.alloc (.cells #[.slice pp t.ps.length pc,N] 39)=w1 at *;clear hc0
 go_loop [1] (fun q=>∃k:Nat,k<=a+1/\q=.int .i64 ((k:Int) - 1)/\Hid ((k=0->fJ t.ps b a=false)/\(0<k->fJ t.ps b a=fJ t.ps b (k - 1)))) (fun q=>((intOf q)+1).toNat)
 case atStart=>exact ⟨a+1,ah _,by congr 1;omega,fun h=>by omega,fun _=>rfl⟩
 case round =>
  obtain ⟨k,hk,rfl,hc⟩:=hrel;have hc0:=lV.out;cases k with
  | zero =>
   have HR:Hid (fJ t.ps b a=false):=hc.out.1 rfl;have d1:decide ((0:Int)<=(((0:Nat):Int) - 1))=false:=rfl;clear hc hk;go_wp2;go_ret;exact ⟨aO (by rw [HR.out]),HU.out⟩
  | succ k =>
   (have hq:((((k+1:Nat):Int)) - 1)=(k:Int):=by omega);rw [hq];(have jt:k<t.ps.length:=by have:=HA.out.1;omega);have hR:=hc.out.2 (by omega);rw [wm] at hR;have HR:=aa hR;(have j3:(0:Int)<=(k:Int):=by omega);(have j4:(k:Int)<(t.ps.length:Int):=by omega);by_cases e:k=b
   ·have t1:((k:Int)==(b:Int))=true:=beq_iff_eq.2 (by omega)
    (have HT:Hid (fJ t.ps b a=true):=by unfold Hid;rw [hR,e];exact Dj b);clear hc hR hq hk e;go_wp2;go_ret;exact ⟨aO (by rw [HT.out]),HU.out⟩
   ·have t1:((k:Int)==(b:Int))=false:=beq_eq_false_iff_ne.2 (by omega)
    obtain ⟨b2,off,rfl,hcell⟩:=bU HP1.out jt;obtain ⟨p,hp,hpk,JF⟩:∃p:Nat,gi t.ps k=(p:Int) - 1/\p<=k/\(p=0->fJ t.ps b k=false)/\(0<p->fJ t.ps b k=fJ t.ps b (p - 1)):=by
     by_cases k0:k=0
     ·subst k0
      refine ⟨0,YL xF.out jt,ah _,fun _=>ac3 xF.out HA.out.2 (fun q=>e q.symm),fun h=>by omega⟩
     ·have hpar:=rA xF.out jt (by omega)
      refine ⟨(gi t.ps k).toNat+1,by omega,by omega,fun h=>by omega,fun _=>?_⟩;rw [wm];by_cases hbk:b<k
      ·exact tE xF.out jt hbk
      ·have h1:fJ t.ps b k=false:=by
        cases q:fJ t.ps b k with
        | false=>rfl
        | true=>have:=uA xF.out jt q;omega
       have h2:fJ t.ps b (gi t.ps k).toNat=false:=by
        cases q:fJ t.ps b (gi t.ps k).toNat with
        | false=>rfl
        | true=>have:=uA xF.out (show (gi t.ps k).toNat<t.ps.length by omega) q;omega
       rw [h1,h2]
    rw [hp] at hcell;have D1:=aa JF;have r8:=aa hpk;have Yi:=aa hk;clear hc hR hq hk JF hp hpk e;go_wp2
    go_round
    case rel=>exact ⟨p,by have:=r8.out;have:=Yi.out;omega,rfl,fun h=>by rw [HR.out];exact D1.out.1 h,fun h=>by rw [HR.out];exact D1.out.2 h⟩
    case measure=>have:=r8.out;simp [intOf];omega
theorem Ss:∀ {a b:List Int} {k:Nat},k<a.length->k<b.length->(∀j,j<k->gi a j=gi b j)->gi a k≠gi b k->decide (cmpL a b<0)=decide (gi a k<gi b k)
 | [],_,k,h,_,_,_=>by simp at h
 | _::_,[],k,_,h,_,_=>by simp at h
 | x::a,y::b,0,_,_,_,hne=>by
  have hne:x≠y:=hne
  show _=decide (x<y)
  rw [cmpL]
  by_cases c:x<y
  ·rw [if_pos c];simp [c]
  ·rw [if_neg c,if_pos (by omega)];simp [c]
 | x::a,y::b,k+1,h1,h2,h3,hne=>by
  have h0:x=y:=h3 0 (by omega)
  rw [cmpL,if_neg (by omega),if_neg (by omega)]
  exact Ss (by simpa using h1) (by simpa using h2) (fun j hj=>h3 (j+1) (by omega)) hne
theorem I2:∀ {a b:List Int},(∀j,j<a.length->j<b.length->gi a j=gi b j)->decide (cmpL a b<0)=decide (a.length<b.length)
 | [],[],_=>rfl
 | [],_::_,_=>by simp [cmpL]
 | _::_,[],_=>by simp [cmpL]
 | x::a,y::b,h=>by
  have h0:x=y:=h 0 (by simp) (by simp)
  rw [cmpL,if_neg (by omega),if_neg (by omega),I2 (fun j h1 h2=>h (j+1) (by simpa using h1) (by simpa using h2))]
  simp
theorem ac4 (S T:Nat->Prop) (w:World) (v u:Value) (a b:List Int) (h:af S w v a) (h2:af T w u b) (hn:a.length<=1000000) (hm:b.length<=1000000) :
  Calls Tryz.prog 156 #[v,u] w fun e w'=>e=.returned (.bool (decide (cmpL a b<0)))/\QD w w':=by
 obtain ⟨ap,ac,rfl,_,_⟩:=aq.open h;obtain ⟨bp,bc,rfl,_,_⟩:=aq.open h2;have H1:Hid (af S w (.slice ap a.length ac) a):=h;have H2:Hid (af T w (.slice bp b.length bc) b):=h2;have lQ:=aa (And.intro hn hm);clear h h2 hn hm;go_in;go_wp2
 go_loopw [5] (fun i wr=>∃k q:Nat,k<=a.length/\k<=b.length/\i=.int .i64 k/\Hid (∀j,j<k->gi a j=gi b j)/\wr=w.drewN q) (fun i _=>a.length - (intOf i).toNat)
 case atStart=>exact ⟨0,0,aF _,aF _,rfl,fun j hj=>by omega,(World.drewN_zero w).symm⟩
 case round =>
  obtain ⟨k,q,hk1,hk2,rfl,hno,rfl⟩:=hrel;have u7:=aa hno.out;have HK:=aa (And.intro hk1 hk2);clear hno;by_cases l1:k<a.length
  ·by_cases l2:k<b.length
   ·obtain ⟨b1,o1,rfl,c1⟩:=bU H1.out l1
    obtain ⟨b2,o2,rfl,c2⟩:=bU H2.out l2;have c1:(w.drewN q).cell? ⟨b1,o1+k,none⟩=some (.int .i64 (gi a k)):=c1;have c2:(w.drewN q).cell? ⟨b2,o2+k,none⟩=some (.int .i64 (gi b k)):=c2;(have i1:(0:Int)<=(k:Int):=by omega);(have i2:(k:Int)<(a.length:Int):=by omega);(have i3:(k:Int)<(b.length:Int):=by omega);have HL:=aa (And.intro l1 l2);(have i4:(k:Int)<1000000:=by have:=lQ.out;omega);clear l1 l2 hk1 hk2;by_cases e:gi a k=gi b k
    ·have t1:(gi a k != gi b k)=false:=by rw [bne_eq_false_iff_eq];exact e
     have HE:=aa e;clear e;go_wp2_with fail;(go_big_quiet (fail));go_wp2
     go_roundw
     case rel=>exact ⟨k+1,_,HL.out.1,HL.out.2,by go_num,fun j hj=>by
      by_cases x:j=k
      ·subst x;exact HE.out
      ·exact u7.out j (by omega),rfl⟩
     case measure=>have:=HL.out;simp [intOf];omega
    ·have t1:(gi a k != gi b k)=true:=bne_iff_ne.2 e
     have HR:Hid (decide (cmpL a b<0)=decide (gi a k<gi b k)):=Ss HL.out.1 HL.out.2 u7.out e;clear e;go_wp2_with fail;(go_big_quiet (fail));go_wp2_with fail;(go_big_quiet (fail));go_wp2;go_ret;exact ⟨aO (by rw [HR.out]),((show QD w (w.drewN q) from ⟨q,rfl⟩).drewN _).drewN _⟩
   ·have l2n:¬((k:Int)<(b.length:Int)):=by omega
    have d2:decide ((k:Int)<(b.length:Int))=false:=decide_eq_false l2n;have d1:decide ((k:Int)<(a.length:Int))=true:=decide_eq_true (by omega);have HR:Hid (decide (cmpL a b<0)=decide (a.length<b.length)):=I2 fun j h1 h2=>u7.out j (by omega);(have HD:Hid (decide ((a.length:Int)<(b.length:Int))=decide (a.length<b.length)):=by unfold Hid;simp);(have m1:(k:Int)<(a.length:Int):=by omega);clear hk1 hk2;go_wp2;go_ret;exact ⟨aO (by rw [HR.out]),⟨q,rfl⟩⟩
  ·have HR:Hid (decide (cmpL a b<0)=decide (a.length<b.length)):=I2 fun j h1 h2=>u7.out j (by omega)
   (have HD:Hid (decide ((a.length:Int)<(b.length:Int))=decide (a.length<b.length)):=by unfold Hid;simp);have d1:decide ((k:Int)<(a.length:Int))=false:=decide_eq_false (by omega);(have m1:¬(k:Int)<(a.length:Int):=by omega);clear hk1 hk2;go_wp2;go_ret;exact ⟨aO (by rw [HR.out]),⟨q,rfl⟩⟩
theorem Su {t:ax} {amd:List ByteArray}:kN t amd=true↔∃j,j<t.ns.length/\(gs t.ns j).size≠0/\dD amd (gs t.ns j)<0:=by
 constructor
 ·intro h
  obtain ⟨i,hi,e⟩:=dx.1 h;obtain ⟨j,e1,e2,e3⟩:=lK.1 (sL (bu.1 hi));have e:=of_decide_eq_true e;rw [e1,fc] at e;exact ⟨j,e2,e3,e⟩
 ·rintro ⟨j,h1,h2,h3⟩
  obtain ⟨i,hi,e⟩:=Dm (lK.2 ⟨j,rfl,h1,h2⟩);exact dx.2 ⟨i,bu.2 hi,decide_eq_true (by rw [e,fc];exact h3)⟩
theorem afm {amd:List ByteArray} {k:Nat} (hk:k<amd.length):cW amd k=!decide (dD amd (gs amd k)=(k:Int)):=by
 cases h:cW amd k with
 | false =>
  have:dD amd (gs amd k)=(k:Int):=Sr hk rfl fun j hj e=>by have:=any_false h hj;rw [e] at this;simp at this
  rw [this];simp
 | true =>
  obtain ⟨j,hj,e⟩:=dx.1 h;have hj:=bu.1 hj;have e:=of_decide_eq_true e;have:¬dD amd (gs amd k)=(k:Int):=fun q=>by obtain ⟨_,_,h3⟩:=qQ (p:=fun j=>decide (gs amd k=gs amd j)) q;have:=h3 j hj;rw [e] at this;simp at this
  rw [decide_eq_false this];rfl
theorem ac5 (S T:Nat->Prop) (w:World) (v u:Value) (t:ax) (amd:List ByteArray) (hT:aG S w v t) (hV:aj T w u amd) (hp:t.ps.length<=1000000) (hn:t.ns.length<=1000000) (hz:∀k,(gs t.ns k).size<=70000) (hm:amd.length<=1000000) :
  Calls Tryz.prog 151 #[v,u] w fun e w'=>e=.returned (.int .i64 (cF t amd))/\Up w w':=by
 obtain ⟨P,N,rfl,hP,hN⟩:=hT;obtain ⟨pn,pm,rfl,-,-⟩:=aq.open hN;obtain ⟨up,uc,rfl,-,-⟩:=aq.open hV;have hN:aj S w (.slice pn t.ns.length pm) t.ns:=hN;have hV:aj T w (.slice up amd.length uc) amd:=hV;have hu:=Up.alloc w (.cells #[P,.slice pn t.ns.length pm] 39);have Cq:Hid (aG S (w.alloc (.cells #[P,.slice pn t.ns.length pm] 39)) (.agg #[P,.slice pn t.ns.length pm]) t):=aG.keep ⟨P,_,rfl,hP,hN⟩ (hu.kept _);have o5:=aa (aj.keep hN (hu.kept S));have HV1:=aa (aj.keep hV (hu.kept T));have gw:=aa (Im S _ _ t Cq.out hp hn hz);have HU:=aa hu;have lV:=aa (iq w P (.slice pn t.ns.length pm) 39);have gA:=aa (jg w P (.slice pn t.ns.length pm) 39);have hc0:=lV.out;have hc1:=gA.out;have lQ:=aa (And.intro hn hm);clear hu hP hN hV hp hn hm hz;go_in;go_wp2_with fail;generalize w.alloc (.cells #[P,.slice pn t.ns.length pm] 39)=w1 at *;refine gw.out.mono ?_;rintro e w2 ⟨rfl,hb2⟩;have aI:Up w1 w2:=hb2;have gA:=aa (aI.cell gA.out);have oB:=aa (o5.out.keep (aI.kept S));have UW:=aa (HV1.out.keep (aI.kept T));have b7:=aa (HU.out.trans aI);clear hb2 aI gw Cq HU o5 HV1 lV hc0 hc1;by_cases he:aA t=0
 ·have Ua:Hid (cF t amd=if 32<amd.length then 4 else if zy amd then 7 else if (ay t.ns).length≠amd.length\/kN t amd=true then 9 else 0):=by
   unfold Hid cF;rw [if_neg (by simp [he])]
  have Aj:Hid (t.ns.length<=64):=by
   obtain ⟨-,h64,hnl,-,-⟩:=aH he
   unfold Hid;omega
  rw [he]
  clear he
  by_cases c1:32<amd.length
  ·have d1:(32:Int)<(amd.length:Int):=by omega
   have k8:Hid (cF t amd=4):=by unfold Hid;rw [Ua.out,if_pos c1]
   go_wp2
   go_ret
   exact ⟨aC (by rw [k8.out]),b7.out⟩
  ·have d1:¬(32:Int)<(amd.length:Int):=by omega
   have k8:Hid (cF t amd=if zy amd then 7 else if (ay t.ns).length≠amd.length\/kN t amd=true then 9 else 0):=by unfold Hid;rw [Ua.out,if_neg c1]
   have GL:Hid (amd.length<=32):=by unfold Hid;omega
   go_wp2_with fail
   clear c1 d1 Ua
   go_loop [5] (fun i=>∃k:Nat,k<=amd.length/\i=.int .i64 k/\Hid (∀j,j<k->cW amd j=false)) (fun i=>amd.length - (intOf i).toNat)
   case atStart=>exact ⟨0,aF _,rfl,fun j hj=>by omega⟩
   case round =>
    obtain ⟨k,hk,rfl,hno⟩:=hrel
    by_cases hlt:k<amd.length
    ·obtain ⟨b,off,rfl,hc⟩:=cH UW.out hlt
     have i1:(0:Int)<=(k:Int):=by omega
     have i2:(k:Int)<(amd.length:Int):=by omega
     have i3:(k:Int)<64:=by have:=GL.out;omega
     have eC:=aa (FT T w2 _ amd (gs amd k) UW.out lQ.out.2)
     have nI:=aa (afm hlt)
     have u7:=aa hno.out
     have aR:=aa hlt
     clear hno hk hlt
     go_wp2_with fail
     refine eC.out.mono ?_
     rintro e w3 ⟨rfl,rfl⟩
     by_cases e:dD amd (gs amd k)=(k:Int)
     ·have t1:(dD amd (gs amd k) != (k:Int))=false:=by rw [e];simp
      have HS:Hid (cW amd k=false):=by unfold Hid;rw [nI.out,decide_eq_true e];rfl
      clear e eC
      go_wp2
      go_round
      case rel=>exact ⟨k+1,aR.out,by go_num,fun j hj=>by
       by_cases x:j=k
       ·subst x;exact HS.out
       ·exact u7.out j (by omega)⟩
      case measure=>have:=aR.out;simp [intOf];omega
     ·have t1:(dD amd (gs amd k) != (k:Int))=true:=bne_iff_ne.2 e
      have HS:Hid (cF t amd=7):=by
       unfold Hid
       have:zy amd=true:=dx.2 ⟨k,bu.2 aR.out,by rw [nI.out,decide_eq_false e];rfl⟩
       rw [k8.out,if_pos this]
      clear eC
      go_wp2
      go_ret
      exact ⟨aC (by rw [HS.out]),b7.out⟩
    ·obtain rfl:k=amd.length:=by omega
     have hdup:zy amd=false:=any_none fun j hj=>hno.out j hj
     have uU:Hid (cF t amd=if (ay t.ns).length≠amd.length\/kN t amd=true then 9 else 0):=by unfold Hid;rw [k8.out,hdup,if_neg (by decide)]
     have hc1:=gA.out
     clear hno hk hlt hdup k8
     go_wp2
     go_loop [6,7] (fun c i=>∃k:Nat,k<=t.ns.length/\c=.int .i64 (jI t.ns k).length/\i=.int .i64 k/\Hid (∀j,j<k->(gs t.ns j).size≠0->¬dD amd (gs t.ns j)<0)) (fun _ i=>t.ns.length - (intOf i).toNat)
     case atStart=>exact ⟨0,aF _,rfl,rfl,fun j hj=>by omega⟩
     case round =>
      obtain ⟨k,hk,rfl,rfl,hno⟩:=hrel
      have hc1:=gA.out
      by_cases hlt:k<t.ns.length
      ·obtain ⟨b,off,rfl,hc⟩:=cH oB.out hlt
       have i1:(0:Int)<=(k:Int):=by omega
       have i2:(k:Int)<(t.ns.length:Int):=by omega
       have i3:(k:Int)<64:=by have:=Aj.out;omega
       have eC:=aa (FT T w2 _ amd (gs t.ns k) UW.out lQ.out.2)
       have hsu:=yE t.ns k
       have uQ:=Bi t.ns k
       have i4:((jI t.ns k).length:Int)<64:=by have:=Aj.out;omega
       have sM:=aa hsu
       have u7:=aa hno.out
       have aR:=aa hlt
       have hnil:=toList_nil (gs t.ns k)
       clear hno hk hlt hsu uQ
       by_cases g0:(gs t.ns k).size=0
       ·have hg1:(gs t.ns k).toList=[]:=hnil.2 g0
        have jD:Hid ((jI t.ns (k+1)).length=(jI t.ns k).length):=by unfold Hid;rw [sM.out,if_pos g0,eG]
        have HG:=aa g0
        clear g0 hnil
        go_wp2
        go_round
        case rel=>exact ⟨k+1,aR.out,by rw [jD.out],by go_num,fun j hj h0=>by
         by_cases x:j=k
         ·subst x;exact absurd HG.out h0
         ·exact u7.out j (by omega) h0⟩
        case measure=>have:=aR.out;simp [intOf];omega
       ·have hg1:((gs t.ns k).toList==[])=false:=by
         rw [rN];intro e;exact g0 (hnil.1 (by simpa using e))
        have jD:Hid (((jI t.ns (k+1)).length:Int)=((jI t.ns k).length:Int)+1):=by unfold Hid;rw [sM.out,if_neg g0,bg,z8];omega
        have HG:=aa g0
        clear g0 hnil
        by_cases e:dD amd (gs t.ns k)<0
        ·have Uc:Hid (cF t amd=9):=by
          unfold Hid
          rw [uU.out,if_pos (.inr (Su.2 ⟨k,aR.out,HG.out,e⟩))]
         go_wp2_with fail
         refine eC.out.mono ?_
         rintro e w3 ⟨rfl,rfl⟩
         clear eC
         go_wp2
         go_ret
         exact ⟨aC (by rw [Uc.out]),b7.out⟩
        ·have HE:=aa e
         go_wp2_with fail
         refine eC.out.mono ?_
         rintro e w3 ⟨rfl,rfl⟩
         clear eC
         go_wp2
         go_round
         case rel=>exact ⟨k+1,aR.out,by rw [jD.out],by go_num,fun j hj h0=>by
          by_cases x:j=k
          ·subst x;have:=HE.out;omega
          ·have:=u7.out j (by omega) h0;omega⟩
         case measure=>have:=aR.out;simp [intOf];omega
      ·obtain rfl:k=t.ns.length:=by omega
       have hoff:kN t amd=false:=by
        cases e:kN t amd with
        | false=>rfl
        | true =>
         obtain ⟨j,h1,h2,h3⟩:=Su.1 e
         exact absurd h3 (hno.out j h1 h2)
       have uQ:(jI t.ns t.ns.length).length=(ay t.ns).length:=rfl
       have Uc:Hid (cF t amd=if (ay t.ns).length≠amd.length then 9 else 0):=by
        unfold Hid
        rw [uU.out,hoff]
        by_cases x:(ay t.ns).length≠amd.length
        ·rw [if_pos x,if_pos (.inl x)]
        ·rw [if_neg x,if_neg (by rintro (h | h);exact x h;cases h)]
       clear hno hk hlt hoff
       rw [uQ]
       clear uQ
       by_cases x:(ay t.ns).length=amd.length
       ·have t1:(((ay t.ns).length:Int) != (amd.length:Int))=false:=by rw [x];simp
        have HX4:Hid (cF t amd=0):=by unfold Hid;rw [Uc.out,if_neg (by simp [x])]
        have EG:=aa x
        clear x
        go_wp2
        go_ret
        exact ⟨aC (by rw [HX4.out]),b7.out⟩
       ·have t1:(((ay t.ns).length:Int) != (amd.length:Int))=true:=bne_iff_ne.2 (by omega)
        have HX4:Hid (cF t amd=9):=by unfold Hid;rw [Uc.out,if_pos x]
        go_wp2
        go_ret
        exact ⟨aC (by rw [HX4.out]),b7.out⟩
 ·have Mz:(aA t != 0)=true:=by simpa using he
  have k8:Hid (cF t amd=1):=by unfold Hid cF;rw [if_pos he]
  clear he;generalize aA t=te at Mz ⊢;go_wp2;go_ret;exact ⟨aC (by rw [k8.out]),b7.out⟩
end
section
def zR (s:List Int):List (List Int)->List (List Int)
 | []=>[s]
 | b::l=>if cmpL b s<0 then b::zR s l else if b=s then b::l else s::b::l
def tV (s:List Int):List (List Int)->Nat
 | []=>0
 | b::l=>if cmpL b s<0 then tV s l+1 else 0
theorem aaf (s:List Int):∀l,tV s l<=l.length
 | []=>ah _
 | b::l=>by
  have:=aaf s l
  rw [tV,aW]
  split<;>omega
theorem KI (s:List Int):∀(l:List (List Int)) (j:Nat),j<tV s l->cmpL (gl l j) s<0
 | [],j,h=>by rw [tV] at h;omega
 | b::l,j,h=>by
  rw [tV] at h
  split at h
  ·rename_i hb
   cases j with
   | zero=>exact hb
   | succ j=>exact KI s l j (by omega)
  ·omega
theorem aag (s:List Int):∀l:List (List Int),tV s l<l.length->¬cmpL (gl l (tV s l)) s<0
 | [],h=>by rw [dw] at h;omega
 | b::l,h=>by
  rw [tV] at h ⊢
  split
  ·rename_i hb
   rw [if_pos hb,aW] at h
   exact aag s l (by omega)
  ·assumption
theorem aah {s:List Int} {l:List (List Int)} {k:Nat} (h1:k<=l.length) (h2:∀j,j<k->cmpL (gl l j) s<0) (h3:k=l.length\/¬cmpL (gl l k) s<0):k=tV s l:=by
 rcases oo k (tV s l) with h | h | h
 ·rcases h3 with h3 | h3
  ·have:=aaf s l;omega
  ·exact absurd (KI s l k h) h3
 ·exact h
 ·exact absurd (h2 _ h) (aag s l (by omega))
theorem Bg (s:List Int):∀l:List (List Int),zR s l=if tV s l<l.length/\gl l (tV s l)=s then l else l.take (tV s l)++s::l.drop (tV s l)
 | []=>by rw [zR,if_neg (fun h=>by have:=h.1;rw [dw] at this;omega)];rfl
 | b::l=>by
  rw [zR,tV]
  by_cases hb:cmpL b s<0
  ·rw [if_pos hb,if_pos hb,Bg s l,aW]
   have e:gl (b::l) (tV s l+1)=gl l (tV s l):=rfl
   rw [e]
   by_cases h:tV s l<l.length/\gl l (tV s l)=s
   ·rw [if_pos h,if_pos ⟨by omega,h.2⟩]
   ·rw [if_neg h,if_neg (fun q=>h ⟨by omega,q.2⟩),yA,List.drop_succ_cons];rfl
  ·rw [if_neg hb,if_neg hb]
   by_cases h:b=s
   ·rw [if_pos h,if_pos ⟨by simp,h⟩]
   ·rw [if_neg h,if_neg (fun q=>h q.2)];rfl
theorem LN {s x:List Int}:∀ {l:List (List Int)},x∈zR s l↔x=s\/x∈l
 | []=>by rw [zR];simp
 | b::l=>by
  rw [zR]
  split
  ·rw [bA,LN,bA]
   constructor
   ·rintro (h | h | h)
    ·exact .inr (.inl h)
    ·exact .inl h
    ·exact .inr (.inr h)
   ·rintro (h | h | h)
    ·exact .inr (.inl h)
    ·exact .inl h
    ·exact .inr (.inr h)
  ·split
   ·rename_i e
    subst e
    simp
   ·simp
theorem KJ {s:List Int}:∀ {l:List (List Int)},l.Pairwise AJ->(zR s l).Pairwise AJ
 | [],_=>by rw [zR];exact List.pairwise_singleton _ _
 | b::l,h=>by
  obtain ⟨h1,h2⟩:=iB.1 h
  rw [zR]
  split
  ·rename_i hb
   refine iB.2 ⟨fun x hx=>?_,KJ h2⟩
   rcases LN.1 hx with rfl | hx
   ·exact hb
   ·exact h1 x hx
  ·split
   ·exact h
   ·rename_i hb hne
    have uS:AJ s b:=by
     have h3:=oV b s
     have h4:cmpL b s≠0:=fun e=>hne (nE e)
     show cmpL s b<0
     omega
    refine iB.2 ⟨fun x hx=>?_,h⟩
    rcases bA.1 hx with rfl | hx
    ·exact uS
    ·exact uE uS (h1 x hx)
def gZ (t:ax) (amd:List ByteArray):Nat->List (List Int)
 | 0=>[]
 | k+1=>if aV amd.length (cu amd.length (bD t amd (k+1)))=0 then zR (cu amd.length (bD t amd (k+1))) (gZ t amd k) else gZ t amd k
theorem DI (t:ax) (amd:List ByteArray):∀k,(gZ t amd k).Pairwise AJ
 | 0=>List.Pairwise.nil
 | k+1=>by
  rw [gZ]
  split
  ·exact KJ (DI t amd k)
  ·exact DI t amd k
theorem Gp {t:ax} {amd:List ByteArray} {x:List Int}:∀ {k:Nat},x∈gZ t amd k↔∃j,1<=j/\j<=k/\aV amd.length (cu amd.length (bD t amd j))=0/\x=cu amd.length (bD t amd j)
 | 0=>⟨fun h=>(by cases h),fun ⟨j,h1,h2,_⟩=>by omega⟩
 | k+1=>by
  rw [gZ]
  split
  ·rename_i h0
   rw [LN,Gp]
   constructor
   ·rintro (h | ⟨j,h1,h2,h3⟩)
    ·exact ⟨k+1,by omega,ah _,h0,h⟩
    ·exact ⟨j,h1,by omega,h3⟩
   ·rintro ⟨j,h1,h2,h3,h4⟩
    by_cases e:j=k+1
    ·subst e;exact .inl h4
    ·exact .inr ⟨j,h1,by omega,h3,h4⟩
  ·rename_i h0
   rw [Gp]
   constructor
   ·rintro ⟨j,h1,h2,h3⟩
    exact ⟨j,h1,by omega,h3⟩
   ·rintro ⟨j,h1,h2,h3,h4⟩
    by_cases e:j=k+1
    ·subst e;exact absurd h3 h0
    ·exact ⟨j,h1,by omega,h3,h4⟩
theorem U8 (t:ax) (amd:List ByteArray):∀k,(gZ t amd k).length<=k
 | 0=>ah _
 | k+1=>by
  have ih:=U8 t amd k
  have hl:∀(s:List Int) (l:List (List Int)),(zR s l).length<=l.length+1:=fun s l=>by
   rw [Bg]
   split
   ·omega
   ·rw [bg,aW,jl,xN];omega
  rw [gZ]
  split
  ·have:=hl (cu amd.length (bD t amd (k+1))) (gZ t amd k);omega
  ·omega
theorem afn {t:ax} {amd:List ByteArray} (h:0<t.ps.length):gZ t amd (t.ps.length - 1)=wX (IC t amd):=by
 refine Lj (DI _ _ _) (sX _) fun x=>?_;rw [Gp,zw];unfold IC;rw [gP,bI];constructor
 ·rintro ⟨j,h1,h2,h3,h4⟩
  refine ⟨⟨j,?_,h4.symm⟩,by rw [h4];simpa using h3⟩;rw [gP,bu];exact ⟨by omega,decide_eq_true (by omega)⟩
 ·rintro ⟨⟨j,h1,h2⟩,h3⟩
  rw [gP,bu] at h1;have h4:0<j:=by simpa using h1.2
  exact ⟨j,by omega,by omega,by rw [h2];simpa using h3,h2.symm⟩
end
section
open Go.RowKit Go.Deep
theorem U9 (S:Nat->Prop) (w:World) (v:Value) (n:Int) (s:List Int) (h:af S w v s) (hn:s.length<=1000000) :
  Calls Tryz.prog 155 #[.int .i64 n,v] w fun e w'=>e=.returned (.int .i64 (aV n s))/\QD w w':=by
 have HF:=aa (WM n s);have HC:=aa (Gj S w v s h hn);obtain ⟨p,cap,rfl,-,-⟩:=aq.open h;have H:Hid (af S w (.slice p s.length cap) s):=h;have HO:Hid (∀i,uN n s i=(decide (gi s i=0) || decide (n<=gi s i))):=fun _=>rfl;clear h;by_cases h1:n<1
 ·have HR:Hid (aV n s=2):=by unfold Hid;rw [HF.out,if_pos (.inl h1)]
  have e1:decide (n<1)=true:=decide_eq_true h1;clear h1;go_in;go_wp2;go_ret;exact ⟨aC (by rw [HR.out]),QD.refl _⟩
 have e1:decide (n<1)=false:=decide_eq_false h1;by_cases h2:32<n
 ·have HR:Hid (aV n s=2):=by unfold Hid;rw [HF.out,if_pos (.inr h2)]
  have e2:decide (32<n)=true:=decide_eq_true h2;clear h1 h2;go_in;go_wp2;go_ret;exact ⟨aC (by rw [HR.out]),QD.refl _⟩
 have e2:decide (32<n)=false:=decide_eq_false h2;have n1:1<=n:=by omega
 have n2:n<=32:=by omega
 have qA:Hid (aV n s=if gM s≠0 then gM s else if (List.range s.length).any (uN n s) then 2 else if (s.length:Int)<2\/n - 2<s.length then 8 else 0):=by unfold Hid;rw [HF.out,if_neg (by omega)]
 clear HF h1 h2;by_cases h3:gM s=0
 case neg =>
  have e3:(gM s != 0)=true:=by simpa using h3
  have HR:Hid (aV n s=gM s):=by unfold Hid;rw [qA.out,if_pos h3]
  clear h3 qA;generalize gM s=z at *;go_in;go_wp2_with fail;refine HC.out.mono ?_;rintro e w1 ⟨rfl,hq1⟩;have tS:=aa hq1;clear hq1;go_wp2;go_ret;exact ⟨aC (by rw [HR.out]),tS.out⟩
 have NQ:Hid (aV n s=if (List.range s.length).any (uN n s) then 2 else if (s.length:Int)<2\/n - 2<s.length then 8 else 0):=by unfold Hid;rw [qA.out,if_neg (fun e=>e h3)]
 rw [h3] at HC;have FI:s.length<=64:=rH (jx.1 h3);clear h3 qA;go_in;go_wp2_with fail;refine HC.out.mono ?_;rintro e w1 ⟨rfl,hq1⟩;have tS:=aa hq1;clear hq1 HC;go_wp2
 go_loop [6] (fun i=>∃k:Nat,k<=s.length/\i=.int .i64 k/\Hid (∀j,j<k->uN n s j=false)) (fun i=>s.length - (intOf i).toNat)
 case atStart=>exact ⟨0,aF _,rfl,fun j hj=>absurd hj (aZ _)⟩
 case round =>
  obtain ⟨k,hk,rfl,hd⟩:=hrel;by_cases hlt:k<s.length
  ·obtain ⟨b,off,rfl,hc⟩:=bU (af.keep H.out (tS.out.kept S)) hlt
   (have i1:(0:Int)<=(k:Int):=by omega);(have i2:(k:Int)<(s.length:Int):=by omega);have pW:=aa (HO.out k);have aR:=aa hlt;(have mG:Hid (uN n s k=true->aV n s=2):=fun e=>by rw [NQ.out,if_pos (wC (p:=uN n s) hlt e)]);(have Ej:Hid (uN n s k=false->∀j,j<k+1->uN n s j=false):=fun e j hj=>if ej:j=k then by subst ej;exact e else hd.out j (by omega));generalize gi s k=x at *;by_cases q1:x=0
   ·have HR:=aa (mG.out (by rw [pW.out,decide_eq_true q1];rfl))
    (have f1:(x==0)=true:=by simpa using q1);clear q1;go_wp2;go_ret;exact ⟨aC (by rw [HR.out]),tS.out⟩
   (have f1:(x==0)=false:=by simpa using q1);by_cases q2:n<=x
   ·have HR:=aa (mG.out (by rw [pW.out,decide_eq_true q2];simp))
    have f2:decide (n<=x)=true:=decide_eq_true q2;clear q1 q2;go_wp2;go_ret;exact ⟨aC (by rw [HR.out]),tS.out⟩
   ·have HR:=aa (Ej.out (by rw [pW.out,decide_eq_false q1,decide_eq_false q2];rfl))
    have f2:decide (n<=x)=false:=decide_eq_false q2;clear q1 q2;go_wp2
    go_round
    case rel=>exact ⟨k+1,aR.out,by go_num,HR.out⟩
    case measure=>have:=aR.out;simp [intOf];omega
  ·obtain rfl:k=s.length:=by omega
   (have HF4:Hid (aV n s=if (s.length:Int)<2\/n - 2<s.length then 8 else 0):=by unfold Hid;rw [NQ.out,any_none (p:=uN n s) hd.out,if_neg (by decide)]);clear hlt hk hd NQ HO H;by_cases q1:(s.length:Int)<2
   ·have HR:Hid (aV n s=8):=by unfold Hid;rw [HF4.out,if_pos (.inl q1)]
    have f1:decide ((s.length:Int)<2)=true:=decide_eq_true q1;clear q1;go_wp2;go_ret;exact ⟨aC (by rw [HR.out]),tS.out⟩
   have f1:decide ((s.length:Int)<2)=false:=decide_eq_false q1;by_cases q2:n - 2<(s.length:Int)
   ·have HR:Hid (aV n s=8):=by unfold Hid;rw [HF4.out,if_pos (.inr q2)]
    have f2:decide (n - 2<(s.length:Int))=true:=decide_eq_true q2;clear q1 q2;go_wp2;go_ret;exact ⟨aC (by rw [HR.out]),tS.out⟩
   ·have HR:Hid (aV n s=0):=by unfold Hid;rw [HF4.out,if_neg (by omega)]
    have f2:decide (n - 2<(s.length:Int))=false:=decide_eq_false q2;clear q1 q2;go_wp2;go_ret;exact ⟨aC (by rw [HR.out]),tS.out⟩
theorem uP (S T:Nat->Prop) (w:World) (v u:Value) (a b:List Int) (h:af S w v a) (h2:af T w u b) (hn:a.length<=1000000) (hm:b.length<=1000000) (ha:eD a) (hb:eD b) :
  Calls Tryz.prog 211 #[v,u] w fun e w'=>e=.returned (.bool (iV a b))/\QD w w':=by
 have H1:=aa (WN S T w v u a b h h2 hn hm ha hb);obtain ⟨p,cap,rfl,-,-⟩:=aq.open h;obtain ⟨q,qI,rfl,-,-⟩:=aq.open h2;clear h h2;go_in;go_wp2_with fail;refine H1.out.mono ?_;rintro e w1 ⟨rfl,hq1⟩;have tS:=aa hq1;clear hq1;go_wp2;go_ret;exact ⟨rfl,tS.out⟩
theorem afo (S T:Nat->Prop) (w:World) (v u:Value) (a b:List Int) (h:af S w v a) (h2:af T w u b) (ha:eD a) (hb:eD b) :
  Calls Tryz.prog 210 #[v,u] w fun e w'=>e=.returned (.bool (jo a b))/\Up w w':=by
 have hla:=rH ha;have hlb:=rH hb;have H1:=aa (ZB S T w v u a b h h2 (by omega) (by omega) ha hb);have H2:Hid (∀W,Up w W->Calls Tryz.prog 211 #[v,u] W fun e w'=>e=.returned (.bool (iV a b))/\QD W w'):=fun W hW=>uP S T W v u a b (af.keep h (hW.kept _)) (af.keep h2 (hW.kept _)) (by omega) (by omega) ha hb;have H3:Hid (∀W,Up w W->Calls Tryz.prog 211 #[u,v] W fun e w'=>e=.returned (.bool (iV b a))/\QD W w'):=fun W hW=>uP T S W u v b a (af.keep h2 (hW.kept _)) (af.keep h (hW.kept _)) (by omega) (by omega) hb ha;have HF:=aa (acF ha hb);obtain ⟨p,cap,rfl,-,-⟩:=aq.open h;obtain ⟨q,qI,rfl,-,-⟩:=aq.open h2;clear h h2 ha hb;have GL:Hid ((a.filter fun x=>b.contains x).length<=a.length):=mN _ _;generalize jo a b=r at *;generalize (a.filter fun x=>b.contains x)=F at *;go_in;go_wp2_with fail;refine H1.out.mono ?_;rintro e w1 ⟨bK,x,rfl,hx⟩;obtain ⟨xp,xc,rfl,-,-⟩:=aq.open hx;have cB:=aa bK;clear bK hx H1;by_cases h0:F.length=0
 ·have HR:Hid (r=true):=by unfold Hid;rw [<- HF.out,decide_eq_true h0];rfl
  have e0:((F.length:Int)==0)=true:=by simp [h0]
  clear h0;generalize F.length=m at *;go_wp2;go_ret;exact ⟨aO HR.out.symm,cB.out⟩
 have e0:((F.length:Int)==0)=false:=by simpa using h0
 have qA:Hid ((iV a b || iV b a)=r):=by unfold Hid;rw [<- HF.out,decide_eq_false h0];rfl
 clear h0 HF;generalize F.length=m at *;generalize iV a b=s1 at *;generalize iV b a=s2 at *;cases s1
 ·go_wp2_with fail
  refine (H2.out w1 cB.out).mono ?_;rintro e w2 ⟨rfl,j8⟩;have b7:=aa (cB.out.trans j8.up);clear j8;go_wp2_with fail;refine (H3.out w2 b7.out).mono ?_;rintro e w3 ⟨rfl,G9⟩;have eW:=aa (b7.out.trans G9.up);clear G9;go_wp2;go_ret;exact ⟨aO qA.out,eW.out⟩
 ·go_wp2_with fail
  refine (H2.out w1 cB.out).mono ?_;rintro e w2 ⟨rfl,j8⟩;have b7:=aa (cB.out.trans j8.up);clear j8;go_wp2;go_ret;exact ⟨aO qA.out,b7.out⟩
section
variable {P:Program} {ops:Array Oper} {rest:List Oper} {o:Oper} {a:Act} {Q:Exit->Act->World->Prop}
theorem wh (W:World) (hgd:o.guard=none) (s x:Operand) (t:TypeId) (ho:o.op=.call { callee:=.builtin .append,args:=#[s,x],argTypes:=#[t,t] })
  (base:Nat) (e:TypeId) (z:Value) (bytes:Nat) (ht:P.underlying t=some (.slice e)) (hinfo:(P.info? e).map (fun i=>(i.zero,i.size,i.bytes))=some (some z,1,bytes))
  (hz1:z.cells.size=1) (lN:bytes<=64) {v:Value} {vs:List Value} (hown:au base e W v vs) (hs:a.eval s=v) (hv:v≠.slice none 0 0) (b off m c:Nat) (hx:a.eval x=.slice (some ⟨b,off,none⟩) m c)
  (f:Nat->Value) (hf:∀j,j<m->W.cell? ⟨b,off+j,none⟩=some (f j)) (h1:∀j,j<m->(f j).oneCell'=true) (n n':Nat) (tJ:vs.length=n) (hn':n+m=n') (hn:n'<=1000000) (hbase:base<=W.heap.size)
  (h:∀g cap w',au base e w' (.slice (some ⟨g,0,none⟩) n' cap) (vs++(List.range m).map f)->Below base W w'->wpList P ops Q rest (a.put o.dst (.slice (some ⟨g,0,none⟩) n' cap)) w') :
  wpList P ops Q (o::rest) a W:=by
 subst tJ;subst hn';obtain ⟨i,hi,hzz⟩:=jR.1 hinfo;simp only [kX] at hzz;obtain ⟨hz,hs1,hb⟩:=hzz;refine wpList_append_own_at W hgd s x t ho base e i z 1 bytes ht hi hz hs1 hb hz1 (by omega) v vs.length vs hs hown ⟨b,off,none⟩ m c ((List.range m).map f) hx (by simp) ?_ ?_ (by unfold maxLen;omega) ?_ hbase ?_
 ·intro j u hj
  rw [kr] at hj;obtain ⟨k,hk,rfl⟩:=jR.1 hj;obtain ⟨hlt,hk⟩:=o8.1 hk;rw [vQ] at hlt;rw [List.getElem_range] at hk;subst hk;have e:(⟨b,off,none⟩:Addr).add j=⟨b,off+j,none⟩:=by cases j<;>simp [Addr.add]
  rw [e];exact hf j hlt
 ·intro u hu
  obtain ⟨j,hj,rfl⟩:=bI.1 hu;exact h1 j (bu.1 hj)
 ·have:(vs.length+m)*bytes<=(vs.length+m)*64:=qO _ lN
  omega
 ·intro v' w' h2 h3 h4 _
  have h5:=h2;obtain ⟨hl,⟨e1,_⟩ | ⟨g,cap,cur,rfl,_⟩⟩:=h5
  ·exact absurd (h4.1 e1).1 hv
  ·refine h g cap w' ?_ (hown.fF h3 hbase)
   unfold au;rw [bg,aD,vQ];exact h2
end
def OI (W:World) (o:Value) (rows:List (List Int)):Prop :=
 ∃(g cap:Nat) (f:Nat->Value),o=.slice (some ⟨g,0,none⟩) rows.length cap/\rows.length<=cap/\(∀k,k<rows.length->W.cell? ⟨g,0+k,none⟩=some (f k))/\∀k,k<rows.length->af Any W (f k) (gl rows k)
theorem OI.up {W W':World} {o:Value} {rows:List (List Int)} (h:OI W o rows) (hu:Up W W'):OI W' o rows:=by
 obtain ⟨g,cap,f,e,hc,h1,h2⟩:=h;exact ⟨g,cap,f,e,hc,fun k hk=>hu.cell (h1 k hk),fun k hk=>af.keep (h2 k hk) (hu.kept _)⟩
theorem OI.rows {W:World} {o:Value} {rows:List (List Int)} (h:OI W o rows):aT Any W o rows:=by
 obtain ⟨g,cap,f,e,hc,h1,h2⟩:=h;exact ⟨f,⟨_,_,e,hc,.inr ⟨g,0,rfl,trivial,h1⟩⟩,h2⟩
theorem OI.one {W:World} {v:Value} {l:List Int} (h:af Any W v l):v.oneCell'=true:=by
 obtain ⟨p,cap,rfl,_⟩:=h;rfl
theorem OI.ins {W:World} {rows:List (List Int)} {s:List Int} {u:Value} {f:Nat->Value} {mL g cap base:Nat} (hat:mL<=rows.length)
  (ho:au base 26 W (.slice (some ⟨g,0,none⟩) (rows.length+1) cap) (((List.range mL).map f++[u])++(List.range (rows.length - mL)).map fun j=>f (mL+j)))
  (hf:∀k,k<rows.length->af Any W (f k) (gl rows k)) (hu:af Any W u s):OI W (.slice (some ⟨g,0,none⟩) (rows.length+1) cap) (rows.take mL++s::rows.drop mL):=by
 have kF:=ho.uf;have hlen:(rows.take mL++s::rows.drop mL).length=rows.length+1:=by rw [bg,aW,jl,xN];omega
 have hvl:((((List.range mL).map f++[u])++(List.range (rows.length - mL)).map fun j=>f (mL+j)):List Value).length=rows.length+1:=by simp;omega
 rw [hvl] at kF;obtain ⟨p,c,e,hcap,H⟩:=aq.open kF;injection e with e1 e2 e3;refine ⟨g,cap,fun k=>if k<mL then f k else if k=mL then u else f (k - 1),by rw [hlen],by rw [hlen,e3];exact hcap,fun k hk=>?_,fun k hk=>?_⟩
 ·rw [hlen] at hk
  obtain ⟨b,off,e4,hc⟩:=H k hk;rw [<- e1] at e4;injection e4 with e4;injection e4 with e5 e6;subst e5;subst e6;rw [hc];congr 1;dsimp only;rw [rP];have jC:((List.range mL).map f).length=mL:=by simp
  by_cases h1:k<mL
  ·rw [if_pos h1,F0 (by rw [bg,jC];simp;omega),F0 (by omega)]
   simp [h1]
  ·rw [if_neg h1]
   by_cases h2:k=mL
   ·rw [if_pos h2,F0 (by rw [bg,jC];simp;omega),Jc (by omega),jC,h2,Nat.sub_self]
    rfl
   ·rw [if_neg h2,Jc (by rw [bg,jC];simp;omega),bg,jC,z8,kr,List.getElem?_range (by omega)]
    show f (mL+(k - (mL+1)))=f (k - 1);congr 1;omega
 ·rw [hlen] at hk
  have hg:gl (rows.take mL++s::rows.drop mL) k=if k<mL then gl rows k else if k=mL then s else gl rows (k - 1):=by
   (have hX:∀(l:List (List Int)) (j:Nat),gl l j=l[j]?.getD []:=fun l j=>by simp [gl,List.getD_eq_getElem?_getD]);rw [hX,hX,hX];(have hl':(rows.take mL).length=mL:=by rw [jl];omega);by_cases h1:k<mL
   ·rw [if_pos h1,F0 (by omega),List.getElem?_take_of_lt h1]
   ·rw [if_neg h1,Jc (by omega),hl']
    by_cases h2:k=mL
    ·subst h2;rw [if_pos rfl,Nat.sub_self];rfl
    ·rw [if_neg h2]
     obtain ⟨d,hd⟩:∃d,k - mL=d+1:=⟨k - mL - 1,by omega⟩;rw [hd,F2,List.getElem?_drop];congr 2;omega
  rw [hg];by_cases h1:k<mL
  ·simp only [if_pos h1];exact hf k (by omega)
  ·simp only [if_neg h1]
   by_cases h2:k=mL
   ·simp only [if_pos h2];exact hu
   ·simp only [if_neg h2];exact hf (k - 1) (by omega)
end
end Go.Proofs.YthgabkgmkolobaaGreat
