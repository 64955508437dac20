/- Reference 34: all, All. -/
import Derived.Test.YthgabkgmkolobaaGreatQ43
import Derived.Test.YthgabkgmkolobaaGreatQ46
set_option maxRecDepth 100000
set_option maxHeartbeats 8000000
namespace Go.Proofs.YthgabkgmkolobaaGreat
open Go.RowKit Go.Deep
def BD (w:World) (acw:List ByteArray) (e:Ending) (w':World):Prop:=Up w w'/\∃v,e=.returned v/\ew Any w' v (allT acw)
def YG (w w2:World) (acw:List ByteArray) (n:Nat) (tv:Value) (wr:World):Prop :=
 ∃qs:List RT,qU (w.heap.size+1) w w2 wr tv (qs.map bf)/\qs.Perm (((mO acw.tail).take n).map (uR acw))/\qs.Pairwise fV
def PO (w w2:World) (qs:List RT) (q:RT) (k:Nat) (tv:Value) (wr:World):Prop :=
 ∃j:ByteArray,qU (w.heap.size+1) w w2 wr tv (tK (qs.map bf) k j)/\∀i,k<=i->i<qs.length->¬fV (qs.getD i (.node ByteArray.empty [])) q
theorem YH {L:List ByteArray} {n:Nat} (h:n<(mO L).length):gs (bK L) n=jO (gB (mO L) n)/\gB (mO L) n∈k6 L:=by
 unfold gs gB bK;constructor
 ·simp [h]
 ·rw [(Bz L).mem_iff];simp [h]
theorem z8 {qs:List RT} {i:Nat} (h:i<qs.length):gs (qs.map bf) i=bf (qs.getD i (.node ByteArray.empty [])):=by simp [gs,h]
theorem PR (y q:RT):fV y q↔Op.bytesLess (bf y).toList (bf q).toList=true\/(bf y).toList=(bf q).toList:=by
 have e:∀r:RT,(bf r).toList=cr r:=fun r=>by rw [toList_data];unfold bf;simp
 rw [e,e,xd,decide_eq_true_iff];unfold fV;constructor
 ·intro h
  by_cases h0:Lib.compareBytes (cr y) (cr q)=0
  ·exact .inr (pI h0)
  ·exact .inl (by omega)
 ·rintro (h | h)
  ·omega
  ·rw [h,wP];exact nw _
theorem UR {y q:RT} (h:(!Op.bytesLess (bf y).toList (bf q).toList)=false\/(!(bf y).toList==(bf q).toList)=false):fV y q:=by
 rw [PR];rcases h with h | h
 ·exact .inl (by simpa using h)
 ·exact .inr (by simpa using h)
theorem YI {y q:RT} (h:(!Op.bytesLess (bf y).toList (bf q).toList)=true/\(!(bf y).toList==(bf q).toList)=true):¬fV y q:=by
 rw [PR];rintro (e | e)
 ·rw [e] at h;exact absurd h.1 (by decide)
 ·have:=h.2;rw [e] at this;simp at this
theorem Sd (S:Nat->Prop) (w:World) (v:Value) (acw:List ByteArray) (hok:dU acw) (h:av S w v acw):Calls Tryz.prog 105 #[v] w (BD w acw):=by
 have hlo:=hok.lo;have hhi:=hok.hi;obtain ⟨p,cap,rfl,hcap,-⟩:=aA.open h;have h:av S w (.slice p acw.length cap) acw:=h;obtain ⟨nb,no,rfl,hc0⟩:=cA h (k:=0) (by omega);rw [nA] at hc0;have hz:∀x∈acw,x.size<=20:=fun x hx=>si (hok.nm x hx);have E0:=Up.alloc w (.cells #[] 9);have hs0:(w.alloc (.cells #[] 9)).heap.size=w.heap.size+1:=aL _ _
 have Pf:=aa (JU acw.tail.length acw.tail (ah _) (by rw [qi];omega) (by rw [qi];omega) (fun x hx=>hz x (zB hx)) S (w.alloc (.cells #[] 9)) _ (E6 (av.keep h (E0.kept _)) hlo));have xK:=aa hok;have gj:=aa hc0;have YJ:=aa (ax.made w 9);have Tl:=aa E0;have YK:=aa hs0;have uI:Hid (acw.tail.length<=4/\1<=acw.tail.length):=by unfold Hid;rw [qi];omega
 have X5:Hid ((gs acw 0).size<=20):=iL hz 0;have X6:Hid (∀k,(gs (bK acw.tail) k).size<=100):=iL fun x hx=>BA uI.out.1 (fun x hx=>hz x (zB hx)) hx;have o9:Hid ((bK acw.tail).length=(mO acw.tail).length/\(bK acw.tail).length<=15):=⟨by unfold bK;rw [aD],qg uI.out.1⟩;have i0:¬cap=1:=by omega
 have i1:(1:Int)<=(acw.length:Int):=by omega
 have i2:1<=acw.length:=by omega
 clear h hc0 hz hok hhi E0 hs0
 go_enter Tryz.func105,Tryz.ntmps105
 go_wp2_with fail;generalize w.alloc (.cells #[] 9)=w1 at *;refine Pf.out.mono ?_;rintro e w2 ⟨aJ,tv,rfl,IZ⟩;obtain ⟨tp,tc,rfl,-⟩:=IZ.form (n:=(bK acw.tail).length) (by rw [aD]);have X7:Hid (av (fun b=>w.heap.size+1<=b/\b<w2.heap.size) w2 (.slice tp (bK acw.tail).length tc) (bK acw.tail)):=IZ.strs.sub fun b hb hl=>⟨by have:=YK.out;omega,hl⟩
 have CF:Hid (YG w w2 acw 0 (.slice (some ⟨w.heap.size,0,none⟩) 0 0) w2):=by refine ⟨[],⟨Tl.out.trans aJ,⟨kI _,by have:=YK.out;have:=aJ.size;omega,ah _⟩,YJ.out.iC fun b hb=>bH aJ b (by have:=(aG YJ.out hb).2;exact this),fun b hb=>.inl ?_,fun _ _ _=>rfl⟩,by simp,List.Pairwise.nil⟩;have hb:some w.heap.size=some b:=hb;injection hb with hb;omega
 clear IZ aJ Pf YJ YK;go_wp2_with fail
 go_loopw [3,5,6,7,8,9,10] (fun texts i _ _ _ _ _ wr=>∃n:Nat,n<=(bK acw.tail).length/\i=.int .i64 n/\Hid (YG w w2 acw n texts wr)) (fun _ i _ _ _ _ _ _=>(bK acw.tail).length - (intOf i).toNat)
 case atStart=>exact ⟨0,aI _,rfl,CF.out⟩
 case round =>
  obtain ⟨n,hn,rfl,hI⟩:=hrel;obtain ⟨wo,rfl⟩:∃wo:World,wo=wr:=⟨_,rfl⟩;obtain ⟨qs,hA,hp,hs⟩:=hI.out;have i3:(0:Int)<=(n:Int):=by omega
  have TD:qs.length<=15:=by have h1:=hp.length_eq;rw [aD,dD] at h1;have:=o9.out;omega
  by_cases hlt:n<(bK acw.tail).length
  ·obtain ⟨tb,to',rfl,hct⟩:=cA (hA.strs X7.out) hlt
   (have hnl:n<(mO acw.tail).length:=by rw [<- o9.out.1];exact hlt);obtain ⟨g1,g2⟩:=YH hnl;have E8:=enF xK.out g2;(have lK:Hid (((mO acw.tail).take (n+1)).map (uR acw)=((mO acw.tail).take n).map (uR acw)++[uR acw (gB (mO acw.tail) n)]):=by unfold Hid;rw [KY hnl,cm];rfl);have z1:=X5.out;have z2:(gs (bK acw.tail) n).size<=100:=X6.out n;rw [g1] at hct z2;have zh:Hid (∀W,Calls Tryz.prog 146 #[.string (oa acw (jO (gB (mO acw.tail) n)))] W (yZ W (oa acw (jO (gB (mO acw.tail) n))))):=fun W=>MI W _ E8.X3;unfold oa at zh
   have kG:=aa E8;have HA:=aa hA;have HP:=aa hp;have HS:=aa hs;have bG:=aa hlt;have HQN:=aa TD;have acu:=aa hA.up;have eY:=hA.up.cell gj.out;(have i4:(n:Int)<((bK acw.tail).length:Int):=by omega);(have i5:(n:Int)<16:=by have:=o9.out.2;omega);(have i6:0<acw.length:=by omega);have i7:n<(bK acw.tail).length:=hlt;(have i8:(0:Int)<(acw.length:Int):=by omega);(have y1:(9223372036854775807<1+(gs acw 0).size)=False:=by simp;omega);have y2:(9223372036854775807<1+(gs acw 0).size+1)=False:=by simp;omega
   (have y3:(9223372036854775807<1+(gs acw 0).size+1+(jO (gB (mO acw.tail) n)).size)=False:=by simp;omega);(have y4:(9223372036854775807<1+(gs acw 0).size+1+(jO (gB (mO acw.tail) n)).size+2)=False:=by simp;omega);clear hI E8 hA hp hs hlt hnl g1 g2 TD;generalize gB (mO acw.tail) n=r at *;(have hpe:ux (oa acw (jO r))=0:=by unfold ux;rw [kG.out.Mz];exact kG.out.te);(have hpt:rE (oa acw (jO r))=flat (dy (uB acw r)):=by unfold rE;rw [kG.out.Mz];simp [kG.out.te]);unfold oa at hpe hpt;have y6:=aa hpe;have vL:=aa hpt;clear hpe hpt;go_wp2_with fail
   go_cut [6,7] from 25 to 39 (fun s6 s7 wx=>∃B:Nat,s6=.pointer (some ⟨B,0,none⟩)/\s7=.int .i64 0/\Hid (xF wo B wx (flat (dy (uB acw r)))))
   case first =>
    refine eC (by kernel_rfl) 12 (fun w'=>w'.cell? ⟨nb,no,none⟩=some (.string (gs acw 0))/\w'.cell? ⟨tb,to'+n,none⟩=some (.string (jO r))) ⟨eY,hct⟩ (fun hS=>?_);simp only [fo,aO,dz,Nat.reduceAdd,ic,ig,fk,cw,bz];refine af.tk 0 hS ?_;(try simp only [Act.put,aj,aq,au]);refine af.tk 1 hS ?_;(try simp only [Act.put,aj,aq,au]);refine af.tk 2 hS ?_
    (try simp only [Act.put,aj,aq,au]);refine af.tk 3 hS ?_;(try simp only [Act.put,aj,aq,au]);refine af.tk 4 hS ?_;(try simp only [Act.put,aj,aq,au]);refine af.tk 5 hS ?_;(try simp only [Act.put,aj,aq,au]);refine af.tk 6 hS ?_;(try simp only [Act.put,aj,aq,au]);refine af.tk 7 hS ?_
    (try simp only [Act.put,aj,aq,au]);refine af.tk 8 hS ?_;(try simp only [Act.put,aj,aq,au]);refine af.tk 9 hS ?_;(try simp only [Act.put,aj,aq,au]);refine af.tk 10 hS ?_;(try simp only [Act.put,aj,aq,au]);refine af.ug (i:=11) (i2:=15) rfl rfl (by kernel_rfl) (fun K' hK=>?_) (fun K' hK=>?_)
    ·go_simp
     refine (zh.out _).mono ?_;rintro e w2 ⟨aJ,pv,rfl,hpv⟩;rw [y6.out];(have hpv:aC Any w2 pv (flat (dy (uB acw r))):=by have h:=hpv;unfold oa at h;rw [vL.out] at h;exact h);obtain ⟨P2,N2,rfl,jw,jx⟩:=hpv;obtain ⟨pp,pc,rfl,-,-⟩:=aA.open jw;obtain ⟨np,nc,rfl,-,-⟩:=aA.open jx;have sR:Up wo w2:=(Up.drewN wo 1).trans aJ;have bq:=Up.alloc w2 (.cells #[.slice none 0 0,.slice none 0 0] 39);have hb3:=jv (w:=w2) (P:=.slice none 0 0) (N:=.slice none 0 0) (T:=39)
     have BS:Hid (xF wo w2.heap.size (w2.alloc (.cells #[.slice pp (flat (dy (uB acw r))).ps.length pc,.slice np (flat (dy (uB acw r))).ns.length nc] 39)) (flat (dy (uB acw r)))):=xF.Sc sR ⟨_,_,rfl,jw,jx⟩;have ek:=aa (sR.trans bq);have yF:Hid (wo.heap.size<=w2.heap.size):=sR.size;obtain ⟨b0,b1,b2,b3⟩:=boxed hb3;have AD:=aa hb3;generalize flat (dy (uB acw r))=q0 at *;clear jw jx aJ sR bq hb3;refine hK.out _ _ (aS (by kernel_rfl)) (fun _=>?_);try simp only [aj,aq,au]
     refine af.fr 12 (aS (by kernel_rfl)) ?_;(try simp only [Act.put,aj,aq,au]);refine af.fr 13 (aS (by kernel_rfl)) ?_;(try simp only [Act.put,aj,aq,au]);refine af.fr 14 (aS (by kernel_rfl)) ?_;(try simp only [Act.put,aj,aq,au]);refine af.step (i:=15) rfl (by kernel_rfl) (fun K' hK=>?_);go_simp;refine hK.out _ _ (aS (by kernel_rfl)) (fun _=>?_)
     (try simp only [aj,aq,au]);refine af.step (i:=16) rfl (by kernel_rfl) (fun K' hK=>?_);go_simp;refine hK.out _ _ (aS (by kernel_rfl)) (fun _=>?_);(try simp only [aj,aq,au]);refine af.step (i:=17) rfl (by kernel_rfl) (fun K' hK=>?_);go_simp;refine hK.out _ _ (aS (by kernel_rfl)) (fun _=>?_);refine af.done (by kernel_rfl) ?_;go_wp2_with fail;go_meet
     case rel=>exact ⟨_,rfl,rfl,BS.out⟩
    ·go_simp
     have bq:=Up.alloc wo (.cells #[.slice none 0 0,.slice none 0 0] 39);have hd:=Up.drewN (wo.alloc (.cells #[.slice none 0 0,.slice none 0 0] 39)) 1;have hb1:=jv (w:=wo) (P:=.slice none 0 0) (N:=.slice none 0 0) (T:=39);have hs1:(wo.alloc (.cells #[.slice none 0 0,.slice none 0 0] 39)).heap.size=wo.heap.size+1:=aL _ _;refine hK.out _ _ (fun _=>⟨bq.cell eY,bq.cell hct⟩) (fun hS=>?_);replace hS:=hS ⟨11,by decide,rfl⟩;(try simp only [aj,aq,au]);refine af.step (i:=11) rfl (by kernel_rfl) (fun K' hK=>?_);go_simp
     refine (zh.out _).mono ?_;rintro e w2 ⟨aJ,pv,rfl,hpv⟩;rw [y6.out];(have hpv:aC Any w2 pv (flat (dy (uB acw r))):=by have h:=hpv;unfold oa at h;rw [vL.out] at h;exact h);have sR:=(bq.trans hd).trans aJ;have hb3:w2.heap[wo.heap.size]? = some (Obj.cells #[.slice none 0 0,.slice none 0 0] 39 (0,0)):=(bH (hd.trans aJ) _ (by rw [hs1];omega)).trans hb1;have hpv:=JZ hpv hb3;obtain ⟨P2,N2,rfl,jw,jx⟩:=hpv;obtain ⟨pp,pc,rfl,-,-⟩:=aA.open jw;obtain ⟨np,nc,rfl,-,-⟩:=aA.open jx
     have XG:Hid (aC (fun b=>b≠wo.heap.size) w2 (.agg #[.slice pp (flat (dy (uB acw r))).ps.length pc,.slice np (flat (dy (uB acw r))).ns.length nc]) (flat (dy (uB acw r)))):=⟨_,_,rfl,jw,jx⟩;have ek:=aa sR;have yF:Hid (wo.heap.size<=wo.heap.size):=ah _;obtain ⟨b0,b1,b2,b3⟩:=boxed hb3;have AD:=aa hb3;generalize flat (dy (uB acw r))=q0 at *;clear jw jx aJ sR bq hd hb1 hs1 hb3;refine hK.out _ _ (aS (by kernel_rfl)) (fun _=>?_);try simp only [aj,aq,au]
     refine af.fr 12 (aS (by kernel_rfl)) ?_;(try simp only [Act.put,aj,aq,au]);refine af.fr 13 (aS (by kernel_rfl)) ?_;(try simp only [Act.put,aj,aq,au]);refine af.fr 14 (aS (by kernel_rfl)) ?_;(try simp only [Act.put,aj,aq,au]);refine af.step (i:=16) rfl (by kernel_rfl) (fun K' hK=>?_);go_simp;refine hK.out _ _ (aS (by kernel_rfl)) (fun _=>?_)
     (try simp only [aj,aq,au]);refine af.step (i:=17) rfl (by kernel_rfl) (fun K' hK=>?_);go_simp;refine hK.out _ _ (aS (by kernel_rfl)) (fun _=>?_);refine af.done (by kernel_rfl) ?_;go_wp2_with fail;go_meet
     case rel=>exact ⟨_,rfl,rfl,xF.Jm AD.out yF.out ek.out XG.out⟩
   case rest =>
    obtain ⟨B,rfl,rfl,hB⟩:=hcut;obtain ⟨w3,rfl⟩:∃w3:World,w3=wc:=⟨_,rfl⟩;obtain ⟨pp,pc,np,nc,hb3,Ep⟩:=hB.out.ex;obtain ⟨q0,xY⟩:∃q0,q0=flat (dy (uB acw r)):=⟨_,rfl⟩;obtain ⟨q1,hq1⟩:∃q1,q1=flat (uR acw r):=⟨_,rfl⟩;have fF:=aa hB.out;rw [<- xY] at hb3 Ep;(have hl0:q0.ps.length<=1000000/\q0.ns.length<=1000000:=by have:=kG.out.len;rw [xY,nT,r6];omega);(have jg:q1.ps.length<=1000000/\q1.ns.length<=1000000:=by have:=kG.out.len;rw [hq1,nT,r6];omega);have Ef:=aa (Q8 _ w3 _ q0 Ep hl0.1 hl0.2 (by rw [xY];exact kG.out.sz))
    (have KZ:Hid (aB q0=0/\uV q0=q1):=by (have h1:aB q0=0:=by rw [xY];exact kG.out.te);refine ⟨h1,?_⟩;rw [Oe h1,xY,hq1];exact kG.out.can);(have lM:Hid (xQ q1=0/\(⟨(uw q1).toArray⟩:ByteArray)=bf (uR acw r)):=by unfold Hid;rw [hq1];refine ⟨by unfold xQ;rw [if_neg (by simp [kG.out.te2])],?_⟩;unfold bf;rw [kG.out.tx]);have xR:Hid (∀W v,aC Any W v q1->Calls Tryz.prog 148 #[v] W (Cn W q1)):=fun W v h=>MH Any W v q1 h jg.1 jg.2 (by rw [hq1];exact kG.out.sz2);have AD:=aa hb3;obtain ⟨b0,b1,b2,b3⟩:=boxed hb3
    clear hl0 jg xY hq1 Ep hb3 eY hct zh y6 vL hB y1 y2 y3 y4;go_wp2_with fail;refine Ef.out.mono ?_;rintro e w4 ⟨dQ,⟨oA,-⟩ | ⟨-,cv,rfl,P4,N4,rfl,fD,fE⟩⟩
    ·exact absurd KZ.out.1 oA
    rw [KZ.out.2] at fD fE;obtain ⟨p4,c4,rfl,-,-⟩:=aA.open fD;obtain ⟨n4,d4,rfl,-,-⟩:=aA.open fE;have hb4:=(bH dQ B fF.out.lo.2).trans AD.out;have HX5:=aa (xF.Jm (w:=wo) (t:=q1) (pp:=p4) (np:=n4) (pc:=c4) (nc:=d4) hb4 fF.out.lo.1 (fF.out.up.trans dQ) (aC.sub ⟨_,_,rfl,fD,fE⟩ fun b hb _=>by have:=fF.out.lo.2;omega));obtain ⟨b0,b1,b2,b3⟩:=boxed hb4;obtain ⟨_,_,_,s4⟩:=eW (w:=wo) (p:=.slice p4 q1.ps.length c4) (q:=.slice n4 q1.ns.length d4) hb4 fF.out.lo.1 (fF.out.up.trans dQ)
    have DY:aC Any ((w4.setCell ⟨B,0,none⟩ (.slice p4 q1.ps.length c4)).setCell ⟨B,1,none⟩ (.slice n4 q1.ns.length d4)) (.agg #[.slice p4 q1.ps.length c4,.slice n4 q1.ns.length d4]) q1 :=
     ((aC.sub (T:=fun b=>b≠B) ⟨_,_,rfl,fD,fE⟩ fun b hb _=>by have:=fF.out.lo.2;omega).keep fun b hb _=>s4 b hb).sub fun _ _ _=>trivial
    have tB:=aa DY;clear hb4 dQ fD fE Ef fF AD s4 DY;go_wp2_with fail;generalize (w4.setCell ⟨B,0,none⟩ _).setCell ⟨B,1,none⟩ _=w5 at *;refine (xR.out w5 _ tB.out).mono ?_;rintro e w6 ⟨fB,rfl⟩;rw [lM.out.1,lM.out.2];have PT:=aa (HA.out.next (HX5.out.up.trans fB));obtain ⟨oq,oc,IX,-⟩:=PT.out.own.form (n:=qs.length) (by rw [aD,aD]);subst IX;have HQ:Hid (∃q,q=uR acw r):=⟨_,rfl⟩;obtain ⟨q,hq⟩:=HQ.out;rw [<- hq] at lM lK ⊢;have PI:Hid (((qs.map bf).map Value.string).length=qs.length):=by unfold Hid;rw [aD,aD]
    (have dm:Hid (w.heap.size<=w6.heap.size):=by obtain ⟨z1,z2,z3⟩:=PT.out.sz;unfold Hid;omega);clear fB HX5 xR tB lM KZ kG hq HQ b0 b1 b2 b3 HA z1 z2;go_wp2_with (at_builtin;refine jH w6 rfl _ _ 22 rfl w.heap.size 9 (.string ⟨#[]⟩) 16 Tryz.underlying22 Tryz.jF rfl (by decide) PT.out.own rfl (.string (bf q)) rfl rfl qs.length PI.out (by have:=HQN.out;omega) dm.out ?_;intro g8 jl w8 dJ eN iV;have Aw:=aa (PT.out.app dJ eN iV);clear dJ eN iV);have e9:Hid ((qs.map bf).length=qs.length):=aD _
    have O8:Hid (PO w w2 qs q qs.length (.slice (some ⟨g8,0,none⟩) (qs.length+1) jl) w8):=by refine ⟨bf q,?_,fun i h1 h2=>by omega⟩;have h:=Aw.out;rw [R8,e9.out] at h;exact h
    have oL:Hid (∀(m:Nat) (wr:World),m<=qs.length->PO w w2 qs q m (.slice (some ⟨g8,0,none⟩) (qs.length+1) jl) wr->(m=0\/fV (qs.getD (m - 1) (.node ByteArray.empty [])) q)->YG w w2 acw (n+1) (.slice (some ⟨g8,0,none⟩) (qs.length+1) jl) (wr.setCell ⟨g8,m,none⟩ (.string (bf q)))):=fun m wr hm hJ hlo=>by
     obtain ⟨j,hj,hhi⟩:=hJ;obtain ⟨i1,i2⟩:=Yv HS.out hm hhi hlo;obtain ⟨g,cp,e,_,_,h4⟩:=hj.set (j:=m) (by rw [Jd,e9.out];omega);injection e with e;injection e with e;injection e with e;subst e;refine ⟨qs.take m++q::qs.drop m,?_,?_,i2⟩
     ·have h5:=h4 (bf q)
      rw [PE (by rw [e9.out];exact hm)] at h5;(have e2:(qs.take m++q::qs.drop m).map bf=tK (qs.map bf) m (bf q):=by unfold tK;simp);rw [e2];exact h5
     ·rw [lK.out]
      exact i1.trans ((HP.out.cons q).trans (oo (l₁:=[q])))
    have KT:Hid (∀(m:Nat) (wr:World),m<=qs.length->PO w w2 qs q m (.slice (some ⟨g8,0,none⟩) (qs.length+1) jl) wr->wr.frozen? ⟨g8,m,none⟩=false/\(∃x,wr.cell? ⟨g8,m,none⟩=some (.string x))/\(0<m->wr.cell? ⟨g8,m - 1,none⟩=some (.string (bf (qs.getD (m - 1) (.node ByteArray.empty [])))))/\(0<m->¬fV (qs.getD (m - 1) (.node ByteArray.empty [])) q->PO w w2 qs q (m - 1) (.slice (some ⟨g8,0,none⟩) (qs.length+1) jl) (wr.setCell ⟨g8,m,none⟩ (.string (bf (qs.getD (m - 1) (.node ByteArray.empty []))))))):=fun m wr hm hJ=>by
     obtain ⟨j,hj,hhi⟩:=hJ;obtain ⟨g,cp,e,h2,h3,h4⟩:=hj.set (j:=m) (by rw [Jd,e9.out];omega);injection e with e;injection e with e;injection e with e;subst e;refine ⟨h3,⟨_,h2⟩,fun h0=>?_,fun h0 hn=>?_⟩
     ·obtain ⟨g',cp',e',DM,_,_⟩:=hj.set (j:=m - 1) (by rw [Jd,e9.out];omega)
      injection e' with e';injection e' with e';injection e' with e';subst e';rw [UL h0 (by rw [e9.out];exact hm),z8 (by omega)] at DM;exact DM
     ·refine ⟨gs (qs.map bf) (m - 1),?_,fun i q1 q2=>?_⟩
      ·have h5:=h4 (bf (qs.getD (m - 1) (.node ByteArray.empty [])))
       rw [<- z8 (by omega),R9 h0 (by rw [e9.out];exact hm)] at h5;rw [<- z8 (by omega)];exact h5
      ·by_cases ei:i=m - 1
       ·rw [ei];exact hn
       ·exact hhi i (by omega) q2
    have MJ:Hid (qs.length<=15):=HQN.out;clear Aw PT e9 lK HP PI dm;go_wp2_with fail
    go_loopw [10] (fun k wr=>∃m:Nat,m<=qs.length/\k=.int .i64 m/\Hid (PO w w2 qs q m (.slice (some ⟨g8,0,none⟩) (qs.length+1) jl) wr)) (fun k _=>(intOf k).toNat)
    case atStart=>exact ⟨qs.length,ah _,rfl,O8.out⟩
    case round =>
     obtain ⟨m,hm,rfl,hJ⟩:=hrel;obtain ⟨wi,rfl⟩:∃wi:World,wi=wr:=⟨_,rfl⟩;obtain ⟨hf,⟨x0,hx0⟩,hc1,hsh⟩:=KT.out m wi hm hJ.out;(have m1:(0:Int)<=(m:Int):=by omega);(have m2:(m:Int)<((qs.length+1:Nat):Int):=by omega);(have m3:(m:Int)<16:=by have:=MJ.out;omega);(have m4:m<qs.length+1:=by omega);by_cases h0:m=0
     ·subst h0
      have iZ:=aa (oL.out 0 wi (aI _) hJ.out (.inl rfl));clear hJ hsh hc1;go_wp2_with fail
      go_roundw
      case rel=>exact ⟨n+1,bG.out,by go_num,iZ.out⟩
      case measure=>have:=bG.out;simp [intOf];omega
     ·have hc2:=hc1 (by omega)
      (have hw:wrap64 ((m:Int) - 1)=((m - 1:Nat):Int):=by unfold wrap64;omega);(have m5:(0:Int)<(m:Int):=by omega);(have m6:((m - 1:Nat):Int)<((qs.length+1:Nat):Int):=by omega);(have m7:m - 1<qs.length+1:=by omega);obtain ⟨y,hy⟩:∃y,y=qs.getD (m - 1) (.node ByteArray.empty []):=⟨_,rfl⟩;rw [<- hy] at hc2 hsh;have Ew:=aa (oL.out m wi hm hJ.out);rw [<- hy] at Ew;have HSH:=aa hsh;have HM0:Hid (0<m/\m<=qs.length):=⟨by omega,hm⟩;have HJJ:=aa hJ.out;clear hc1 hsh hy hJ;go_wp2_with fail
      ·have hno:=YI ‹_/\_›
       have hm0:=HM0.out;have HX:=aa (HSH.out hm0.1 hno)
       go_roundw
       case rel=>exact ⟨m - 1,by omega,by go_num,HX.out⟩
       case measure=>simp [intOf];omega
      ·have hyes:=UR ‹_\/_›
       have iZ:=aa (Ew.out (.inr hyes))
       go_roundw
       case rel=>exact ⟨n+1,bG.out,by go_num,iZ.out⟩
       case measure=>have:=bG.out;simp [intOf];omega
  ·obtain rfl:n=(bK acw.tail).length:=by omega
   (have VO:qs=bQ acw:=by refine Yw xK.out ?_ hs;rw [o9.out.1,eT] at hp;exact hp);subst VO;have x4:=aa hA.up;have HST:Hid (av Any wo u3 ((bQ acw).map bf)):=hA.own.strs.sub fun _ _ _=>trivial;obtain ⟨op,oc,IX,-⟩:=hA.own.form (n:=(bQ acw).length) (by rw [aD,aD]);subst IX;have HST:Hid (av Any wo (.slice op (bQ acw).length oc) ((bQ acw).map bf)):=HST.out;(have fN:Hid ((allT acw).length=(bQ acw).length):=by unfold Hid allT;rw [aD]);have MJ:=aa TD;clear hI hA hp hs hlt hn TD
   (have CF:Hid (AlI wo acw 0 (.slice (some ⟨wo.heap.size,0,none⟩) 0 0) (wo.alloc (.cells #[] 39))):=by refine ⟨Up.alloc _ _,[],⟨World.ownsRow_made wo #[] 0 (ah _) (by unfold maxLen;omega) (by simp),fun _ h=>by cases h⟩,by simp⟩);go_wp2_with fail
   go_loopw [11,12,13,14] (fun out i _ _ wr=>∃k:Nat,k<=(bQ acw).length/\i=.int .i64 k/\Hid (AlI wo acw k out wr)) (fun _ i _ _ _=>(bQ acw).length - (intOf i).toNat)
   case atStart=>exact ⟨0,aI _,rfl,CF.out⟩
   case round =>
    obtain ⟨k,hk,rfl,hI⟩:=hrel;obtain ⟨wi,rfl⟩:∃wi:World,wi=wr:=⟨_,rfl⟩;obtain ⟨tI,es,hes,hem⟩:=hI.out;(have k0:(0:Int)<=(k:Int):=by omega);by_cases hlk:k<(bQ acw).length
    ·have hmem:(bQ acw).getD k (.node ByteArray.empty [])∈bQ acw:=by simp [hlk]
     obtain ⟨p1,p2,p3⟩:=MG xK.out hmem;obtain ⟨_,_,_,_,p5,_⟩:=gI xK.out hmem;obtain ⟨xb,xo,rfl,sA⟩:=cA (av.keep HST.out (tI.kept _)) (k:=k) (by rw [aD];exact hlk);rw [z8 hlk] at sA;have mY:jM (bf ((bQ acw).getD k (.node ByteArray.empty []))).data.toList=some ((bQ acw).getD k (.node ByteArray.empty [])):=by have hg:=(gI xK.out hmem).1.good;(have e:(bf ((bQ acw).getD k (.node ByteArray.empty []))).data.toList=bF ((bQ acw).getD k (.node ByteArray.empty []))++[59]:=by unfold bf cr;simp);rw [e];exact vQ hg.kC
     have zh:=aa (JV wi _ p1 mY p5);(have hlt2:k<(allT acw).length:=by rw [fN.out];exact hlk);(have hgt:gt (allT acw) k=flat ((bQ acw).getD k (.node ByteArray.empty [])):=by unfold allT gt;simp [hlk]);(have lK:Hid ((allT acw).take (k+1)=es.map (·.2)++[flat ((bQ acw).getD k (.node ByteArray.empty []))]):=by unfold Hid;rw [K0 hlt2,hem,hgt]);(have rA:es.length=k:=by have:=congrArg List.length hem;rw [aD,dD] at this;omega);have iu:=aa rA;obtain ⟨op2,oc2,rfl⟩:=hes.form
     (have xX:Hid (jV wo.heap.size wi (.slice op2 k oc2) es):=by have h:=hes;rw [rA] at h;exact h);have XP:=aa tI;have Je:=aa hlk;(have k1:(k:Int)<((bQ acw).length:Int):=by omega);(have k2:(k:Int)<16:=by have:=MJ.out;omega);rw [rA];clear hI tI hes hem hlk hlt2 hgt hmem p1 p2 p3 p5 mY rA;generalize bf ((bQ acw).getD k (.node ByteArray.empty []))=key at *;generalize flat ((bQ acw).getD k (.node ByteArray.empty []))=q at *;go_wp2_with fail;refine zh.out.mono ?_;rintro e w2 ⟨aJ,v2,rfl,ht2⟩;obtain ⟨P2,N2,rfl,jw,jx⟩:=ht2;obtain ⟨pp,pc,rfl,-,-⟩:=aA.open jw
     obtain ⟨np,nc,rfl,-,-⟩:=aA.open jx;have bq:=Up.alloc w2 (.cells #[.slice pp q.ps.length pc,.slice np q.ns.length nc] 39);have YL:=xX.out.up (aJ.trans bq);have aa2:=aa YL;have hlo:=fun b hb=>(lT xX.out.1 b hb);have Ph:Hid (aC (fun b=>some b≠(Value.slice op2 k oc2).ownBlock) (w2.alloc (.cells #[.slice pp q.ps.length pc,.slice np q.ns.length nc] 39)) (.agg #[.slice pp q.ps.length pc,.slice np q.ns.length nc]) q) :=
      (aC.keep ⟨_,_,rfl,jw,jx⟩ (bq.kept _)).sub fun b hb _ e=>by have h1:=(hlo b e.symm).2;have h2:wi.heap.size<=b:=hb;omega
     have bY:=aa (XP.out.trans (aJ.trans bq));have jK:=aa (fO w2 (.slice pp q.ps.length pc) (.slice np q.ns.length nc) 39);have gT:=aa (fP w2 (.slice pp q.ps.length pc) (.slice np q.ns.length nc) 39);have HEQ:Hid (es.length=k):=iu.out;(have HK6:Hid (k<=1000000):=by have:=Je.out;have:=MJ.out;unfold Hid;omega);clear aJ jw jx bq YL hlo zh xX
     go_wp2_with (at_builtin;refine zk _ rfl _ _ 33 rfl wo.heap.size _ 48 Tryz.underlying33 Tryz.infoTree rfl (by decide) aa2.out rfl ((.slice pp q.ps.length pc,.slice np q.ns.length nc),q) (by rw [aL];rfl) Ph.out k HEQ.out HK6.out bY.out.size ?_;intro g8 jl w8 dJ eN zi;have vT:=aa dJ;have nj:=aa zi;clear dJ eN zi)
     go_roundw
     case rel=>exact ⟨k+1,Je.out,by go_num,fc (show Below wo.heap.size wo _ from bY.out) nj.out,_,vT.out,by rw [lK.out,cm];rfl⟩
     case measure=>have:=Je.out;simp [intOf];omega
    ·obtain rfl:k=(bQ acw).length:=by omega
     (have zj:es.map (·.2)=allT acw:=by rw [hem,<- fN.out,eT]);have iZ:Hid (BD w acw (.returned u11) wi):=⟨x4.out.trans tI,u11,rfl,zj ▸ hes.trees⟩;clear hI tI hes hem zj hlk;go_wp2_with fail;go_ret;exact iZ.out
theorem Sg (S:Nat->Prop) (w:World) (v:Value) (acw:List ByteArray) (h:av S w v acw) (hn:acw.length<=1000000) (hz:∀k,(gs acw k).size<=70000) (h5:acw.length<=5\/7<acw.length) :
  Calls Tryz.prog 61 #[v] w (Dx w acw):=by
 have jY:=aa (CM S w v acw h hn hz);obtain ⟨p,cap,rfl,hcap,-⟩:=aA.open h;have h:av S w (.slice p acw.length cap) acw:=h;have AE:Hid (∀W,Up w W->dK acw=0->Calls Tryz.prog 105 #[.slice p acw.length cap] W (BD W acw)):=fun W hW h0=>by
  have h5':acw.length<=5:=by
   rcases h5 with h5 | h5
   ·exact h5
   ·unfold dK at h0;rw [if_pos (.inr h5)] at h0;cases h0
  exact Sd S W _ acw ((xy h5').1 h0) (av.keep h (hW.kept S))
 clear h hz h5
 go_enter Tryz.func61,Tryz.ntmps61
 go_wp2_with fail;refine jY.out.mono ?_;rintro e w1 ⟨rfl,bw⟩;have b9:=aa bw;have YM:=aa (AE.out w1 bw);clear bw jY AE;by_cases c1:dK acw=0
 ·have YN:=aa (YM.out c1)
  have iZ:Hid (∀W v,Up w W->ew Any W v (allT acw)->Dx w acw (.returned (.tuple #[v,.int .i64 0])) W):=fun W v hu ht=>⟨hu,v,by rw [c1],by rw [if_pos c1];exact ht⟩;rw [c1];clear c1 YM;go_wp2_with fail;refine YN.out.mono ?_;rintro e w2 ⟨aJ,v2,rfl,ht2⟩;have rF:=aa (iZ.out w2 v2 (b9.out.trans aJ) ht2);clear aJ ht2 YN;go_wp2_with fail;go_ret2;exact rF.out
 ·have iZ:Hid (Dx w acw (.returned (.tuple #[.slice none 0 0,.int .i64 (dK acw)])) w1):=⟨b9.out,_,rfl,by rw [if_neg c1];exact ew.nil _ _⟩
  generalize dK acw=a at *;go_wp2_with fail;go_ret2;exact iZ.out
end Go.Proofs.YthgabkgmkolobaaGreat
