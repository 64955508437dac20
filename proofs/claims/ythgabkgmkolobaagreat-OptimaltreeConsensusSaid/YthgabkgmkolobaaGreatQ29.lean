/- The walk of optimaltree.entries. The .. -/
import Derived.Test.YthgabkgmkolobaaGreatQ28
set_option maxRecDepth 100000
set_option maxHeartbeats 8000000
namespace Go.Proofs.YthgabkgmkolobaaGreat
section
open Go.RowKit Go.Deep
theorem Tryz.aeU:(Tryz.prog.info? 96).map (fun i=>(i.zero,i.size,i.bytes))=some (some (.agg #[.slice none 0 0,.slice none 0 0,.string ⟨#[]⟩]),3,64):=by kernel_rfl
def EnI (w:World) (amd:List ByteArray) (n:Nat) (out:Value) (wr:World):Prop:=Up w wr/\∃es:List s5,nG w.heap.size wr out es/\es.map (·.2)=((sj amd.tail).take n).map (uR amd)
theorem nG.form {base:Nat} {w:World} {v:Value} {es:List s5} (h:nG base w v es):∃p c,v=.slice p es.length c:=by
 rcases h.1.2 with ⟨e,h0⟩ | ⟨g,cap,cur,e,_⟩
 ·exact ⟨none,0,by rw [e,h0]⟩
 ·exact ⟨_,_,e⟩
theorem aeV {R:List (BT ByteArray)} {n:Nat} (h:n<R.length):R.take (n+1)=R.take n++[gB R n]:=by
 rw [jQ h];simp [gB,h]
theorem Zc (S:Nat->Prop) (w:World) (v:Value) (amd:List ByteArray) (hok:nQ amd) (h:aj S w v amd):Calls Tryz.prog 68 #[v] w (Zb w amd):=by
 have hlo:=hok.lo;have hhi:=hok.hi;obtain ⟨p,cap,rfl,hcap,-⟩:=aq.open h;have h:aj S w (.slice p amd.length cap) amd:=h;obtain ⟨nb,no,rfl,hc0⟩:=cH h (k:=0) (by omega);rw [mZ] at hc0;have hz:∀x∈amd,x.size<=20:=fun x hx=>Lx (hok.nm x hx);have Rh:=aa (ab5 amd.tail.length amd.tail (ah _) (by rw [CR];omega) (by rw [CR];omega) (fun x hx=>hz x (List.mem_of_mem_tail hx)) S w _ (Za h hlo));have pW:=aa hok;have lV:=aa hc0;have Uz:Hid (amd.tail.length<=4/\1<=amd.tail.length):=by unfold Hid;rw [CR];omega
 have hgz:(gs amd 0).size<=20:=vE hz 0;have HGZ:=aa hgz;have HZT:Hid (∀k,(gs (cV amd.tail) k).size<=100):=vE fun x hx=>IA Uz.out.1 (fun x hx=>hz x (List.mem_of_mem_tail hx)) hx;have pV:Hid ((cV amd.tail).length=(sj amd.tail).length/\(cV amd.tail).length<=15/\1<=(cV amd.tail).length):=⟨by unfold cV;rw [aD],Cy Uz.out.1,aeI Uz.out.1 Uz.out.2⟩;have i0:¬cap=1:=by omega
 have i1:(1:Int)<=(amd.length:Int):=by omega
 have i2:1<=amd.length:=by omega
 clear h hc0 hz hok hhi hgz;go_in;go_wp2_with fail;refine Rh.out.mono ?_;rintro e w1 ⟨bK,tv,rfl,htv⟩;obtain ⟨tp,tc,rfl,-,-⟩:=aq.open htv;have HTV:Hid (aj (fun b=>S b\/w.heap.size<=b) w1 (.slice tp (cV amd.tail).length tc) (cV amd.tail)):=htv;have cB:=aa bK;have uK:Hid (EnI w1 amd 0 (.slice none 0 0) w1):=⟨Up.refl _,[],nG.nil _ _,by simp⟩;clear bK htv Rh;go_wp2
 go_loopw [4,6,7,8,9,14] (fun out _ _ _ _ i wr=>∃n:Nat,n<=(cV amd.tail).length/\i=.int .i64 n/\Hid (EnI w1 amd n out wr)) (fun _ _ _ _ _ i _=>(cV amd.tail).length - (intOf i).toNat)
 case atStart=>exact ⟨0,aF _,rfl,uK.out⟩
 case round =>
  obtain ⟨n,hn,rfl,hI⟩:=hrel;obtain ⟨wo,rfl⟩:=eM wr;obtain ⟨uX,es,hes,hem⟩:=hI.out;have i3:(0:Int)<=(n:Int):=by omega
  by_cases hlt:n<(cV amd.tail).length
  ·obtain ⟨tb,to',rfl,hct⟩:=cH (aj.keep HTV.out (uX.kept _)) hlt
   (have hnl:n<(sj amd.tail).length:=by rw [<- pV.out.1];exact hlt);obtain ⟨g1,g2⟩:=ag8 hnl;have hef:=enF pW.out g2;(have hen:es.length=n:=by have:=congrArg List.length hem;rw [aD,aD,jl] at this;omega);(have sV:Hid (((sj amd.tail).take (n+1)).map (uR amd)=es.map (·.2)++[uR amd (gB (sj amd.tail) n)]):=by unfold Hid;rw [aeV hnl,cg,hem];rfl);have z1:=HGZ.out;have z2:(gs (cV amd.tail) n).size<=100:=HZT.out n;rw [g1] at hct z2;have HPA:Hid (∀W,Calls Tryz.prog 121 #[.string (D9 amd (uV (gB (sj amd.tail) n)))] W (QV W (D9 amd (uV (gB (sj amd.tail) n))))):=fun W=>aeL W _ hef.psz (aiF _ hef.psz);unfold D9 at HPA;have Ea:=aa hef;have Nz:=aa hes;have Ri:=aa hen;have aR:=aa hlt;have Eb:=aa uX;have fG:=(cB.out.trans uX).cell lV.out;(have i4:(n:Int)<((cV amd.tail).length:Int):=by omega);(have i5:(n:Int)<16:=by have:=pV.out.2.1;omega);clear hI hef hes hen hem uX hlt hnl g1 g2;generalize gB (sj amd.tail) n=r at *;go_wp2_with fail;refine (HPA.out wo).mono ?_;rintro e w2 ⟨aI,pv,rfl,hpv⟩;(have hpe:QU (D9 amd (uV r))=0:=by unfold QU;rw [Ea.out.ag7];exact Ea.out.te);(have hpt:Nd (D9 amd (uV r))=flat (nC (uB amd r)):=by unfold Nd;rw [Ea.out.ag7];simp [Ea.out.te]);unfold D9 at hpe hpt;rw [hpe];(have hpv:aG Any w2 pv (flat (nC (uB amd r))):=by have h:=hpv;unfold D9 at h;rw [hpt] at h;exact h);obtain ⟨q0,Zd⟩:∃q0,q0=flat (nC (uB amd r)):=⟨_,rfl⟩;obtain ⟨q1,hq1⟩:∃q1,q1=flat (uR amd r):=⟨_,rfl⟩;rw [<- Zd] at hpv;obtain ⟨P2,N2,rfl,uD,wH⟩:=hpv;obtain ⟨pp,pc,rfl,-,-⟩:=aq.open uD;obtain ⟨np,nc,rfl,-,-⟩:=aq.open wH;have uD:af Any w2 (.slice pp q0.ps.length pc) q0.ps:=uD;have wH:aj Any w2 (.slice np q0.ns.length nc) q0.ns:=wH;have fO:=Up.alloc w2 (.cells #[.slice pp q0.ps.length pc,.slice np q0.ns.length nc] 39);have hb3:=iN (w:=w2) (P:=.slice pp q0.ps.length pc) (N:=.slice np q0.ns.length nc) (T:=39);have hs3:(w2.alloc (.cells #[.slice pp q0.ps.length pc,.slice np q0.ns.length nc] 39)).heap.size=w2.heap.size+1:=aQ _ _;(have hl0:q0.ps.length<=1000000/\q0.ns.length<=1000000:=by have:=Ea.out.len;rw [Zd,vv,Cl];omega);(have jC:q1.ps.length<=1000000/\q1.ns.length<=1000000:=by have:=Ea.out.len;rw [hq1,vv,Cl];omega);have Cj:=aa (y5 Any (w2.alloc (.cells #[.slice pp q0.ps.length pc,.slice np q0.ns.length nc] 39)) _ q0 (aG.keep ⟨_,_,rfl,uD,wH⟩ (fO.kept _)) hl0.1 hl0.2 (by rw [Zd];exact Ea.out.sz));(have Ec:Hid (aA q0=0/\kW q0=q1):=by unfold Hid;rw [Zd,hq1];exact ⟨Ea.out.te,Ea.out.can⟩);(have k8:Hid (T9 q1=0/\(⟨(M8 q1).toArray⟩:ByteArray)=iU (uR amd r)):=by unfold Hid;rw [hq1];refine ⟨by unfold T9;rw [if_neg (by simp [Ea.out.te2])],?_⟩;unfold iU;rw [Ea.out.tx]);have D1:Hid (∀W v,aG Any W v q1->Calls Tryz.prog 29 #[v] W (YI W q1)):=fun W v h=>aeE Any W v q1 h jC.1 jC.2 (by rw [hq1];exact Ea.out.sz2)
   have eW:=aa (aI.trans fO);have HB3:=aa hb3;have Fo:=aa hs3;have kJ:Hid (wo.heap.size<=w2.heap.size):=aI.size;have tS:=aa hq1;obtain ⟨b0,b1,b2,b3⟩:=boxed hb3;clear hpe hpt uD wH fO hb3 hs3 hl0 jC aI Zd hq1 fG hct HPA z1 z2;go_wp2_with fail;generalize w2.alloc (.cells #[.slice pp q0.ps.length pc,.slice np q0.ns.length nc] 39)=w3 at *;refine Cj.out.mono ?_;rintro e w4 ⟨gU,⟨qT,-⟩ | ⟨-,cv,rfl,P4,N4,rfl,qB,qD⟩⟩
   ·exact absurd Ec.out.1 qT
   rw [Ec.out.2] at qB qD;obtain ⟨p4,c4,rfl,-,-⟩:=aq.open qB;obtain ⟨n4,d4,rfl,-,-⟩:=aq.open qD;have hb4:=(bH gU w2.heap.size (by rw [Fo.out];omega)).trans HB3.out;have HB4:=aa hb4;have k7:=aa (eW.out.trans gU);have TH:Hid (af (fun b=>w3.heap.size<=b) w4 (.slice p4 q1.ps.length c4) q1.ps/\aj (fun b=>w3.heap.size<=b) w4 (.slice n4 q1.ns.length d4) q1.ns):=⟨qB,qD⟩;obtain ⟨b0,b1,b2,b3⟩:=boxed hb4;clear hb4 gU qB qD Cj;have HST:=aa (gz (w:=wo) (p:=.slice p4 q1.ps.length c4) (q:=.slice n4 q1.ns.length d4) HB4.out kJ.out k7.out);go_wp2_with fail;obtain ⟨u5,s0,s1,s2⟩:=HST.out;have Mf:aG (fun b=>w3.heap.size<=b) ((w4.setCell ⟨w2.heap.size,0,none⟩ (.slice p4 q1.ps.length c4)).setCell ⟨w2.heap.size,1,none⟩ (.slice n4 q1.ns.length d4)) (.agg #[.slice p4 q1.ps.length c4,.slice n4 q1.ns.length d4]) q1 :=
    ⟨_,_,rfl,af.keep TH.out.1 fun b hb _=>s2 b (by have:=Fo.out;omega),aj.keep TH.out.2 fun b hb _=>s2 b (by have:=Fo.out;omega)⟩
   have Uh:=aa Mf;have kK:=aa u5;have HC5:=aa (And.intro s0 s1);clear Mf u5 s0 s1 s2 HST TH b0 b1 b2 b3;generalize (w4.setCell ⟨w2.heap.size,0,none⟩ _).setCell ⟨w2.heap.size,1,none⟩ _=w5 at *;refine (D1.out w5 _ (Uh.out.sub fun _ _ _=>trivial)).mono ?_;rintro e w6 ⟨ir,rfl⟩;rw [k8.out.1,k8.out.2];have b0:=ir.cell HC5.out.1;have b1:=ir.cell HC5.out.2;have uY:=aa (kK.out.trans ir);have HT6:=aa (Uh.out.keep (ir.kept _));have ab7:=Nz.out.up uY.out;have ab8:=aa ab7;obtain ⟨op,oc,rfl⟩:=ab7.form;rw [Ri.out];(have ab8:Hid (nG w1.heap.size w6 (.slice op n oc) es):=by have h:=ab8.out;rw [Ri.out] at h;exact h);(have HTU:Hid (aG (fun b=>some b≠(Value.slice op n oc).ownBlock) w6 (.agg #[.slice p4 q1.ps.length c4,.slice n4 q1.ns.length d4]) (flat (uR amd r))):=by have h:=HT6.out;(have hlt:∀b,(Value.slice op n oc).ownBlock=some b->b<wo.heap.size:=fun b hb=>by have h2:=Nz.out.1;rw [Ri.out] at h2;exact (sJ h2 b hb).2);rw [<- tS.out];exact h.sub fun b hb _ e=>by have h1:=hlt b e.symm;have h2:=kJ.out;have h3:=Fo.out;omega);have dM:Hid (w1.heap.size<=w6.heap.size):=(Eb.out.trans uY.out).size;clear ab7 ir Uh HT6 D1;go_wp2_with (at_builtin;refine Om w6 rfl _ _ 91 rfl w1.heap.size _ 64 Tryz.underlying91 Tryz.aeU rfl (by decide) ab8.out rfl ((.slice p4 q1.ps.length c4,.slice n4 q1.ns.length d4),uR amd r) rfl HTU.out n Ri.out (by have:=aR.out;have:=pV.out.2.1;omega) dM.out ?_;intro g8 kM w8 gp jr Rj;have Ze:=aa gp;have wN:=aa Rj;clear gp jr Rj)
   go_roundw
   case rel=>exact ⟨n+1,aR.out,by go_num,iz (show Below w1.heap.size w1 w6 from Eb.out.trans uY.out) wN.out,_,Ze.out,by rw [sV.out,cg];rfl⟩
   case measure=>have:=aR.out;simp [intOf];omega
  ·obtain rfl:n=(cV amd.tail).length:=by omega
   (have i4:¬((cV amd.tail).length:Int)<((cV amd.tail).length:Int):=by omega);have ag9:=nG.up hes (Up.refl wo);obtain ⟨op,oc,rfl⟩:=ag9.form;(have Rk:es.map (·.2)=(rt amd.length amd.tail).map (uR amd):=by rw [hem,pV.out.1,fT];have:rt amd.length amd.tail=sj amd.tail:=yw _ _ _ (by simp) (ah _);rw [this]);(have oL:es.length=(cV amd.tail).length:=by have:=congrArg List.length hem;rw [aD,aD,pV.out.1,fT] at this;rw [pV.out.1];exact this);(have hne:es≠[]:=fun e=>by rw [e] at oL;have:=pV.out.2.2;simp at oL;omega);have TU:=aa (Y9 hes hne (by rw [oL];have:=pV.out.2.1;omega));have Nz:=aa hes;have Zf:=aa Rk;have Eb:=aa uX;clear hI hes ag9 hem Rk uX hlt hne oL;go_wp2_with fail;refine TU.out.mono ?_;rintro e w9 ⟨rfl,hg9,es',hp9,Kh,g9,c9,hv9,UA⟩;have CB:Hid (Zb w amd (.returned (.tuple #[.slice op es.length oc,.int .i64 0])) w9):=by
    have hB:Below w1.heap.size w1 w9:=Below.grown (show Below w1.heap.size w1 wo from Eb.out) hg9 Eb.out.size fun k hk=>(sJ Nz.out.1 k hk).1;(have GH:(es'.map (·.2))=gV amd:=by refine J2 (((hp9.map (·.2)).trans (List.Perm.of_eq Zf.out)).trans (wI _).symm) Kh (GU _) fun r hr=>?_;have hr2:r∈gV amd:=(wI _).mem_iff.2 (Zf.out ▸ (hp9.map (·.2)).mem_iff.1 hr);exact (rY pW.out hr2).1.good.oJ);refine ⟨?_,_,rfl,g9,c9,es',?_,GH,UA,?_⟩
    ·exact Up.trans cB.out hB
    ·rw [hv9,<- GH,aD]
    ·intro x hx
     have h1:=Nz.out.2 x (hp9.mem_iff.1 hx);exact (h1.keep fun b hb hlt=>hg9.block b hlt hb).sub fun _ _ _=>trivial
   clear hg9 hp9 Kh hv9 UA;go_wp2;go_ret2;exact CB.out
end
section
def fI (amd:List ByteArray) (i:Nat):Int:=if bq (gs amd i).data.toList then (if cW amd i then 7 else 0) else 14
def eR (amd:List ByteArray) (l:List (List Int)):Int :=
 if amd.length=0 then 5 else if 32<amd.length\/64<l.length then 4
 else if bf (fI amd) amd.length≠0 then bf (fI amd) amd.length
 else if bf (fun k=>aV amd.length (gl l k)) l.length≠0 then bf (fun k=>aV amd.length (gl l k)) l.length
 else if 0<=iY l then 17 else 0
structure iZ (amd:List ByteArray) (l:List (List Int)):Prop where
 pos:0<amd.length
 le:amd.length<=32
 l64:l.length<=64
 nm:∀k,k<amd.length->bq (gs amd k).data.toList=true
 nd:∀j k,j<k->k<amd.length->gs amd k≠gs amd j
 AW:∀s∈l,Dn amd.length s
 cmp:∀i k,i<k->k<l.length->jo (gl l i) (gl l k)=true
theorem lI {l:List (List Int)} {k:Nat} (h:k<l.length):gl l k∈l:=by simp [gl,h]
theorem Ds {l:List (List Int)} {x:List Int} (h:x∈l):∃k,k<l.length/\gl l k=x:=by
 obtain ⟨k,hk,e⟩:=F3.1 h;exact ⟨k,hk,by simp [gl,hk,e]⟩
theorem NA {l:List (List Int)}:iY l<0↔∀i k,i<k->k<l.length->jo (gl l i) (gl l k)=true:=by
 have h1:=iK (fun i=>decide (0<=ig l i)) l.length;have h2:∀i,decide (0<=ig l i)=(List.range l.length).any fun k=>decide (i<k)&&!jo (gl l i) (gl l k):=fun i=>iK _ _;constructor
 ·intro h i k hik hk
  have h3:(List.range l.length).any (fun i=>decide (0<=ig l i))=false:=by rw [<- h1];exact decide_eq_false (by unfold iY at h;omega)
  have h4:=any_false h3 (show i<l.length by omega);rw [h2] at h4;have h5:=any_false h4 hk;rw [decide_eq_true hik,Bool.true_and] at h5;simpa using h5
 ·intro h
  have h3:(List.range l.length).any (fun i=>decide (0<=ig l i))=false:=any_none fun i hi=>by
   rw [h2];refine any_none fun k hk=>?_;by_cases e:i<k
   ·rw [h i k e hk];simp
   ·rw [decide_eq_false e];rfl
  rw [<- h1] at h3;have:=of_decide_eq_false h3;unfold iY;omega
theorem Fs {amd:List ByteArray} {l:List (List Int)}:eR amd l=0↔iZ amd l:=by
 unfold eR;constructor
 ·intro h
  split at h
  ·cases h
  ·split at h
   ·cases h
   ·split at h
    ·rename_i h3;exact absurd h h3
    ·rename_i h3
     have h3:=iC (FW.1 h3);split at h
     ·rename_i h4;exact absurd h h4
     ·rename_i h4
      have h4:=iC (FW.1 h4);split at h
      ·cases h
      ·rename_i h5
       refine ⟨by omega,by omega,by omega,fun k hk=>?_,fun j k hjk hk e=>?_,fun s hs=>?_,NA.1 (by omega)⟩
       ·have:=h3 k hk
        unfold fI at this;split at this
        ·assumption
        ·cases this
       ·have:=h3 k hk
        unfold fI at this;split at this
        ·rw [if_pos] at this
         ·cases this
         ·exact dx.2 ⟨j,bu.2 hjk,decide_eq_true e.symm⟩
        ·cases this
       ·obtain ⟨k,hk,rfl⟩:=Ds hs
        exact qh.1 (h4 k hk)
 ·intro h
  have h1:=h.pos;have h2:=h.le;have h3:=h.l64;have h4:bf (fI amd) amd.length=0:=cG fun k hk=>by unfold fI;rw [if_pos (h.nm k hk),if_neg];intro e;obtain ⟨j,hj,e⟩:=dx.1 e;exact h.nd j k (bu.1 hj) hk (of_decide_eq_true e).symm
  have h5:bf (fun k=>aV amd.length (gl l k)) l.length=0:=cG fun k hk=>qh.2 (h.AW _ (lI hk));have h6:=NA.2 h.cmp;rw [if_neg (by omega),if_neg (by omega),if_neg (fun e=>e h4),if_neg (fun e=>e h5),if_neg (by omega)]
def kO (a b:List Int):Int:=if b.length<a.length then -1 else if a.length<b.length then 1 else cmpL a b
theorem tT {a b:List Int} (h:kO a b=0):a=b:=by
 unfold kO at h;split at h
 ·omega
 ·split at h
  ·omega
  ·exact nE h
theorem NB (a:List Int):kO a a=0:=by unfold kO;rw [if_neg (by omega),if_neg (by omega)];exact AH a
theorem AY (a b:List Int):kO b a = - kO a b:=by
 unfold kO;by_cases h1:b.length<a.length
 ·simp only [if_pos h1,if_neg (show ¬a.length<b.length by omega)];rfl
 ·by_cases h2:a.length<b.length
  ·simp only [if_pos h2,if_neg h1]
  ·simp only [if_neg h1,if_neg h2];exact oV a b
theorem Kk {a b c:List Int} (h1:kO a b<0) (h2:kO b c<0):kO a c<0:=by
 unfold kO at *;by_cases x1:b.length<a.length
 ·by_cases y1:c.length<b.length
  ·rw [if_pos (by omega)];omega
  ·rw [if_neg y1] at h2
   by_cases y2:b.length<c.length
   ·rw [if_pos y2] at h2;omega
   ·rw [if_pos (by omega)];omega
 ·rw [if_neg x1] at h1
  by_cases x2:a.length<b.length
  ·rw [if_pos x2] at h1;omega
  ·rw [if_neg x2] at h1
   by_cases y1:c.length<b.length
   ·rw [if_pos (by omega)];omega
   ·rw [if_neg y1] at h2
    by_cases y2:b.length<c.length
    ·rw [if_pos y2] at h2;omega
    ·rw [if_neg y2] at h2
     rw [if_neg (by omega),if_neg (by omega)];exact uE h1 h2
def AZ (a b:List Int):Prop:=kO a b<=0
theorem Zg {a b c:List Int} (h1:AZ a b) (h2:AZ b c):AZ a c:=by
 unfold AZ at *;by_cases e1:kO a b=0
 ·rw [tT e1];exact h2
 ·by_cases e2:kO b c=0
  ·rw [<- tT e2];exact h1
  ·have h3:kO a b<0:=by omega
   (have h4:kO b c<0:=by omega);exact Int.le_of_lt (Kk h3 h4)
def II (a:List Int):List (List Int)->List (List Int)
 | []=>[a]
 | b::l=>if kO a b<=0 then a::b::l else b::II a l
def Dt:List (List Int)->List (List Int)
 | []=>[]
 | a::l=>II a (Dt l)
theorem Fu (a:List Int):∀l:List (List Int),(II a l).Perm (a::l)
 | []=>mM _
 | b::l=>by
  rw [II]
  split
  ·exact mM _
  ·exact (List.Perm.cons b (Fu a l)).trans (List.Perm.swap a b l)
theorem yf:∀l:List (List Int),(Dt l).Perm l
 | []=>mM _
 | a::l=>(Fu a _).trans (List.Perm.cons a (yf l))
theorem G4 (a:List Int):∀ {l:List (List Int)},l.Pairwise AZ->(II a l).Pairwise AZ
 | [],_=>by simp [II]
 | b::l,h=>by
  rw [II]
  rw [iB] at h
  split
  ·rename_i h1
   refine iB.2 ⟨fun c hc=>?_,iB.2 h⟩
   rcases bA.1 hc with rfl | hc
   ·exact h1
   ·exact Zg h1 (h.1 c hc)
  ·rename_i h1
   refine iB.2 ⟨fun c hc=>?_,G4 a h.2⟩
   rcases bA.1 ((Fu a l).mem_iff.1 hc) with rfl | hc
   ·unfold AZ;have:=AY c b;omega
   ·exact h.1 c hc
theorem zF:∀l:List (List Int),(Dt l).Pairwise AZ
 | []=>List.Pairwise.nil
 | a::l=>G4 a (zF l)
theorem Wu {a b:List (List Int)} (hp:a.Perm b) (h:a.Pairwise AZ):a=Dt b :=
 List.Perm.eq_of_pairwise (le:=AZ) (fun x y _ _ h1 h2=>tT (by unfold AZ at h1 h2;have:=AY x y;omega)) h (zF b) (hp.trans (yf b).symm)
def aJ (l:List (List Int)):List (List Int):=jd (Dt l)
theorem rD {x:List Int} {l:List (List Int)}:x∈aJ l↔x∈l:=by unfold aJ;rw [vF];exact (yf l).mem_iff
theorem BH:∀ {l:List (List Int)},l.Pairwise AZ->(jd l).Pairwise fun a b=>kO a b<0
 | [],_=>List.Pairwise.nil
 | a::l,h=>by
  rw [iB] at h
  rw [jd]
  split
  ·exact BH h.2
  ·rename_i hne
   refine iB.2 ⟨fun c hc=>?_,BH h.2⟩
   have hc:=vF.1 hc
   have h1:=h.1 c hc
   unfold AZ at h1
   by_cases e:kO a c=0
   ·exfalso
    have e:=tT e
    subst e
    cases l with
    | nil=>cases hc
    | cons b l =>
     rw [List.head?_cons] at hne
     have h2:=h.1 b (by simp)
     rcases bA.1 hc with rfl | hc
     ·exact hne rfl
     ·have h3:=(iB.1 h.2).1 _ hc
      unfold AZ at h2 h3
      have:=AY a b
      exact hne (by rw [tT (a:=a) (b:=b) (by omega)])
   ·omega
theorem Te (l:List (List Int)):(aJ l).Pairwise fun a b=>kO a b<0:=BH (zF l)
theorem IJ:∀l:List (List Int),(jd l).length<=l.length
 | []=>ah _
 | a::l=>by
  rw [jd]
  have:=IJ l
  split<;>simp<;>omega
theorem ab9 (l:List (List Int)):(aJ l).length<=l.length:=by unfold aJ;rw [<- (yf l).length_eq];exact IJ _
def fk (own:List (List Int)) (x:Int):Nat->Int
 | 0=>2
 | k+1=>if (gl own k).contains x then ((3+k:Nat):Int) else fk own x k
def bT (amd:List ByteArray) (own:List (List Int)):ax :=
 ⟨[-1,0,0]++((List.range own.length).map (fun k=>fk own (gi (gl own k) 0) k)++(List.range (amd.length - 1)).map fun b=>fk own ((b+1:Nat):Int) own.length),
  [ByteArray.empty,gs amd 0,ByteArray.empty]++(List.replicate own.length ByteArray.empty++(List.range (amd.length - 1)).map fun b=>gs amd (b+1))⟩
def zG (amd:List ByteArray) (l:List (List Int)):ax :=
 if amd.length=1 then ⟨[-1],[gs amd 0]⟩ else if amd.length=2 then kW ⟨[-1,0,0],[ByteArray.empty,gs amd 0,gs amd 1]⟩ else kW (bT amd (aJ l))
def jN (amd:List ByteArray) (l:List (List Int)):ax:=if eR amd l=0 then zG amd l else ⟨[],[]⟩
def bS (amd:List ByteArray) (own:List (List Int)) (i:Nat):List Int :=
 if i=0 then allI amd.length else if i=1 then [0] else if i=2 then bG amd.length [0] else if i<3+own.length then gl own (i - 3) else [((i - 2 - own.length:Nat):Int)]
theorem Kl (own:List (List Int)) (x:Int):∀k,(fk own x k=2/\∀j,j<k->x∉gl own j)\/∃p,p<k/\fk own x k=((3+p:Nat):Int)/\x∈gl own p/\∀j,p<j->j<k->x∉gl own j
 | 0=>.inl ⟨rfl,fun j hj=>absurd hj (aZ _)⟩
 | k+1=>by
  rw [fk]
  by_cases h:x∈gl own k
  ·rw [if_pos (dU.2 h)]
   exact .inr ⟨k,by omega,rfl,h,fun j h1 h2=>by omega⟩
  ·rw [if_neg (fun e=>h (dU.1 e))]
   rcases Kl own x k with ⟨h1,h2⟩ | ⟨p,h1,h2,h3,h4⟩
   ·refine .inl ⟨h1,fun j hj=>?_⟩
    by_cases e:j=k
    ·subst e;exact h
    ·exact h2 j (by omega)
   ·refine .inr ⟨p,by omega,h2,h3,fun j hj1 hj2=>?_⟩
    by_cases e:j=k
    ·subst e;exact h
    ·exact h4 j hj1 (by omega)
section
variable {amd:List ByteArray} {l:List (List Int)}
theorem Rl:(bT amd (aJ l)).ps.length=3+(aJ l).length+(amd.length - 1):=by simp [bT];omega
theorem aeW:(bT amd (aJ l)).ns.length=3+(aJ l).length+(amd.length - 1):=by simp [bT];omega
theorem adW {own:List (List Int)} (i:Nat):gi (bT amd own).ps i=if i=0 then -1 else if i<3 then 0 else if i<3+own.length then fk own (gi (gl own (i - 3)) 0) (i - 3) else if i<3+own.length+(amd.length - 1) then fk own ((i - 2 - own.length:Nat):Int) own.length else 0:=by
 by_cases h0:i=0
 ·subst h0;rfl
 by_cases h1:i=1
 ·subst h1;rfl
 by_cases h2:i=2
 ·subst h2;rfl
 obtain ⟨j,rfl⟩:∃j,i=3+j:=⟨i - 3,by omega⟩;rw [if_neg h0,if_neg (by omega)];have e:gi (bT amd own).ps (3+j)=gi ((List.range own.length).map (fun k=>fk own (gi (gl own k) 0) k)++(List.range (amd.length - 1)).map fun b=>fk own ((b+1:Nat):Int) own.length) j:=by have:=y8 [-1,0,0] ((List.range own.length).map (fun k=>fk own (gi (gl own k) 0) k)++(List.range (amd.length - 1)).map fun b=>fk own ((b+1:Nat):Int) own.length) j;exact this
 rw [e];by_cases h3:j<own.length
 ·rw [if_pos (by omega),Dc _ (by simpa using h3),show 3+j - 3=j by omega]
  simp [gi,h3]
 ·rw [if_neg (by omega)]
  obtain ⟨b,rfl⟩:∃b,j=own.length+b:=⟨j - own.length,by omega⟩;have e2:=y8 ((List.range own.length).map (fun k=>fk own (gi (gl own k) 0) k)) ((List.range (amd.length - 1)).map fun b=>fk own ((b+1:Nat):Int) own.length) b;rw [aD,vQ] at e2;rw [e2];by_cases h4:b<amd.length - 1
  ·rw [if_pos (by omega),show 3+(own.length+b) - 2 - own.length=b+1 by omega]
   simp [gi,h4]
  ·rw [if_neg (by omega)]
   simp [gi,h4]
end
end
section
theorem Du (n:Nat):(allI n).Pairwise (· < ·):=by
 unfold allI;rw [sI];exact List.pairwise_lt_range.imp fun h=>by omega
theorem NC {n:Nat} (hn:0<n):(0:Int)::bG n [0]=allI n:=by
 refine rZ (iB.2 ⟨fun x hx=>?_,nS _ _⟩) (Du n) fun x=>?_
 ·obtain ⟨h1,h2,h3⟩:=nD.1 hx
  have:x≠0:=fun e=>h3 (by rw [e];simp);omega
 ·rw [bA,nD,mF]
  constructor
  ·rintro (rfl | ⟨h1,h2,h3⟩)
   ·omega
   ·exact ⟨h1,h2⟩
  ·rintro ⟨h1,h2⟩
   by_cases e:x=0
   ·exact .inl e
   ·exact .inr ⟨h1,h2,fun h=>e (by simpa using h)⟩
theorem rE {n:Nat} (hn:0<n):(bG n [0]).length+1=n:=by
 have:=congrArg List.length (NC hn);rw [zn,aW] at this;exact this
theorem jH {n:Nat} {x:Int}:x∈bG n [0]↔1<=x/\x<(n:Int):=by
 rw [nD];constructor
 ·rintro ⟨h1,h2,h3⟩
  have:x≠0:=fun e=>h3 (by rw [e];simp);omega
 ·rintro ⟨h1,h2⟩
  exact ⟨by omega,h2,fun h=>by have:x=0:=(by simpa using h);omega⟩
section
variable {amd:List ByteArray} {l:List (List Int)}
theorem iZ.own (h:iZ amd l) {k:Nat} (hk:k<(aJ l).length):Dn amd.length (gl (aJ l) k):=h.AW _ (rD.1 (lI hk))
theorem iZ.lam (h:iZ amd l) {a b:List Int} (ha:a∈l) (hb:b∈l):(∀x∈a,x∉b)\/(∀x∈a,x∈b)\/∀x∈b,x∈a:=by
 obtain ⟨i,hi,rfl⟩:=Ds ha;obtain ⟨k,hk,rfl⟩:=Ds hb;rcases oo i k with c | c | c
 ·exact (AG (h.AW _ ha).set (h.AW _ hb).set).1 (h.cmp i k c hk)
 ·subst c;exact .inr (.inl fun x hx=>hx)
 ·rcases (AG (h.AW _ hb).set (h.AW _ ha).set).1 (h.cmp k i c hi) with e | e | e
  ·exact .inl fun x h1 h2=>e x h2 h1
  ·exact .inr (.inr e)
  ·exact .inr (.inl e)
theorem Lz {i k:Nat} (hik:i<k) (hk:k<(aJ l).length):(gl (aJ l) k).length<=(gl (aJ l) i).length/\gl (aJ l) i≠gl (aJ l) k:=by
 have h:=mY.1 (Te l) i k (by omega) hk hik;have e1:gl (aJ l) i=(aJ l)[i]:=by simp [gl,show i<(aJ l).length by omega]
 have e2:gl (aJ l) k=(aJ l)[k]:=by simp [gl,hk]
 rw [<- e1,<- e2] at h;constructor
 ·unfold kO at h
  split at h
  ·omega
  ·split at h
   ·omega
   ·omega
 ·intro e;rw [e,NB] at h;omega
theorem iZ.up (h:iZ amd l) {i k:Nat} (hi:i<(aJ l).length) (hk:k<(aJ l).length) (hne:i≠k) (hs:∀x∈gl (aJ l) k,x∈gl (aJ l) i):i<k:=by
 rcases oo i k with c | c | c
 ·exact c
 ·exact absurd c hne
 ·obtain ⟨h1,h2⟩:=Lz c hi
  have a1:=(h.own hi).set.jM;have a2:=(h.own hk).set.jM;have h3:=gu a2 a1 hs;exact absurd (rZ a2 a1 fun x=>⟨hs x,pJ a2 a1 hs (by omega) x⟩) h2
theorem iZ.down (h:iZ amd l) {i k:Nat} (hi:i<k) (hk:k<(aJ l).length) {x:Int} (h1:x∈gl (aJ l) i) (h2:x∈gl (aJ l) k):∀y∈gl (aJ l) k,y∈gl (aJ l) i:=by
 rcases h.lam (rD.1 (lI (show i<(aJ l).length by omega))) (rD.1 (lI hk)) with e | e | e
 ·exact absurd h2 (e x h1)
 ·have:=h.up (i:=k) (k:=i) hk (by omega) (by omega) e
  omega
 ·exact e
theorem lq {own:List (List Int)} {k:Nat} (hk:k<own.length):bS amd own (3+k)=gl own k:=by
 unfold bS;rw [if_neg (by omega),if_neg (by omega),if_neg (by omega),if_pos (by omega),show 3+k - 3=k by omega]
theorem oF {own:List (List Int)} {b:Nat} (hb:1<=b):bS amd own (2+own.length+b)=[(b:Int)]:=by
 unfold bS;rw [if_neg (by omega),if_neg (by omega),if_neg (by omega),if_neg (by omega),show 2+own.length+b - 2 - own.length=b by omega]
theorem tG {own:List (List Int)} {n i:Nat} (hi:i<3+own.length+(n - 1)):i=0\/i=1\/i=2\/(∃k,k<own.length/\i=3+k)\/∃b,1<=b/\b<n/\i=2+own.length+b:=by
 by_cases h0:i=0
 ·exact .inl h0
 by_cases h1:i=1
 ·exact .inr (.inl h1)
 by_cases h2:i=2
 ·exact .inr (.inr (.inl h2))
 by_cases h3:i<3+own.length
 ·exact .inr (.inr (.inr (.inl ⟨i - 3,by omega,by omega⟩)))
 ·exact .inr (.inr (.inr (.inr ⟨i - 2 - own.length,by omega,by omega,by omega⟩)))
theorem iZ.kind (h:iZ amd l) (h3:3<=amd.length) {i:Nat} (hi:i<3+(aJ l).length+(amd.length - 1)) :
  ((bS amd (aJ l) i).Pairwise (· < ·)/\(∀x∈bS amd (aJ l) i,0<=x/\x<(amd.length:Int))) /\
  ((
   i=0/\(bS amd (aJ l) i).length=amd.length)\/(i=1/\(bS amd (aJ l) i).length=1/\bS amd (aJ l) i=[0])\/(i=2/\(bS amd (aJ l) i).length+1=amd.length) \/
   (∃k,k<(aJ l).length/\i=3+k/\bS amd (aJ l) i=gl (aJ l) k/\2<=(bS amd (aJ l) i).length/\(bS amd (aJ l) i).length+2<=amd.length) \/
   ∃b:Nat,1<=b/\b<amd.length/\i=2+(aJ l).length+b/\bS amd (aJ l) i=[(b:Int)]/\(bS amd (aJ l) i).length=1):=by
 rcases tG hi with rfl | rfl | rfl | ⟨k,hk,rfl⟩ | ⟨b,hb,Cm,rfl⟩
 ·exact ⟨⟨Du _,fun x hx=>mF.1 hx⟩,.inl ⟨rfl,zn _⟩⟩
 ·exact ⟨⟨by simp [bS],fun x hx=>by have:x=0:=(by simpa [bS] using hx);omega⟩,.inr (.inl ⟨rfl,rfl,rfl⟩)⟩
 ·exact ⟨⟨nS _ _,fun x hx=>by have:=jH.1 hx;omega⟩,.inr (.inr (.inl ⟨rfl,rE (by omega)⟩))⟩
 ·have ho:=h.own hk
  have hl:=ho.len;refine ⟨?_,.inr (.inr (.inr (.inl ⟨k,hk,rfl,lq hk,?_,?_⟩)))⟩
  ·rw [lq hk]
   exact ⟨ho.set.jM,fun x hx=>by have:=ho.bd x hx;omega⟩
  ·rw [lq hk];omega
  ·rw [lq hk];omega
 ·refine ⟨?_,.inr (.inr (.inr (.inr ⟨b,hb,Cm,rfl,oF hb,by rw [oF hb];rfl⟩)))⟩
  rw [oF hb];exact ⟨by simp,fun x hx=>by have:x=(b:Int):=(by simpa using hx);omega⟩
theorem aiL {s:List Int} {n:Int} (h:Dn n s):gi s 0∈s:=gi_in (by have:=h.len;omega)
theorem Dw (h:iZ amd l) (h3:3<=amd.length) (hsm:3+(aJ l).length+(amd.length - 1)<=64):bB amd (bT amd (aJ l)) (bS amd (aJ l)):=by
 have hlen:(bT amd (aJ l)).ps.length=3+(aJ l).length+(amd.length - 1):=Rl;have Km:bS amd (aJ l) 2=bG amd.length [0]:=rfl;have hall:bS amd (aJ l) 0=allI amd.length:=rfl;have hone:bS amd (aJ l) 1=[0]:=rfl;have Wv:∀i,i<3+(aJ l).length+(amd.length - 1)->∀x∈bS amd (aJ l) i,x∈bS amd (aJ l) 0:=fun i hi x hx=>by rw [hall];exact mF.2 ((h.kind h3 hi).1.2 x hx)
 have UD:∀k,k<(aJ l).length->∀x∈gl (aJ l) k,x∈bS amd (aJ l) 2:=fun k hk x hx=>by rw [Km];exact jH.2 ((h.own hk).bd x hx)
 -- the least set above a number and what holds it
 have least:∀(x:Int) (k:Nat),k<=(aJ l).length->1<=x->x<amd.length->∃p,p<3+k/\fk (aJ l) x k=(p:Int)/\2<=p/\x∈bS amd (aJ l) p/\(p<3+(aJ l).length) /\
   (∀q,q<k->x∈gl (aJ l) q->∀y∈bS amd (aJ l) p,y∈gl (aJ l) q)/\(∀y∈bS amd (aJ l) p,y∈bS amd (aJ l) 2):=fun x k hk x1 xn=>by
  rcases Kl (aJ l) x k with ⟨h1,h2⟩ | ⟨p,p1,p2,p3,p4⟩
  ·exact ⟨2,by omega,h1,by omega,by rw [Km];exact jH.2 ⟨x1,xn⟩,by omega,fun q hq hx=>absurd hx (h2 q hq),fun y hy=>hy⟩
  ·refine ⟨3+p,by omega,p2,by omega,by rw [lq (by omega)];exact p3,by omega,fun q hq hx=>?_,?_⟩
   ·rw [lq (by omega)]
    rcases oo q p with c | c | c
    ·exact h.down c (by omega) hx p3
    ·subst c;exact fun y hy=>hy
    ·exact absurd hx (p4 q c hq)
   ·rw [lq (show p<(aJ l).length by omega)]
    exact UD p (by omega)
 refine ⟨h.nm,h.nd,by rw [hlen];omega,by rw [hlen];exact hsm,by rw [aeW,hlen],by rw [adW,if_pos rfl],fun b hb=>by rw [hall];exact mF.2 ⟨by omega,by omega⟩,fun i hi=>?_,fun i h0 hi=>?_,fun i j hi hj h1 h2=>?_,fun b hb=>?_,fun i hi=>?_,fun i hi=>?_⟩
 ·rw [hlen] at hi
  obtain ⟨⟨k1,k2⟩,k3⟩:=h.kind h3 hi;refine ⟨k2,fun e=>?_⟩;rw [e] at k3;simp only [dw] at k3;rcases k3 with k3 | k3 | k3 | ⟨k,_,_,_,k4,_⟩ | ⟨b,_,_,_,_,k4⟩
  ·omega
  ·omega
  ·omega
  ·omega
  ·omega
 ·rw [hlen] at hi
  rw [adW,if_neg (by omega)];rcases tG hi with rfl | rfl | rfl | ⟨k,hk,rfl⟩ | ⟨b,hb,Cm,rfl⟩
  ·omega
  ·refine ⟨0,by omega,rfl,Wv 1 (by omega),fun j hj hj1 hs=>?_⟩
   rw [hlen] at hj;rw [hone] at hs;have hs:=hs 0 (by simp);rcases tG hj with rfl | rfl | rfl | ⟨k,hk,rfl⟩ | ⟨b,hb,Cm,rfl⟩
   ·exact fun x hx=>hx
   ·exact absurd rfl hj1
   ·rw [Km] at hs;have:=jH.1 hs;omega
   ·rw [lq hk] at hs;have:=(h.own hk).bd 0 hs;omega
   ·rw [oF hb] at hs;have:(0:Int)=b:=by simpa using hs
    omega
  ·refine ⟨0,by omega,rfl,Wv 2 (by omega),fun j hj hj1 hs=>?_⟩
   rw [hlen] at hj;obtain ⟨⟨k1,k2⟩,k3⟩:=h.kind h3 hj;have hl2:=gu (nS _ _) k1 (by rw [Km] at hs;exact hs);have JK:=rE (n:=amd.length) (by omega);have hl2:(bG amd.length [0]).length<=(bS amd (aJ l) j).length:=hl2;rcases k3 with ⟨rfl,_⟩ | ⟨_,k3,_⟩ | ⟨rfl,_⟩ | ⟨k,_,_,_,_,k4⟩ | ⟨b,_,_,_,_,k4⟩
   ·exact fun x hx=>hx
   ·omega
   ·exact absurd rfl hj1
   ·omega
   ·omega
  ·rw [if_neg (by omega),if_pos (by omega),show 3+k - 3=k by omega]
   have ho:=h.own hk;have hx:=aiL ho;have hxb:=ho.bd _ hx;obtain ⟨p,p1,p2,p2',p3,p4,p5,p6⟩:=least (gi (gl (aJ l) k) 0) k (by omega) hxb.1 hxb.2;have hsub:∀y∈gl (aJ l) k,y∈bS amd (aJ l) p:=by
    rcases tG (n:=amd.length) (show p<3+(aJ l).length+(amd.length - 1) by omega) with rfl | rfl | rfl | ⟨q,hq,rfl⟩ | ⟨b,hb,Cm,rfl⟩
    ·omega
    ·omega
    ·exact UD k hk
    ·rw [lq hq] at p3 ⊢
     exact h.down (by omega) hk p3 hx
    ·omega
   refine ⟨p,by omega,p2,by rw [lq hk];exact hsub,fun j hj hj1 hs=>?_⟩;rw [hlen] at hj;rw [lq hk] at hs;have Fv:=hs _ hx;rcases tG hj with rfl | rfl | rfl | ⟨q,hq,rfl⟩ | ⟨b,hb,Cm,rfl⟩
   ·exact Wv p (by omega)
   ·rw [hone] at Fv;have:gi (gl (aJ l) k) 0=0:=by simpa using Fv
    omega
   ·exact p6
   ·rw [lq hq] at hs Fv ⊢
    have hqk:=h.up hq hk (fun e=>hj1 (by rw [e])) hs;exact p5 q hqk Fv
   ·exfalso
    rw [oF hb] at hs;have q1:=gu ho.set.jM (by simp) hs;have q2:=ho.len;rw [z8] at q1;omega
  ·rw [if_neg (by omega),if_neg (by omega),if_pos (by omega),show 2+(aJ l).length+b - 2 - (aJ l).length=b by omega]
   obtain ⟨p,p1,p2,p2',p3,p4,p5,p6⟩:=least (b:Int) (aJ l).length (ah _) (by omega) (by omega)
   refine ⟨p,by omega,p2,by
                 rw [oF hb];intro x hx;have:x=(b:Int):=by simpa using hx
                 rw [this];exact p3,fun j hj hj1 hs=>?_⟩
   rw [hlen] at hj;rw [oF hb] at hs;have Fv:=hs (b:Int) (by simp);rcases tG hj with rfl | rfl | rfl | ⟨q,hq,rfl⟩ | ⟨b',hb',al5,rfl⟩
   ·exact Wv p (by omega)
   ·rw [hone] at Fv;have:(b:Int)=0:=by simpa using Fv
    omega
   ·exact p6
   ·rw [lq hq] at Fv ⊢
    exact p5 q hq Fv
   ·rw [oF hb'] at Fv;have:(b:Int)=b':=by simpa using Fv
    exact absurd (by rw [show b'=b by omega]) hj1
 ·rw [hlen] at hi hj
  obtain ⟨⟨a1,a2⟩,a3⟩:=h.kind h3 hi;obtain ⟨⟨c1,c2⟩,c3⟩:=h.kind h3 hj;have e:=rZ a1 c1 fun x=>⟨h1 x,h2 x⟩;have el:=congrArg List.length e;rcases a3 with ⟨rfl,a4⟩ | ⟨rfl,a4,a5⟩ | ⟨rfl,a4⟩ | ⟨k,hk,rfl,a6,a4,a5⟩ | ⟨b,b1,b2,rfl,a5,a4⟩ <;>rcases c3 with ⟨rfl,c4⟩ | ⟨rfl,c4,c5⟩ | ⟨rfl,c4⟩ | ⟨k',hk',rfl,c6,c4,c5⟩ | ⟨b',d1,d2,rfl,c5,c4⟩ <;>
  first | omega | skip
  ·rw [a5,c5] at e;injection e with e;omega
  ·rw [a6,c6] at e
   rcases oo k k' with c | c | c
   ·exact absurd e (Lz c hk').2
   ·rw [c]
   ·exact absurd e.symm (Lz c hk).2
  ·rw [a5,c5] at e;injection e with e;omega
  ·rw [a5,c5] at e;injection e with e;omega
 ·by_cases h0:b=0
  ·subst h0;exact ⟨1,by rw [hlen];omega,rfl⟩
  ·exact ⟨2+(aJ l).length+b,by rw [hlen];omega,oF (by omega)⟩
 ·rw [hlen] at hi
  unfold bT;rcases tG hi with rfl | rfl | rfl | ⟨k,hk,rfl⟩ | ⟨b,hb,Cm,rfl⟩
  ·rw [hall,M4,if_neg (by rw [zn];omega)];rfl
  ·rfl
  ·rw [Km,M4,if_neg (by have:=rE (n:=amd.length) (by omega);omega)];rfl
  ·have:=(h.own hk).len
   rw [lq hk,M4,if_neg (by omega),show 3+k=k+1+1+1 by omega];show gs (List.replicate (aJ l).length ByteArray.empty++(List.range (amd.length - 1)).map fun b=>gs amd (b+1)) k=_;simp [gs,List.getElem?_append,hk]
  ·obtain ⟨c,rfl⟩:∃c,b=c+1:=⟨b - 1,by omega⟩
   rw [oF hb];(have e1:M4 amd [((c+1:Nat):Int)]=gs amd (c+1):=by unfold M4;rw [if_pos (show [((c+1:Nat):Int)].length=1 from rfl)];show gs amd ((c+1:Nat):Int).toNat=_;rw [fc]);rw [e1,show 2+(aJ l).length+(c+1)=(aJ l).length+c+1+1+1 by omega];show gs (List.replicate (aJ l).length ByteArray.empty++(List.range (amd.length - 1)).map fun b=>gs amd (b+1)) ((aJ l).length+c)=_;simp [gs,show c<amd.length - 1 by omega]
 ·rw [hlen] at hi
  exact Fi (h.kind h3 hi).1.1
end
end
end Go.Proofs.YthgabkgmkolobaaGreat
