/- The walk of optimaltree.entries. Plain: unit costs. Plain laws for ParsimonyFitch: the .. -/
import Derived.Shelf.Slices.Empties
import Derived.Shelf.Slices.SearchI
import Derived.Test.YthgabkgmkolobaaGreatQ22
set_option maxRecDepth 100000
set_option maxHeartbeats 8000000
namespace Go.Proofs.YthgabkgmkolobaaGreat
section
open Go.RowKit Go.Deep
theorem Tryz.infoEnt:(Tryz.prog.info? 96).map (fun i=>(i.zero,i.size,i.bytes))=some (some (.agg #[.slice none 0 0,.slice none 0 0,.string ⟨#[]⟩]),3,64):=by kernel_rfl
def EnI (w:World) (aac:List ByteArray) (n:Nat) (out:Value) (wr:World):Prop:=Up w wr/\∃es:List uS,pY w.heap.size wr out es/\es.map (·.2)=((r5 aac.tail).take n).map (uR aac)
theorem pY.form {base:Nat} {w:World} {v:Value} {es:List uS} (h:pY base w v es):∃p c,v=.slice p es.length c:=by
 rcases h.1.2 with ⟨e,h0⟩ | ⟨g,cap,cur,e,_⟩
 ·exact ⟨none,0,by rw [e,h0]⟩
 ·exact ⟨_,_,e⟩
theorem Za {R:List (BT ByteArray)} {n:Nat} (h:n<R.length):R.take (n+1)=R.take n++[gB R n]:=by
 rw [jY h];simp [gB,h]
theorem Rx (S:Nat->Prop) (w:World) (v:Value) (aac:List ByteArray) (hok:gT aac) (h:au S w v aac):Calls Tryz.prog 68 #[v] w (U7 w aac):=by
 have hlo:=hok.lo;have hhi:=hok.hi;obtain ⟨p,cap,rfl,hcap,-⟩:=ay.open h;have h:au S w (.slice p aac.length cap) aac:=h;obtain ⟨nb,no,rfl,hc0⟩:=dr h (k:=0) (by omega);rw [jZ] at hc0;have hz:∀x∈aac,x.size<=20:=fun x hx=>tT (hok.nm x hx);have KY:=aa (rooted_t aac.tail.length aac.tail (af _) (by rw [yD];omega) (by rw [yD];omega) (fun x hx=>hz x (JU hx)) S w _ (Rw h hlo));have xK:=aa hok;have jx:=aa hc0
 have zi:Hid (aac.tail.length<=4/\1<=aac.tail.length):=by unfold Hid;rw [yD];omega
 have hgz:(gs aac 0).size<=20:=lF hz 0;have HGZ:=aa hgz;have HZT:Hid (∀k,(gs (dH aac.tail) k).size<=100):=lF fun x hx=>F5 zi.out.1 (fun x hx=>hz x (JU hx)) hx;have ug:Hid ((dH aac.tail).length=(r5 aac.tail).length/\(dH aac.tail).length<=15/\1<=(dH aac.tail).length):=⟨by unfold dH;rw [aG],A6 zi.out.1,rtT_pos zi.out.1 zi.out.2⟩;have i0:¬cap=1:=by omega
 have i1:(1:Int)<=(aac.length:Int):=by omega
 have i2:1<=aac.length:=by omega
 clear h hc0 hz hok hhi hgz
 go_enter Tryz.func68,Tryz.ntmps68
 go_wp2_with fail;refine KY.out.mono ?_;rintro e w1 ⟨bA,tv,rfl,U8⟩;obtain ⟨tp,tc,rfl,-,-⟩:=ay.open U8;have HTV:Hid (au (fun b=>S b\/w.heap.size<=b) w1 (.slice tp (dH aac.tail).length tc) (dH aac.tail)):=U8;have cA:=aa bA;have qP:Hid (EnI w1 aac 0 (.slice none 0 0) w1):=⟨Up.refl _,[],pY.nil _ _,by simp⟩;clear bA U8 KY;go_wp2_with fail
 go_loopw [4,6,7,8,9,14] (fun out _ _ _ _ i wr=>∃n:Nat,n<=(dH aac.tail).length/\i=.int .i64 n/\Hid (EnI w1 aac n out wr)) (fun _ _ _ _ _ i _=>(dH aac.tail).length - (intOf i).toNat)
 case atStart=>exact ⟨0,aL _,rfl,qP.out⟩
 case round =>
  obtain ⟨n,hn,rfl,hI⟩:=hrel;obtain ⟨wo,rfl⟩:∃wo:World,wo=wr:=⟨_,rfl⟩;obtain ⟨mL,es,hes,hem⟩:=hI.out;have i3:(0:Int)<=(n:Int):=by omega
  by_cases hlt:n<(dH aac.tail).length
  ·obtain ⟨tb,to',rfl,hct⟩:=dr (au.keep HTV.out (mL.kept _)) hlt
   (have hnl:n<(r5 aac.tail).length:=by rw [<- ug.out.1];exact hlt);obtain ⟨g1,g2⟩:=rts_gs hnl;have Ry:=enF xK.out g2;(have hen:es.length=n:=by have:=congrArg List.length hem;rw [aG,aG,gV] at this;omega);(have oy:Hid (((r5 aac.tail).take (n+1)).map (uR aac)=es.map (·.2)++[uR aac (gB (r5 aac.tail) n)]):=by unfold Hid;rw [Za hnl,cg,hem];rfl);have z1:=HGZ.out;have z2:(gs (dH aac.tail) n).size<=100:=HZT.out n;rw [g1] at hct z2
   have Jb:Hid (∀W,Calls Tryz.prog 121 #[.string (wA aac (qx (gB (r5 aac.tail) n)))] W (I6 W (wA aac (qx (gB (r5 aac.tail) n))))):=fun W=>parse_t W _ Ry.psz (ia_ok _ Ry.psz);unfold wA at Jb;have ri:=aa Ry;have Dj:=aa hes;have EU:=aa hen;have bu:=aa hlt;have Ob:=aa mL;have jt:=(cA.out.trans mL).cell jx.out;(have i4:(n:Int)<((dH aac.tail).length:Int):=by omega);(have i5:(n:Int)<16:=by have:=ug.out.2.1;omega);clear hI Ry hes hen hem mL hlt hnl g1 g2;generalize gB (r5 aac.tail) n=r at *;go_wp2_with fail;refine (Jb.out wo).mono ?_
   rintro e w2 ⟨aK,pv,rfl,hpv⟩;(have hpe:Df (wA aac (qx r))=0:=by unfold Df;rw [ri.out.pars];exact ri.out.te);(have hpt:zU (wA aac (qx r))=flat (eF (uB aac r)):=by unfold zU;rw [ri.out.pars];simp [ri.out.te]);unfold wA at hpe hpt;rw [hpe];(have hpv:aI Any w2 pv (flat (eF (uB aac r))):=by have h:=hpv;unfold wA at h;rw [hpt] at h;exact h);obtain ⟨q0,G9⟩:∃q0,q0=flat (eF (uB aac r)):=⟨_,rfl⟩;obtain ⟨q1,hq1⟩:∃q1,q1=flat (uR aac r):=⟨_,rfl⟩;rw [<- G9] at hpv;obtain ⟨P2,N2,rfl,lD,mD⟩:=hpv;obtain ⟨pp,pc,rfl,-,-⟩:=ay.open lD;obtain ⟨np,nc,rfl,-,-⟩:=ay.open mD
   have lD:ah Any w2 (.slice pp q0.ps.length pc) q0.ps:=lD;have mD:au Any w2 (.slice np q0.ns.length nc) q0.ns:=mD;have cE:=Up.alloc w2 (.cells #[.slice pp q0.ps.length pc,.slice np q0.ns.length nc] 39);have hb3:=gp (w:=w2) (P:=.slice pp q0.ps.length pc) (N:=.slice np q0.ns.length nc) (T:=39);have hs3:(w2.alloc (.cells #[.slice pp q0.ps.length pc,.slice np q0.ns.length nc] 39)).heap.size=w2.heap.size+1:=aQ _ _;have hl0:q0.ps.length<=1000000/\q0.ns.length<=1000000:=by have:=ri.out.len;rw [G9,wj,AZ];omega
   (have kI:q1.ps.length<=1000000/\q1.ns.length<=1000000:=by have:=ri.out.len;rw [hq1,wj,AZ];omega);have CW:=aa (BP Any (w2.alloc (.cells #[.slice pp q0.ps.length pc,.slice np q0.ns.length nc] 39)) _ q0 (aI.keep ⟨_,_,rfl,lD,mD⟩ (cE.kept _)) hl0.1 hl0.2 (by rw [G9];exact ri.out.sz));(have xO:Hid (aH q0=0/\o8 q0=q1):=by unfold Hid;rw [G9,hq1];exact ⟨ri.out.te,ri.out.can⟩);have oT:Hid (G1 q1=0/\(⟨(De q1).toArray⟩:ByteArray)=cz (uR aac r)):=by unfold Hid;rw [hq1];refine ⟨by unfold G1;rw [if_neg (by simp [ri.out.te2])],?_⟩;unfold cz;rw [ri.out.tx]
   have zV:Hid (∀W v,aI Any W v q1->Calls Tryz.prog 29 #[v] W (NQ W q1)):=fun W v h=>print_t Any W v q1 h kI.1 kI.2 (by rw [hq1];exact ri.out.sz2);have eo:=aa (aK.trans cE);have KZ:=aa hb3;have EW:=aa hs3;have pW:Hid (wo.heap.size<=w2.heap.size):=aK.size;have HQ1:=aa hq1;obtain ⟨b0,b1,b2,b3⟩:=boxed hb3;clear hpe hpt lD mD cE hb3 hs3 hl0 kI aK G9 hq1 jt hct Jb z1 z2;go_wp2_with fail;generalize w2.alloc (.cells #[.slice pp q0.ps.length pc,.slice np q0.ns.length nc] 39)=w3 at *;refine CW.out.mono ?_
   rintro e w4 ⟨di,⟨rE,-⟩ | ⟨-,cv,rfl,P4,N4,rfl,iB,iC⟩⟩
   ·exact absurd xO.out.1 rE
   rw [xO.out.2] at iB iC;obtain ⟨p4,c4,rfl,-,-⟩:=ay.open iB;obtain ⟨n4,d4,rfl,-,-⟩:=ay.open iC;have hb4:=(bI di w2.heap.size (by rw [EW.out];omega)).trans KZ.out;have HB4:=aa hb4;have kX:=aa (eo.out.trans di);have KG:Hid (ah (fun b=>w3.heap.size<=b) w4 (.slice p4 q1.ps.length c4) q1.ps/\au (fun b=>w3.heap.size<=b) w4 (.slice n4 q1.ns.length d4) q1.ns):=⟨iB,iC⟩;obtain ⟨b0,b1,b2,b3⟩:=boxed hb4;clear hb4 di iB iC CW;have HST:=aa (gq (w:=wo) (p:=.slice p4 q1.ps.length c4) (q:=.slice n4 q1.ns.length d4) HB4.out pW.out kX.out)
   go_wp2_with fail;obtain ⟨u5,s0,s1,s2⟩:=HST.out;have Ql:aI (fun b=>w3.heap.size<=b) ((w4.setCell ⟨w2.heap.size,0,none⟩ (.slice p4 q1.ps.length c4)).setCell ⟨w2.heap.size,1,none⟩ (.slice n4 q1.ns.length d4)) (.agg #[.slice p4 q1.ps.length c4,.slice n4 q1.ns.length d4]) q1 :=
    ⟨_,_,rfl,ah.keep KG.out.1 fun b hb _=>s2 b (by have:=EW.out;omega),au.keep KG.out.2 fun b hb _=>s2 b (by have:=EW.out;omega)⟩
   have uQ:=aa Ql;have iw:=aa u5;have HC5:=aa (And.intro s0 s1);clear Ql u5 s0 s1 s2 HST KG b0 b1 b2 b3;generalize (w4.setCell ⟨w2.heap.size,0,none⟩ _).setCell ⟨w2.heap.size,1,none⟩ _=w5 at *;refine (zV.out w5 _ (uQ.out.sub fun _ _ _=>trivial)).mono ?_;rintro e w6 ⟨dL,rfl⟩;rw [oT.out.1,oT.out.2];have b0:=dL.cell HC5.out.1;have b1:=dL.cell HC5.out.2;have rj:=aa (iw.out.trans dL);have Dg:=aa (uQ.out.keep (dL.kept _));have hes6:=Dj.out.up rj.out;have HES6:=aa hes6;obtain ⟨op,oc,rfl⟩:=hes6.form;rw [EU.out]
   (have HES6:Hid (pY w1.heap.size w6 (.slice op n oc) es):=by have h:=HES6.out;rw [EU.out] at h;exact h);have U9:Hid (aI (fun b=>some b≠(Value.slice op n oc).ownBlock) w6 (.agg #[.slice p4 q1.ps.length c4,.slice n4 q1.ns.length d4]) (flat (uR aac r))):=by have h:=Dg.out;(have hlt:∀b,(Value.slice op n oc).ownBlock=some b->b<wo.heap.size:=fun b hb=>by have h2:=Dj.out.1;rw [EU.out] at h2;exact (j8 h2 b hb).2);rw [<- HQ1.out];exact h.sub fun b hb _ e=>by have h1:=hlt b e.symm;have h2:=pW.out;have h3:=EW.out;omega
   have fA:Hid (w1.heap.size<=w6.heap.size):=(Ob.out.trans rj.out).size;clear hes6 dL uQ Dg zV;go_wp2_with (at_builtin;refine SM w6 rfl _ _ 91 rfl w1.heap.size _ 64 Tryz.underlying91 Tryz.infoEnt rfl (by decide) HES6.out rfl ((.slice p4 q1.ps.length c4,.slice n4 q1.ns.length d4),uR aac r) rfl U9.out n EU.out (by have:=bu.out;have:=ug.out.2.1;omega) fA.out ?_;intro g8 oz w8 fH ic B6;have Va:=aa fH;have qQ:=aa B6;clear fH ic B6)
   go_roundw
   case rel=>exact ⟨n+1,bu.out,by go_num,iH (show Below w1.heap.size w1 w6 from Ob.out.trans rj.out) qQ.out,_,Va.out,by rw [oy.out,cg];rfl⟩
   case measure=>have:=bu.out;simp [intOf];omega
  ·obtain rfl:n=(dH aac.tail).length:=by omega
   (have i4:¬((dH aac.tail).length:Int)<((dH aac.tail).length:Int):=by omega);have hes':=pY.up hes (Up.refl wo);obtain ⟨op,oc,rfl⟩:=hes'.form;(have B7:es.map (·.2)=(rt aac.length aac.tail).map (uR aac):=by rw [hem,ug.out.1,gh];have:rt aac.length aac.tail=r5 aac.tail:=yc _ _ _ (by simp) (af _);rw [this]);have jv:es.length=(dH aac.tail).length:=by have:=congrArg List.length hem;rw [aG,aG,ug.out.1,gh] at this;rw [ug.out.1];exact this
   (have hne:es≠[]:=fun e=>by rw [e] at jv;have:=ug.out.2.2;simp at jv;omega);have HSR:=aa (entSort_t hes hne (by rw [jv];have:=ug.out.2.1;omega));have Dj:=aa hes;have Oc:=aa B7;have Ob:=aa mL;clear hI hes hes' hem B7 mL hlt hne jv;go_wp2_with fail;refine HSR.out.mono ?_;rintro e w9 ⟨rfl,hg9,es',hp9,I9,g9,c9,hv9,Y8⟩;have tC:Hid (U7 w aac (.returned (.tuple #[.slice op es.length oc,.int .i64 0])) w9):=by
    have hB:Below w1.heap.size w1 w9:=zA (show Below w1.heap.size w1 wo from Ob.out) hg9 Ob.out.size fun k hk=>(j8 Dj.out.1 k hk).1;(have EA:(es'.map (·.2))=cI aac:=by refine F2 (((hp9.map (·.2)).trans (List.Perm.of_eq Oc.out)).trans (tA _).symm) I9 (DW _) fun r hr=>?_;have hr2:r∈cI aac:=(tA _).mem_iff.2 (Oc.out ▸ (hp9.map (·.2)).mem_iff.1 hr);exact (jU xK.out hr2).1.good.qq);refine ⟨?_,_,rfl,g9,c9,es',?_,EA,Y8,?_⟩
    ·exact Up.trans cA.out hB
    ·rw [hv9,<- EA,aG]
    ·intro x hx
     have h1:=Dj.out.2 x (hp9.mem_iff.1 hx);exact (h1.keep fun b hb hlt=>hg9.block b hlt hb).sub fun _ _ _=>trivial
   clear hg9 hp9 I9 hv9 Y8;go_wp2_with fail;go_ret2;exact tC.out
end
section
def Vb (a b:Nat):Int:=if a=b then 0 else 1
def tU (n a:Nat):List Int:=(List.range n).map (Vb a)
def bZ (n:Nat):List (List Int):=(List.range n).map (tU n)
theorem D1 (n a:Nat):(tU n a).length=n:=by simp [tU]
theorem gM (n:Nat):(bZ n).length=n:=by simp [bZ]
theorem Od {n a b:Nat} (h:b<n):gi (tU n a) b=Vb a b:=by simp [gi,tU,h]
theorem Vc {n a:Nat} (h:a<n):gl (bZ n) a=tU n a:=by simp [gl,bZ,h]
end
section
def dd:List Int->List Int
 | []=>[]
 | x::l=>if x∈dd l then dd l else x::dd l
theorem mE {x:Int}:∀ {l:List Int},x∈dd l↔x∈l
 | []=>Iff.rfl
 | y::l=>by
  unfold dd
  split
  ·rename_i h
   rw [mE (l:=l),aW]
   exact ⟨.inr,fun h2=>h2.elim (fun e=>by rw [e];exact mE.1 h) id⟩
  ·rw [aW,aW,mE (l:=l)]
theorem vI:∀l:List Int,(dd l).Nodup
 | []=>yV
 | y::l=>by
  unfold dd
  split
  ·exact vI l
  ·rename_i h;exact iR.2 ⟨h,vI l⟩
end
section
theorem Vd:uE (bZ 16)=0:=by decide +kernel
theorem st_bd {st:List Int} {m:Int} (h:mH st (-1) m=false) {k:Nat} (hk:k<st.length):-1<=gi st k/\gi st k<m:=by
 have:=any_false h hk;simp at this;omega
theorem zl {l:List Int} {x:Int} (h:x∈l):∃k,k<l.length/\gi l k=x:=by
 obtain ⟨k,hk,e⟩:=CO.1 h;exact ⟨k,hk,by simp [gi,hk,e]⟩
end
section
def nu (t:az) (aac:List ByteArray) (st:List Int) (n:Nat):List Int:=(List.range n).map fun j=>gi st (iD aac (gs t.ns (gi (aD t.ns) j).toNat)).toNat
theorem qp (t:az) (aac:List ByteArray) (st:List Int) (n:Nat):(nu t aac st n).length=n:=by simp [nu]
theorem A7 {t:az} {aac:List ByteArray} {st:List Int} {n j:Nat} (h:j<n):gi (nu t aac st n) j=gi st (iD aac (gs t.ns (gi (aD t.ns) j).toNat)).toNat:=by simp [nu,gi,h]
theorem ownP_succ (t:az) (aac:List ByteArray) (st:List Int) (n:Nat):nu t aac st (n+1)=nu t aac st n++[gi st (iD aac (gs t.ns (gi (aD t.ns) n).toNat)).toNat]:=by simp [nu,List.range_succ]
section
variable {t:az} {aac:List ByteArray} {st:List Int}
theorem zm (h:dK t aac) {v:Nat} (hv:v<t.ps.length) (h0:(gs t.ns v).size≠0):∃b:Nat,b<aac.length/\gs aac b=gs t.ns v/\iD aac (gs t.ns v)=(b:Int):=by
 obtain ⟨b,hb,e⟩:=h.has v hv h0;exact ⟨b,hb,e,by rw [<- e];exact sR h.nd hb⟩
end
end
section
section
variable {t:az} {st:List Int} {cs:List (List Int)} {leaf:Nat}
theorem XT {ns:List ByteArray} {j:Nat} (hj:j<ns.length) (h0:(gs ns j).size≠0):0<=kj ns j:=by
 have hm:(j:Int)∈aD ns:=qh.2 ⟨j,rfl,hj,h0⟩;obtain ⟨i,hi,e⟩:=zl hm;unfold kj;have:=gX (fun i=>decide ((j:Int)=gi (aD ns) i)) (aD ns).length;rw [Ei hi (decide_eq_true e.symm)] at this;exact of_decide_eq_true this
end
end
section
def bg (aad:List (List Int)) (p:Nat):List Int:=aad.map fun r=>gi r p
def iN (t:az) (aac:List ByteArray) (aad:List (List Int)) (p:Nat):List Int:=nu t aac (bg aad p) (aD t.ns).length
def bz (t:az) (aac:List ByteArray) (aad:List (List Int)):Int:=bJ (fun p=>dg t (iN t aac aad p) (bZ 16)) (gl aad 0).length
def jc (aac:List ByteArray) (i:Nat):Int:=if b7 (gs aac i).data.toList then (if fk aac i then 7 else 0) else 14
def dm (aac:List ByteArray):Int:=if aac.length<2\/7<aac.length then 4 else bU (jc aac) aac.length
def gL (aac:List ByteArray) (aad:List (List Int)):Int:=if dm aac≠0 then dm aac else if fo aad≠0 then 1 else if aad.length≠aac.length then 9 else 0
def oB (t:az) (aac:List ByteArray):Bool:=decide ((aD t.ns).length=aac.length)&&!xA t aac
def sS (f:Nat->Int):Nat->Int
 | 0=>-1
 | k+1=>if sS f k<0\/f k<sS f k then f k else sS f k
def gt (l:List az) (k:Nat):az:=l.getD k ⟨[],[]⟩
def cB (aac:List ByteArray) (aad:List (List Int)):Int:=sS (fun k=>bz (gt (allT aac) k) aac aad) (allT aac).length
def eE (aac:List ByteArray) (aad:List (List Int)):List az:=(allT aac).filter fun t=>decide (bz t aac aad=cB aac aad)
theorem B8 (f:Nat->Int) (k:Nat):sS f (k+1)=if sS f k<0\/f k<sS f k then f k else sS f k:=rfl
theorem mQ {aac:List ByteArray} (h5:aac.length<=5):dm aac=0↔gT aac:=by
 unfold dm;constructor
 ·intro h
  split at h
  ·cases h
  ·rename_i h1
   have h2:=jB h;have hn:∀i,i<aac.length->b7 (gs aac i).data.toList=true/\fk aac i=false:=fun i hi=>by
    have:=h2 i hi;unfold jc at this;cases e1:b7 (gs aac i).data.toList<;>rw [e1] at this
    ·cases this
    ·cases e2:fk aac i<;>rw [e2] at this
     ·exact ⟨rfl,rfl⟩
     ·cases this
   refine ⟨by omega,h5,fun x hx=>?_,?_⟩
   ·obtain ⟨i,hi,rfl⟩:=vk hx
    have:=(hn i hi).1;simpa [gs,hi] using this
   ·refine nS.2 fun i j hi hj hij e=>?_
    have:=(hn j hj).2;unfold fk at this;have:=any_false this hij;rw [decide_eq_false_iff_not] at this;exact this (by simp [gs,hi,hj,e])
 ·intro h
  rw [if_neg (by have:=h.lo;omega)];refine cR fun i hi=>?_;unfold jc;have h1:gs aac i=aac[i]:=by simp [gs,hi]
  rw [h1,h.nm _ (lg hi),if_pos rfl,if_neg];rw [Bool.not_eq_true];refine any_none fun j hj=>?_;rw [decide_eq_false_iff_not,h1];intro e;have h2:=nS.1 h.nd j i (by omega) hi hj;exact h2 (by simpa [gs,show j<aac.length by omega] using e)
theorem Pr {ns:List ByteArray} {n j:Nat} (hn:ns.length=n) (hj:j<n) (h0:(gs ns j).size≠0):(kj ns j).toNat<(aD ns).length/\gi (aD ns) (kj ns j).toNat=j:=CQ (XT (by omega) h0)
theorem gT.Ve {aac:List ByteArray} (h:gT aac):∀j k,j<k->k<aac.length->gs aac k≠gs aac j:=fun j k hjk hk e=>by
 have h2:=nS.1 h.nd j k (by omega) hk hjk
 exact h2 (by simpa [gs,hk,show j<aac.length by omega] using e.symm)
theorem B9 {t:az} {aac:List ByteArray} (h:gT aac) (ht:aH t=0):oB t aac=true↔dK t aac:=by
 obtain ⟨_,_,hnl,_,_⟩:=aF ht;unfold oB;rw [gD,decide_eq_true_iff,Ag];constructor
 ·rintro ⟨h1,h2⟩
  refine ⟨ht,by have:=h.hi;omega,h.Ve,h1,fun j hj hj0=>?_⟩;obtain ⟨p1,p2⟩:=Pr hnl hj hj0;have:=any_false h2 p1;rw [p2,decide_eq_false_iff_not] at this;exact J8.1 (by rw [cZ] at this;omega)
 ·intro ho
  refine ⟨ho.len,any_none fun j hj=>?_⟩;rw [decide_eq_false_iff_not];obtain ⟨v,hv,uM,hv0⟩:=qi hj;rw [hv,cZ];have:=J8.2 (ho.has v (by omega) hv0);omega
theorem yM {aad:List (List Int)} (h:fo aad=0):0<aad.length/\(∀k,k<aad.length->(gl aad k).length=(gl aad 0).length/\∀p,p<(gl aad 0).length -> -1<=gi (gl aad k) p/\gi (gl aad k) p<16):=by
 unfold fo at h;split at h
 ·cases h
 ·rename_i h0
  split at h
  ·cases h
  ·refine ⟨by omega,fun k hk=>?_⟩
   have:=jB h k hk;unfold pR at this;split at this
   ·cases this
   ·rename_i h1
    split at this
    ·cases this
    ·rename_i h2
     (have h1:(gl aad k).length=(gl aad 0).length:=by omega);refine ⟨h1,fun p hp=>st_bd (by simpa using h2) (by omega)⟩
structure mR (aac:List ByteArray) (aad:List (List Int)):Prop where
 nm:gT aac
 ag:fo aad=0
 len:aad.length=aac.length
theorem vJ {aac:List ByteArray} {aad:List (List Int)} (h5:aac.length<=5):gL aac aad=0↔mR aac aad:=by
 unfold gL;constructor
 ·intro h
  split at h
  ·rename_i h1;exact absurd h h1
  ·rename_i h1
   split at h
   ·cases h
   ·rename_i h2
    split at h
    ·cases h
    ·rename_i h3
     exact ⟨(mQ h5).1 (by omega),by omega,by omega⟩
 ·intro h
  rw [if_neg (by rw [(mQ h5).2 h.nm];simp),if_neg (by rw [h.ag];simp),if_neg (by rw [h.len];simp)]
theorem r7 (aad:List (List Int)) (p:Nat) {k:Nat} (hk:k<aad.length):gi (bg aad p) k=gi (gl aad k) p:=by simp [gi,bg,gl,hk]
section
variable {t u:az} {aac:List ByteArray} {aad:List (List Int)}
theorem ru (hc:mR aac aad) (h:dK t aac) {p:Nat} (hp:p<(gl aad 0).length):Valid t (iN t aac aad p) (bZ 16):=by
 refine ⟨h.te,Vd,qp _ _ _ _,?_⟩;unfold mH iN;rw [qp];refine any_none fun j hj=>?_;obtain ⟨v,hv,uM,hv0⟩:=qi hj;obtain ⟨_,_,hnl,_,_⟩:=aF h.te;obtain ⟨b,hb,_,e⟩:=zm h (show v<t.ps.length by omega) hv0;rw [A7 hj,hv,cZ,e,cZ,r7 _ _ (by rw [hc.len];exact hb)];have:=((yM hc.ag).2 b (by rw [hc.len];exact hb)).2 p hp;rw [gM,CF,decide_eq_false_iff_not,decide_eq_false_iff_not];omega
theorem of_flat (hn:gT aac) {q:RT} (ht:aH (flat q)=0) (hq:(dx q).Perm aac):dK (flat q) aac:=by
 have h1:(qK (flat q).ns).Perm aac:=by have:=rN ht;rw [vE] at this;exact this.symm.trans hq
 refine ⟨ht,by have:=hn.hi;omega,hn.Ve,by rw [Dc,h1.length_eq],fun j hj hj0=>?_⟩;obtain ⟨_,_,hnl,_,_⟩:=aF ht;have hm:gs (flat q).ns j∈aac:=h1.mem_iff.1 (ES.2 ⟨j,by omega,rfl,hj0⟩);obtain ⟨b,hb,e⟩:=vk hm;exact ⟨b,hb,by simp [gs,hb] at e ⊢;exact e⟩
theorem mM (hn:gT aac) (ht:t∈allT aac):dK t aac/\∃q∈cI aac,t=flat q:=by
 obtain ⟨q,hq,rfl⟩:=cm.1 ht;obtain ⟨_,h2,_,_,h5,_⟩:=jU hn hq;exact ⟨of_flat hn h5 h2,q,hq,rfl⟩
theorem pZ {l:List az} {k:Nat} (h:k<l.length):gt l k∈l:=by simp [gt,h]
theorem Jc {l:List az} {t:az} (h:t∈l):∃k,k<l.length/\gt l k=t:=by
 obtain ⟨k,hk,e⟩:=vk h;exact ⟨k,hk,by simp [gt,hk,e]⟩
end
end
section
open Go.RowKit Go.Deep
def fQ (S:Nat->Prop) (w:World) (v:Value) (ts:List az):Prop :=
 ∃p cap,v=.slice p ts.length cap/\ts.length<=cap/\(ts.length=0\/∃b off,p=some ⟨b,off,none⟩/\S b/\∀k,k<ts.length->∃P N,w.cell? ⟨b,off+k*2,none⟩=some P/\w.cell? ⟨b,off+k*2+1,none⟩=some N/\aI S w (.agg #[P,N]) (gt ts k))
theorem iM {S:Nat->Prop} {w:World} {v:Value} {ts:List az} (h:fQ S w v ts):∃p cap,v=.slice p ts.length cap/\ts.length<=cap:=by
 obtain ⟨p,cap,e,hn,_⟩:=h;exact ⟨p,cap,e,hn⟩
theorem fQ.nil (S:Nat->Prop) (w:World):fQ S w (.slice none 0 0) []:=⟨none,0,rfl,af _,.inl rfl⟩
abbrev rP:=(Value×Value)×az
def F6 (x:rP):List Value:=[x.1.1,x.1.2]
def qR (es:List rP):List Value:=es.flatMap F6
def He (es:List rP) (k:Nat):rP:=es.getD k ((undef,undef),⟨[],[]⟩)
theorem K0 (es:List rP) (x:rP):qR (es++[x])=qR es++F6 x:=by unfold qR;rw [sF];simp
theorem Rz:∀(es:List rP) (k:Nat),k<es.length->(qR es)[k*2]? = some (He es k).1.1/\(qR es)[k*2+1]? = some (He es k).1.2
 | [],k,h=>absurd h (bG _)
 | x::es,0,_=>by simp [qR,F6,He]
 | x::es,k+1,h=>by
  have ih:=Rz es k (by simpa using h)
  have e:(k+1)*2=k*2+1+1:=by omega
  have e2:He (x::es) (k+1)=He es k:=by simp [He]
  have e3:qR (x::es)=x.1.1::x.1.2::qR es:=by simp [qR,F6]
  rw [e2,e3,e]
  simp only [List.getElem?_cons_succ]
  exact ih
def nw (base:Nat) (w:World) (v:Value) (es:List rP):Prop :=
 w.ownsRow base 39 2 v es.length (qR es)/\∀x∈es,aI (fun b=>some b≠v.ownBlock) w (.agg #[x.1.1,x.1.2]) x.2
theorem nw.nil (base:Nat) (w:World):nw base w (.slice none 0 0) []:=⟨World.ownsRow_nil _ _ _ _,fun _ h=>by cases h⟩
theorem nw.up {base:Nat} {w w':World} {v:Value} {es:List rP} (h:nw base w v es) (hu:Up w w'):nw base w' v es :=
 ⟨zk h.1 fun b hb=>bI hu b (j8 h.1 b hb).2,fun x hx=>(h.2 x hx).keep (hu.kept _)⟩
theorem nw.form {base:Nat} {w:World} {v:Value} {es:List rP} (h:nw base w v es):∃p c,v=.slice p es.length c:=by
 rcases h.1.2 with ⟨e,h0⟩ | ⟨g,cap,cur,e,_⟩
 ·exact ⟨none,0,by rw [e,h0]⟩
 ·exact ⟨_,_,e⟩
theorem gte_mem {es:List rP} {k:Nat} (h:k<es.length):He es k∈es:=by simp [He,h]
theorem nw.trees {base:Nat} {w:World} {v:Value} {es:List rP} (h:nw base w v es):fQ Any w v (es.map (·.2)):=by
 obtain ⟨ho,hT⟩:=h;have hgt:∀k,k<es.length->gt (es.map (·.2)) k=(He es k).2:=fun k hk=>by simp [gt,He,hk]
 rcases ho.2 with ⟨e,h0⟩ | ⟨g,cap,cur,e,hg,hc,hn,hcm,hcs,ht⟩
 ·have Nc:es.length=0:=h0
  have:es=[]:=oJ Nc;subst this;subst e;exact fQ.nil _ _
 ·subst e
  refine ⟨_,cap,by rw [aG],by rw [aG];exact hn,.inr ⟨g,0,rfl,trivial,fun k hk=>?_⟩⟩;rw [aG] at hk;rw [hgt k hk];obtain ⟨c0,c1⟩:=Rz es k hk;refine ⟨(He es k).1.1,(He es k).1.2,?_,?_,(hT _ (gte_mem hk)).sub fun _ _ _=>trivial⟩
  ·rw [mg,ho.cellAt (k*2) (by omega)];exact c0
  ·rw [mg,ho.cellAt (k*2+1) (by omega)];exact c1
section
variable {P:Program} {ops:Array Oper} {rest:List Oper} {o:Oper} {a:Act} {Q:Exit->Act->World->Prop}
theorem Ca (W:World) (hgd:o.guard=none) (s x:Operand) (t:TypeId) (ho:o.op=.call { callee:=.builtin .append,args:=#[s,x],argTypes:=#[t,t] })
  (base:Nat) (z:Value) (bytes:Nat) (ht:P.underlying t=some (.slice 39)) (hinfo:(P.info? 39).map (fun i=>(i.zero,i.size,i.bytes))=some (some z,2,bytes))
  (hz1:z.cells.size=2) (qE:bytes<=64) {v:Value} {es:List rP} (hown:nw base W v es) (hs:a.eval s=v) (G:rP)
  (hx:a.eval x=.slice (some ⟨W.heap.size,0,none⟩) 1 1) (hu:aI (fun b=>some b≠v.ownBlock) W (.agg #[G.1.1,G.1.2]) G.2) (n:Nat) (qF:es.length=n) (hn:n<=1000000) (hbase:base<=W.heap.size)
  (h:∀g cap w',nw base w' (.slice (some ⟨g,0,none⟩) (n+1) cap) (es++[G])->W.grownBy w' v.ownBlock->Below base W w'->wpList P ops Q rest (a.put o.dst (.slice (some ⟨g,0,none⟩) (n+1) cap)) w') :
  wpList P ops Q (o::rest) a (W.alloc (.cells #[G.1.1,G.1.2] 39)):=by
 subst qF;obtain ⟨i,hi,hzz⟩:=mh.1 hinfo;simp only [mj] at hzz;obtain ⟨hz,hs1,hb⟩:=hzz;obtain ⟨hown,hrows⟩:=hown;have h1:G.1.1.oneCell'=true/\G.1.2.oneCell'=true:=by
  obtain ⟨P1,N1,e,hP,hN⟩:=hu;injection e with e;have e1:G.1.1=P1/\G.1.2=N1:=by simpa using e
  obtain ⟨p,c,e2,_⟩:=ay.open hP;obtain ⟨q,d,e3,_⟩:=ay.open hN;rw [e1.1,e1.2,e2,e3];exact ⟨rfl,rfl⟩
 refine wpList_append_lies _ hgd s x t ho base 39 i z 2 bytes ht hi hz hs1 hb hz1 (by omega) v es.length (qR es) hs (hown.alloc _) ⟨W.heap.size,0,none⟩ 1 1 (F6 G) hx rfl ?_ (fun q hq=>by
  unfold F6 at hq;rcases aW.1 hq with e | hq
  ·subst e;exact h1.1
  ·rw [dP.1 hq];exact h1.2) (by omega)
  (by unfold maxLen;omega) ?_ (by simp;omega) _ rfl fun g cap w' h2 h3 h4 _=>?_
 ·intro j u' hj
  match j with
  | 0 =>
   (obtain rfl:G.1.1=u':=by simpa [F6] using hj);exact aS W _ _ 0
  | 1 =>
   (obtain rfl:G.1.2=u':=by simpa [F6] using hj);exact aS W _ _ 1
  | j+2=>simp [F6] at hj
 ·have:(es.length+1)*bytes<=(es.length+1)*64:=sW _ qE
  omega
 ·have hg:=nB h3
  have LX:∀b:Nat,some b≠v.ownBlock->b<W.heap.size->some b≠(Value.slice (some ⟨g,0,none⟩) (es.length+1) cap).ownBlock:=fun b hb hlt e=>by
   simp only [Value.ownBlock,Eh] at e;rcases h4 with h4 | h4
   ·exact hb (by rw [h4,e])
   ·rw [aQ] at h4;omega
  have hkeep:∀ {u':Value} {y':az},aI (fun b=>some b≠v.ownBlock) W u' y'->aI (fun b=>some b≠(Value.slice (some ⟨g,0,none⟩) (es.length+1) cap).ownBlock) w' u' y':=fun hi'=>by obtain ⟨P1,N1,e,hP,hN⟩:=hi';have k:Kept (fun b=>some b≠v.ownBlock/\b<W.heap.size) W w':=fun b hb hlt=>hg.block b hlt hb.1;exact ⟨P1,N1,e,(ah.keep (hP.sub fun b hb hlt=>⟨hb,hlt⟩) k).sub fun b hb _=>LX b hb.1 hb.2,(au.keep (hN.sub fun b hb hlt=>⟨hb,hlt⟩) k).sub fun b hb _=>LX b hb.1 hb.2⟩
  refine h g cap w' ⟨by rw [aZ,K0];exact h2,fun x hx=>?_⟩ hg (zA (dM _ _) hg hbase fun k hk=>(j8 hown k hk).1);rcases dV.1 hx with hx | hx
  ·exact hkeep (hrows x hx)
  ·rw [dP.1 hx];exact hkeep hu
end
theorem Tryz.infoTree:(Tryz.prog.info? 39).map (fun i=>(i.zero,i.size,i.bytes))=some (some (.agg #[.slice none 0 0,.slice none 0 0]),2,48):=by kernel_rfl
structure F7 (w:World) (B:Nat) (W:World) (t:az):Prop where
 up:Up w W
 lo:w.heap.size<=B/\B<W.heap.size
 ex:∃pp pc np nc,W.heap[B]? = some (Obj.cells #[.slice pp t.ps.length pc,.slice np t.ns.length nc] 39 (0,0))/\aI (fun b=>b≠B) W (.agg #[.slice pp t.ps.length pc,.slice np t.ns.length nc]) t
theorem XU {w4:World} {B:Nat} {x y p q:Value} {T:TypeId} (hb:w4.heap[B]? = some (Obj.cells #[x,y] T (0,0))):((w4.setCell ⟨B,0,none⟩ p).setCell ⟨B,1,none⟩ q).heap[B]? = some (Obj.cells #[p,q] T (0,0)):=by
 simp [World.setCell,Array.getElem?_modify,hb]
theorem F7.Vf {w w4:World} {B:Nat} {x y:Value} {t:az} {pp np:Option Addr} {pc nc:Nat} (hb:w4.heap[B]? = some (Obj.cells #[x,y] 39 (0,0))) (hB:w.heap.size<=B) (hu:Up w w4) (hT:aI (fun b=>b≠B) w4 (.agg #[.slice pp t.ps.length pc,.slice np t.ns.length nc]) t) :
  F7 w B ((w4.setCell ⟨B,0,none⟩ (.slice pp t.ps.length pc)).setCell ⟨B,1,none⟩ (.slice np t.ns.length nc)) t:=by
 obtain ⟨s1,_,_,s4⟩:=gq (p:=.slice pp t.ps.length pc) (q:=.slice np t.ns.length nc) hb hB hu;have hlt:=(fR.1 hb).1;refine ⟨s1,⟨hB,by simpa using hlt⟩,pp,pc,np,nc,XU hb,hT.keep fun b hb _=>s4 b hb⟩
theorem F7.of_alloc {w w2:World} {t:az} {pp np:Option Addr} {pc nc:Nat} (hu:Up w w2) (hT:aI Any w2 (.agg #[.slice pp t.ps.length pc,.slice np t.ns.length nc]) t):F7 w w2.heap.size (w2.alloc (.cells #[.slice pp t.ps.length pc,.slice np t.ns.length nc] 39)) t:=by
 have cE:=Up.alloc w2 (.cells #[.slice pp t.ps.length pc,.slice np t.ns.length nc] 39);refine ⟨hu.trans cE,⟨hu.size,by rw [aQ];omega⟩,pp,pc,np,nc,gp,?_⟩;exact ((hT.sub fun b _ hl=>(show b<w2.heap.size from hl)).keep (cE.kept _)).sub fun b hb _=>by omega
theorem XV {W:World} {B:Nat} {v:Value} {xs:List Int} (h:ah Any W v xs) (hb:W.heap[B]? = some (Obj.cells #[.slice none 0 0,.slice none 0 0] 39 (0,0))):ah (fun b=>b≠B) W v xs:=by
 obtain ⟨p,c,e,hc,h⟩:=h;refine ⟨p,c,e,hc,?_⟩;rcases h with h | ⟨b,off,e2,_,h⟩
 ·exact .inl h
 ·by_cases h0:xs.length=0
  ·exact .inl h0
  ·refine .inr ⟨b,off,e2,fun eb=>?_,h⟩
   subst eb;have h1:=h 0 (by omega);rw [jZ] at h1;simp only [World.cell?,hb] at h1
   match off,h1 with
   | 0,h1=>simp at h1
   | 1,h1=>simp at h1
   | off+2,h1=>simp at h1
theorem XW {W:World} {B:Nat} {v:Value} {xs:List ByteArray} (h:au Any W v xs) (hb:W.heap[B]? = some (Obj.cells #[.slice none 0 0,.slice none 0 0] 39 (0,0))):au (fun b=>b≠B) W v xs:=by
 obtain ⟨p,c,e,hc,h⟩:=h;refine ⟨p,c,e,hc,?_⟩;rcases h with h | ⟨b,off,e2,_,h⟩
 ·exact .inl h
 ·by_cases h0:xs.length=0
  ·exact .inl h0
  ·refine .inr ⟨b,off,e2,fun eb=>?_,h⟩
   subst eb;have h1:=h 0 (by omega);rw [jZ] at h1;simp only [World.cell?,hb] at h1
   match off,h1 with
   | 0,h1=>simp at h1
   | 1,h1=>simp at h1
   | off+2,h1=>simp at h1
theorem K1 {W:World} {B:Nat} {v:Value} {t:az} (h:aI Any W v t) (hb:W.heap[B]? = some (Obj.cells #[.slice none 0 0,.slice none 0 0] 39 (0,0))):aI (fun b=>b≠B) W v t:=by
 obtain ⟨P,N,e,hP,hN⟩:=h;exact ⟨P,N,e,XV hP hb,XW hN hb⟩
theorem Vg (aac:List ByteArray) (k:Nat):((List.range k).any fun j=>decide (gs aac k=gs aac j))=fk aac k:=by
 unfold fk;congr 1;funext j;by_cases e:gs aac j=gs aac k
 ·rw [decide_eq_true e,decide_eq_true e.symm]
 ·rw [decide_eq_false e,decide_eq_false fun q=>e q.symm]
def rQ (s:ByteArray):az:=⟨[-1],[s]⟩
theorem one_at (w:World) (s:ByteArray):aI Any ((w.alloc (.cells #[.int .i64 (-1)] 3)).alloc (.cells #[.string s] 9)) (.agg #[.slice (some ⟨w.heap.size,0,none⟩) 1 1,.slice (some ⟨w.heap.size+1,0,none⟩) 1 1]) (rQ s):=by
 refine ⟨_,_,rfl,⟨_,1,rfl,af _,.inr ⟨_,0,rfl,trivial,fun k hk=>?_⟩⟩,⟨_,1,rfl,af _,.inr ⟨_,0,rfl,trivial,fun k hk=>?_⟩⟩⟩
 ·obtain rfl:k=0:=by have:(rQ s).ps.length=1:=rfl;omega
  refine (Up.alloc (w.alloc (.cells #[.int .i64 (-1)] 3)) _).cell ?_;have h:=mV w (Obj.cells #[.int .i64 (-1)] 3);simp only [World.cell?,h];rfl
 ·obtain rfl:k=0:=by have:(rQ s).ns.length=1:=rfl;omega
  have h:=mV (w.alloc (.cells #[.int .i64 (-1)] 3)) (Obj.cells #[.string s] 9);rw [aQ] at h;simp only [World.cell?,h];rfl
theorem one_err (s:ByteArray):(aH (rQ s)==0)=b7 s.data.toList:=by
 have h1:isIn (rQ s).ps 0=false:=by unfold isIn Ht rQ;simp
 have h2:fk (rQ s).ns 0=false:=by unfold fk;simp
 have h3:k8 (rQ s).ps=true:=by unfold k8 rQ;simp [qq,gi]
 have h4:gs (rQ s).ns 0=s:=rfl;unfold aH;rw [if_neg (by simp [rQ]),if_neg (by simp [rQ]),if_neg (by simp [rQ]),if_pos h3];show (bU (oZ (rQ s).ps (rQ s).ns) 1==0)=_;simp only [bU,if_true];unfold oZ;rw [h1,h2,h4];cases b7 s.data.toList<;>simp
theorem leaf34_t (w:World) (s:ByteArray) (hz:s.size<=70000) :
  Calls Tryz.prog 139 #[.string s] w fun e w'=>e=.returned (.bool (b7 s.data.toList))/\Up w w':=by
 have hu:=(Up.alloc w (.cells #[.int .i64 (-1)] 3)).trans (Up.alloc _ (.cells #[.string s] 9));have HU:=aa hu
 have HC:=aa (xS Any _ _ (rQ s) (one_at w s) (by simp [rQ]) (by simp [rQ]) (fun k=>by
  unfold rQ gs;cases k<;>simp;exact hz))
 have HX:=aa (one_err s);clear hu
 go_enter Tryz.func139,Tryz.ntmps139
 go_wp2_with fail;generalize (w.alloc (.cells #[.int .i64 (-1)] 3)).alloc (.cells #[.string s] 9)=w1 at *;refine HC.out.mono ?_;rintro e w2 ⟨rfl,hb⟩;have bD:=aa (HU.out.trans (show Up w1 w2 from hb));clear hb HC HU;go_wp2_with fail;go_ret;exact ⟨aV HX.out,bD.out⟩
theorem ye (S:Nat->Prop) (w:World) (v:Value) (aac:List ByteArray) (h:au S w v aac) (hn:aac.length<=1000000) (hz:∀k,(gs aac k).size<=70000) :
  Calls Tryz.prog 89 #[v] w fun e w'=>e=.returned (.int .i64 (dm aac))/\Up w w':=by
 obtain ⟨p,cap,rfl,hcap,_⟩:=ay.open h;have h:au S w (.slice p aac.length cap) aac:=h;have HC:Hid (dm aac=if aac.length<2\/7<aac.length then 4 else bU (jc aac) aac.length):=rfl;have HN:=aa h;have HZ:=aa hz;clear h hz;by_cases h1:aac.length<2
 ·go_enter Tryz.func89,Tryz.ntmps89
  go_wp2_with fail;go_ret;exact ⟨aM (by rw [HC.out,if_pos (.inl h1)]),Up.refl _⟩
 by_cases h2:7<aac.length
 ·go_enter Tryz.func89,Tryz.ntmps89
  go_wp2_with fail;go_ret;exact ⟨aM (by rw [HC.out,if_pos (.inr h2)]),Up.refl _⟩
 have HF:Hid (dm aac=bU (jc aac) aac.length):=by unfold Hid;rw [HC.out,if_neg (by omega)]
 clear HC;have Hf:Hid (∀k,k<aac.length->(∀j,j<k->jc aac j=0)->jc aac k≠0->dm aac=jc aac k):=fun k hk hj h0=>by rw [HF.out,gm hk hj h0]
 go_enter Tryz.func89,Tryz.ntmps89
 go_wp2_with fail
 go_loopw [3,4,15] (fun _ _ i wr=>∃k:Nat,k<=aac.length/\i=.int .i64 k/\Hid (Up w wr/\∀j,j<k->jc aac j=0)) (fun _ _ i _=>aac.length - (intOf i).toNat)
 case atStart=>exact ⟨0,aL _,rfl,Up.refl _,fun j hj=>absurd hj (bG _)⟩
 case round =>
  obtain ⟨k,hk,rfl,hd⟩:=hrel;obtain ⟨wo,rfl⟩:∃wo:World,wo=wr:=⟨_,rfl⟩;by_cases hlt:k<aac.length
  ·have Vh:=au.keep HN.out (hd.out.1.kept S)
   obtain ⟨Oe,no,rfl,hc⟩:=dr Vh hlt;have je:=aa (leaf34_t wo (gs aac k) (HZ.out k));have oU:Hid (∀W,Up wo W->Calls Tryz.prog 32 #[.slice (some ⟨Oe,no,none⟩) k cap,.string (gs aac k)] W fun e w'=>e=.returned (.bool (fk aac k))/\W=w'):=fun W hW=>by
    have h:=kr S W _ k (fun j=>gs aac j) (gs aac k) (IJ (au.keep Vh (hW.kept S)) hk) (by omega)
    rwa [Vg] at h
   have Jd:=aa (Hf.out k hlt hd.out.2);have Je:Hid (jc aac k=if b7 (gs aac k).data.toList then (if fk aac k then 7 else 0) else 14):=rfl;generalize gs aac k=nm at *;generalize fk aac k=bs at *;generalize b7 nm.data.toList=bn at *;clear Vh;cases bn
   ·have HE:Hid (jc aac k=14):=Je.out
    go_wp2_with fail;refine je.out.mono ?_;rintro e w1 ⟨rfl,bA⟩;have cA:=aa (hd.out.1.trans bA);clear bA;go_wp2_with fail;go_ret;exact ⟨aM ((Jd.out (by rw [HE.out];decide)).trans HE.out).symm,cA.out⟩
   ·cases bs
    ·have HE:Hid (jc aac k=0):=Je.out
     go_wp2_with fail;refine je.out.mono ?_;rintro e w1 ⟨rfl,bA⟩;have cA:=aa (hd.out.1.trans bA);have LY:=aa (oU.out w1 bA);clear bA;go_wp2_with (go_at_call 32;refine LY.out.mono ?_;rintro e w' ⟨rfl,rfl⟩)
     go_roundw
     case rel=>exact ⟨k+1,by omega,by go_num,cA.out,fun j hj=>if e:j=k then by subst e;exact HE.out else hd.out.2 j (by omega)⟩
     case measure=>simp [intOf];omega
    ·have HE:Hid (jc aac k=7):=Je.out
     go_wp2_with fail;refine je.out.mono ?_;rintro e w1 ⟨rfl,bA⟩;have cA:=aa (hd.out.1.trans bA);have LY:=aa (oU.out w1 bA);clear bA;go_wp2_with (go_at_call 32;refine LY.out.mono ?_;rintro e w' ⟨rfl,rfl⟩);go_ret;exact ⟨aM ((Jd.out (by rw [HE.out];decide)).trans HE.out).symm,cA.out⟩
  ·obtain rfl:k=aac.length:=by omega
   (have sK:Hid (dm aac=0):=by unfold Hid;rw [HF.out,cR hd.out.2]);go_wp2_with fail;go_ret;exact ⟨aM sK.out.symm,hd.out.1⟩
theorem RA (S:Nat->Prop) (w:World) (v vs:Value) (aac:List ByteArray) (aad:List (List Int)) (h:au S w v aac) (hn:aac.length<=1000000) (hz:∀k,(gs aac k).size<=70000) (hS:aR S w vs aad) (ud:aad.length<=1000000) (hr:∀k,(gl aad k).length<=1000000) :
  Calls Tryz.prog 67 #[v,vs] w fun e w'=>e=.returned (.int .i64 (gL aac aad))/\Up w w':=by
 have HC:Hid (gL aac aad=if dm aac≠0 then dm aac else if fo aad≠0 then 1 else if aad.length≠aac.length then 9 else 0):=rfl;have je:=aa (ye S w v aac h hn hz);obtain ⟨p,cap,rfl,hcap,_⟩:=ay.open h;obtain ⟨q,d,rfl,hd,_⟩:=dW hS;have EX:Hid (∀W,Up w W->Calls Tryz.prog 70 #[.slice q aad.length d] W fun e w'=>e=.returned (.int .i64 (fo aad))/\W=w'):=fun W hW=>Qm S W _ aad (aR.keep hS (hW.kept S)) ud hr;clear h hS hz hr
 go_enter Tryz.func67,Tryz.ntmps67
 go_wp2_with fail;refine je.out.mono ?_;rintro e w1 ⟨rfl,bA⟩;have cA:=aa bA;have HAG1:=aa (EX.out w1 bA);clear bA;by_cases c1:dm aac=0
 ·have uT:Hid (gL aac aad=if fo aad≠0 then 1 else if aad.length≠aac.length then 9 else 0):=by unfold Hid;rw [HC.out,if_neg (by omega)]
  rw [c1];clear HC c1 je EX;go_wp2_with fail;refine HAG1.out.mono ?_;rintro e w' ⟨rfl,rfl⟩;generalize fo aad=a at *;by_cases c2:a=0
  ·subst c2
   by_cases c3:aad.length=aac.length
   ·have d3:(aad.length:Int)=(aac.length:Int):=by omega
    go_wp2_with fail;go_ret;exact ⟨aM (by rw [uT.out,if_neg (by omega),if_neg (by omega)]),cA.out⟩
   ·have d3:¬(aad.length:Int)=(aac.length:Int):=by omega
    go_wp2_with fail;go_ret;exact ⟨aM (by rw [uT.out,if_neg (by omega),if_pos c3]),cA.out⟩
  ·go_wp2_with fail
   go_ret;exact ⟨aM (by rw [uT.out,if_pos c2]),cA.out⟩
 ·generalize dm aac=a at *
  go_wp2_with fail;go_ret;exact ⟨aM (by rw [HC.out,if_pos c1]),cA.out⟩
end
end Go.Proofs.YthgabkgmkolobaaGreat
