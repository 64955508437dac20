/- The reference's canonical tree is the canonical tree: its order is the sort's order. The .. -/
import Derived.Test.YthgabkgmkolobaaGreatQ21
set_option maxRecDepth 100000
set_option maxHeartbeats 4000000
namespace Go.Proofs.YthgabkgmkolobaaGreat
section
open Go.RowKit Go.Deep
theorem xd:∀a b:List UInt8,Op.bytesLess a b=decide (Lib.compareBytes a b<0)
 | [],[]=>rfl
 | [],_::_=>rfl
 | _::_,[]=>rfl
 | a::x,b::y=>by
  rw [Op.bytesLess,Lib.compareBytes,xd x y]
  by_cases h:a<b
  ·simp [h]
  ·by_cases h2:b<a
   ·have:a≠b:=by rintro rfl;exact h h2
    simp [h,h2,this]
   ·have:a=b:=by
     apply UInt8.toNat.inj
     rw [sk] at h h2;omega
    subst this
    simp [h]
theorem Kw (a b:ByteArray):yM a b=decide (cG a b<0):=by
 unfold yM cG;rw [xd,Lib.toList_data,Lib.toList_data]
theorem nJ (a b:ByteArray):jG a b=if cG a b<=0 then a else b:=by
 unfold jG;rw [Kw];by_cases h:a.toList=b.toList
 ·have e:a=b:=fH (by rw [<- Lib.toList_data,<- Lib.toList_data,h])
  subst e;simp [D1]
 ·have e:cG a b≠0:=fun q=>h (by rw [iH q])
  by_cases h1:cG a b<=0
  ·rw [if_pos h1,if_pos];simp;left;omega
  ·rw [if_neg h1,if_neg];simp [h];omega
theorem nB {a b c:ByteArray} (h:cG a b<=0) (h':cG b c<=0):cG a c<=0:=by
 by_cases h1:cG a b=0
 ·rw [iH h1];exact h'
 ·by_cases h2:cG b c=0
  ·rw [<- iH h2];exact h
  ·have:=rL (a:=a) (b:=b) (c:=c) (by omega) (by omega);omega
theorem GQ {s a b:ByteArray} (h:cG a b<=0):jG (jG s a) b=jG s a:=by
 rw [nJ s a];split
 ·rename_i h1;rw [nJ,if_pos (nB h1 h)]
 ·rw [nJ,if_pos h]
theorem GR {s a b:ByteArray} (h:¬cG a b<=0):jG (jG s a) b=jG s b:=by
 have hb:=iG a b;rw [nJ s a];split
 ·rfl
 ·rename_i h1
  rw [nJ a b,if_neg h,nJ s b,if_neg];intro q;exact h1 (nB q (by omega))
def L3 (s:ByteArray):List RT->ByteArray
 | []=>s
 | b::_=>jG s (aQ b)
theorem Od (s:ByteArray) (a:RT):∀l,L3 s (ep a l)=L3 (jG s (aQ a)) l
 | []=>rfl
 | b::l=>by
  rw [ep]
  split
  ·rename_i h;show jG s _=jG (jG s _) _;rw [GQ h]
  ·rename_i h;show jG s _=jG (jG s _) _;rw [GR h]
mutual
theorem rT:∀r:RT,dS r=aQ (aY r)
 | .node nm []=>by rw [dS,aY,cR,aQ]
 | .node nm (k::ks)=>by
  rw [dS,Au ks,rT k,aY,cR]
  cases h:cR ks with
  | nil=>rfl
  | cons b l =>
   rw [ep]
   show jG _ _=_
   rw [nJ]
   split
   ·rw [aQ]
   ·rw [aQ]
theorem Au:∀(rs:List RT) (s:ByteArray),iD s rs=L3 s (cR rs)
 | [],s=>by rw [iD,cR];rfl
 | r::rs,s=>by rw [iD,Au rs,rT r,cR,Od]
end
theorem GS {s:ByteArray} {o:RT} (hs:s=aQ o):∀ {l:List RT},(∀b∈l,dS b=aQ b)->p6 s o l=ep o l
 | [],_=>rfl
 | b::l,h=>by
  have hb:=h b (by simp)
  have ha:=iG (aQ b) (aQ o)
  have ih:=GS hs (l:=l) fun q hq=>h q (by simp [hq])
  unfold p6 at ih ⊢
  rw [pZ,ep,hb,Kw,hs]
  by_cases e:cG (aQ o) (aQ b)<=0
  ·rw [if_pos e,if_neg (by simp;omega)];rfl
  ·rw [if_neg e,if_pos (by simp;omega),wI,List.drop_succ_cons,bz,<- hs,ih]
theorem yQ {a b:RT} (h:aQ a≠aQ b):∀l,ep a (ep b l)=ep b (ep a l)
 | []=>by
  have h1:=iG (aQ a) (aQ b)
  have h2:cG (aQ a) (aQ b)≠0:=fun q=>h (iH q)
  simp only [ep]
  by_cases e:cG (aQ a) (aQ b)<=0
  ·rw [if_pos e,if_neg (by omega)]
  ·rw [if_neg e,if_pos (by omega)]
 | c::l=>by
  have h1:=iG (aQ a) (aQ b)
  have h2:cG (aQ a) (aQ b)≠0:=fun q=>h (iH q)
  by_cases ea:cG (aQ a) (aQ c)<=0
  ·by_cases eb:cG (aQ b) (aQ c)<=0
   ·by_cases e:cG (aQ a) (aQ b)<=0
    ·have e':¬cG (aQ b) (aQ a)<=0:=by omega
     simp only [ep,ea,eb,e,e',if_true,if_false]
    ·have e':cG (aQ b) (aQ a)<=0:=by omega
     simp only [ep,ea,eb,e,e',if_true,if_false]
   ·have e':¬cG (aQ b) (aQ a)<=0:=fun q=>eb (nB q ea)
    simp only [ep,ea,eb,e',if_true,if_false]
  ·by_cases eb:cG (aQ b) (aQ c)<=0
   ·have e':¬cG (aQ a) (aQ b)<=0:=fun q=>ea (nB q eb)
    simp only [ep,ea,eb,e',if_true,if_false]
   ·simp only [ep,ea,eb,if_false]
    rw [yQ h l]
theorem GU {a x:RT}:∀ {l:List RT},x∈ep a l↔x=a\/x∈l
 | []=>by simp [ep]
 | b::l=>by
  rw [ep]
  split
  ·simp
  ·rw [bX,GU (l:=l),bX]
   constructor
   ·rintro (h | h | h)<;>simp [h]
   ·rintro (h | h | h)<;>simp [h]
def Dst (r:RT):Prop:=∀s∈bW r,(s.kids.map fun k=>aQ (aY k)).Nodup
def foldI (acc:List RT):List RT->List RT
 | []=>acc
 | c::cs=>ep (aY c) (foldI acc cs)
theorem EA {a:RT}:∀(cs acc:List RT),(∀c∈cs,aQ a≠aQ (aY c))->foldI (ep a acc) cs=ep a (foldI acc cs)
 | [],_,_=>rfl
 | c::cs,acc,h=>by
  rw [foldI,foldI,EA cs acc (fun q hq=>h q (by simp [hq])),yQ (h c (by simp))]
theorem EB:∀cs:List RT,foldI [] cs=cR cs
 | []=>by rw [foldI,cR]
 | c::cs=>by rw [foldI,cR,EB cs]
mutual
theorem GV:∀r:RT,Dst r->qZ r=aY r
 | .node nm ks,h=>by
  have h0:=h (.node nm ks) (by rw [bW];simp)
  rw [qZ,aY,EC ks [] (fun s hs=>h s (by rw [bW];simp [hs])) h0 (by simp),EB]
theorem EC:∀(cs acc:List RT),(∀s∈dh cs,(s.kids.map fun k=>aQ (aY k)).Nodup)->(cs.map fun k=>aQ (aY k)).Nodup->(∀b∈acc,dS b=aQ b)->fu acc cs=foldI acc cs
 | [],acc,_,_,_=>by rw [fu,foldI]
 | c::cs,acc,h,hn,ha=>by
  have hc:=GV c (fun s hs=>h s (by rw [dh];simp [hs]))
  have hl:dS (aY c)=aQ (aY c):=by rw [rT,wV]
  rw [bI,gz] at hn
  rw [fu,hc,GS (rT c) ha,EC cs _ (fun s hs=>h s (by rw [dh];simp [hs])) hn.2 (fun b hb=>by
   rcases GU.1 hb with rfl | hb
   ·exact hl
   ·exact ha b hb),foldI,EA cs acc]
  intro q hq e
  exact hn.1 (di.2 ⟨q,hq,e.symm⟩)
end
mutual
theorem GX:∀(r s:RT),s∈bW r->(dr s).Sublist (dr r)
 | .node nm ks,s,h=>by
  rw [bW,bX] at h
  rcases h with rfl | h
  ·exact List.Sublist.refl _
  ·rw [dr];exact (ED ks s h).trans (List.sublist_cons_self _ _)
theorem ED:∀(rs:List RT) (s:RT),s∈dh rs->(dr s).Sublist (dL rs)
 | [],s,h=>by simp [dh] at h
 | r::rs,s,h=>by
  rw [dh,cu] at h
  rw [dL]
  rcases h with h | h
  ·exact (GX r s h).trans (List.sublist_append_left _ _)
  ·exact (ED rs s h).trans (List.sublist_append_right _ _)
end
theorem qM {r s:RT} (h:s∈bW r):(gH s).Sublist (gH r):=(GX r s h).filter _
theorem ur (r:RT):r∈bW r:=by cases r;rw [bW];simp
theorem xe:∀r:RT,(∀s∈bW r,s.kids=[]->bu s.nm.data.toList=true)->aQ r∈gH r
 | .node nm [],h=>by
  have h1:bu nm.data.toList=true:=h (.node nm []) (ur _) rfl
  rw [LZ (rP h1),aQ];simp
 | .node nm (k::ks),h=>by
  have hk:∀s∈bW k,s∈bW (.node nm (k::ks)):=fun s hs=>by rw [bW,dh];simp [hs]
  rw [aQ]
  exact (qM (hk k (ur k))).subset (xe k fun s hs=>h s (hk s hs))
theorem EE {k:RT}:∀ {ks:List RT},k∈ks->∀s∈bW k,s∈dh ks
 | b::ks,h,s,hs=>by
  rw [dh,cu]
  rcases bX.1 h with rfl | h
  ·exact .inl hs
  ·exact .inr (EE h s hs)
mutual
theorem oV:∀(r:RT) {s u:RT},s∈bW r->u∈bW s->u∈bW r
 | .node nm ks,s,u,h,hu=>by
  rw [bW,bX] at h
  rcases h with rfl | h
  ·exact hu
  ·rw [bW];exact tY _ (Av ks h hu)
theorem Av:∀(rs:List RT) {s u:RT},s∈dh rs->u∈bW s->u∈dh rs
 | [],s,u,h,_=>by simp [dh] at h
 | r::rs,s,u,h,hu=>by
  rw [dh,cu] at h ⊢
  rcases h with h | h
  ·exact .inl (oV r h hu)
  ·exact .inr (Av rs h hu)
end
theorem GY {r:RT} (h:kP r):Dst r:=by
 intro s hs;have gV:(gH s).Nodup:=(qM hs).nodup h.nd;obtain ⟨nm,ks⟩:=s;show (ks.map _).Nodup;by_cases hk:ks=[]
 ·subst hk;simp
 ·rw [wZ (nm:=nm) (ks:=ks) (h.Ej (.node nm ks) hs hk)] at gV
  have hmem:∀k∈ks,aQ (aY k)∈gH k:=fun k hk=>(rR k).mem_iff.1 (xe _ fun q hq hqk=>by
   obtain ⟨x,hx,rfl⟩:=di.1 ((l6 k).mem_iff.1 hq);rw [rQ] at hqk;rw [sX]
   exact h.lf x (oV r hs (by rw [bW];exact tY _ (EE hk x hx))) (kQ.1 hqk))
  clear hs hk
  induction ks with
  | nil=>simp
  | cons k ks ih =>
   rw [fZ,gy] at gV;rw [bI,gz];refine ⟨fun hm=>?_,ih gV.2.1 fun q hq=>hmem q (by simp [hq])⟩;obtain ⟨q,hq,e⟩:=di.1 hm;exact gV.2.2 _ (hmem k (by simp)) _ (gh.2 ⟨q,hq,hmem q (by simp [hq])⟩) e.symm
theorem Oe {t:aF} (h:aB t=0):uV t=qX t:=by
 unfold uV;rw [GV _ (GY (Gz h)),yH h]
end
section
section
variable {acw:List ByteArray} {l:List SK}
theorem Q9 (acw:List ByteArray):(List.range acw.length).map (gs acw)=acw:=by
 refine tU (by simp) fun i h1 h2=>?_;simp [gs,h2]
end
end
section
structure S3 (r:RT):Prop where
 nd:(gH r).Nodup
 pt:∀s∈bW r,GN s
theorem S3.good {r:RT} (h:S3 r):kP r:=⟨fun s hs hk=>(h.pt s hs).1 hk,fun s hs hk=>(h.pt s hs).2.1 hk,h.nd⟩
theorem Ra {a b:List RT} (h:a.Perm b):(a.map aQ).Nodup->a.foldr ep []=b.foldr ep []:=by
 induction h with
 | nil=>intro _;rfl
 | cons x _ ih=>intro hn;rw [List.foldr_cons,List.foldr_cons,ih (by rw [bI,gz] at hn;exact hn.2)]
 | swap x y l =>
  intro hn
  simp only [List.foldr_cons]
  rw [bI,gz,bI] at hn
  exact yQ (fun e=>hn.1 (by rw [e];simp)) _
 | trans p _ ih1 ih2=>intro hn;rw [ih1 hn,ih2 ((p.map _).nodup_iff.1 hn)]
theorem uW:∀l:List RT,cR l=(l.map aY).foldr ep []
 | []=>by rw [cR];rfl
 | r::l=>by rw [cR,uW l];rfl
theorem Rb {a b:ByteArray} (ha:a.size=0) (hb:b.size=0):a=b:=by
 apply ByteArray.ext;apply Array.ext
 ·show a.size=b.size;omega
 ·intro i hi _;have:i<a.size:=hi;omega
end
section
open Go.RowKit Go.Deep
theorem L4 (S:Nat->Prop) (w:World) (v:Value) (xs:List (List Int)) (h:bh S w v xs) (hn:xs.length<=1000000) (hr:∀k,(gl xs k).length<=1000000) :
  Calls Tryz.prog 60 #[v] w fun e w'=>e=.returned (.int .i64 (cB xs))/\QD w w':=by
 obtain ⟨p,cap,rfl,hcap,_⟩:=gM h;have H:=aa h;have HR:=aa hr;have HF:Hid (cB xs=if xs.length=0 then 5 else if 32<xs.length\/4096<(gl xs 0).length then 4 else dF (jr xs) xs.length):=rfl;clear h hr;by_cases h0:xs.length=0
 ·have HX:Hid (cB xs=5):=by unfold Hid;rw [HF.out,if_pos h0]
  have d0:((xs.length:Int)==0)=true:=by simp [h0]
  clear h0
  go_enter Tryz.func60,Tryz.ntmps60
  go_wp2_with fail;go_ret;exact ⟨aN HX.out.symm,QD.refl _⟩
 have d0:((xs.length:Int)==0)=false:=by simpa using h0
 have Vz:0<xs.length:=by omega
 by_cases h1:32<xs.length
 ·have HX:Hid (cB xs=4):=by unfold Hid;rw [HF.out,if_neg h0,if_pos (.inl h1)]
  have d1:decide ((32:Int)<(xs.length:Int))=true:=by simp;omega
  clear h0 h1
  go_enter Tryz.func60,Tryz.ntmps60
  go_wp2_with fail;go_ret;exact ⟨aN HX.out.symm,QD.refl _⟩
 have d1:decide ((32:Int)<(xs.length:Int))=false:=by simp;omega
 obtain ⟨b,off,q0,c0,rfl,hc0,_⟩:=iP H.out Vz;have Ql:w.cell? ⟨b,off,none⟩=some (.slice q0 (gl xs 0).length c0):=by simpa using hc0
 have Y4:=HR.out 0;clear hc0;by_cases h2:4096<(gl xs 0).length
 ·have HX:Hid (cB xs=4):=by unfold Hid;rw [HF.out,if_neg h0,if_pos (.inr h2)]
  have d2:decide ((4096:Int)<((gl xs 0).length:Int))=true:=by simp;omega
  clear h0 h1 h2
  go_enter Tryz.func60,Tryz.ntmps60
  go_wp2_with fail;go_ret;exact ⟨aN HX.out.symm,QD.refl _⟩
 have d2:decide ((4096:Int)<((gl xs 0).length:Int))=false:=by simp;omega
 have rC:Hid (cB xs=dF (jr xs) xs.length):=by unfold Hid;rw [HF.out,if_neg h0,if_neg (by omega)]
 have Nd:Hid (∀k,jr xs k=if (gl xs k).length≠(gl xs 0).length then 9 else if je (gl xs k) (-1) 16 then 2 else 0):=fun _=>rfl;have gj:=aa Ql;clear HF h0 h1 h2;generalize hl0:(gl xs 0).length=l0 at *;clear hl0
 go_enter Tryz.func60,Tryz.ntmps60
 go_wp2_with fail
 go_loopw [3,4] (fun i _ wr=>∃k:Nat,k<=xs.length/\i=.int .i64 k/\Hid (QD w wr)/\Hid (∀j,j<k->jr xs j=0)) (fun i _ _=>xs.length - (intOf i).toNat)
 case atStart=>exact ⟨0,aI _,rfl,QD.refl _,fun j hj=>absurd hj (bS _)⟩
 case round =>
  obtain ⟨k,hk,rfl,hQ,hd⟩:=hrel;obtain ⟨wo,rfl⟩:∃wo:World,wo=wr:=⟨_,rfl⟩;have Ql:=hQ.out.up.cell gj.out;by_cases hlt:k<xs.length
  ·obtain ⟨b',off',qk,ck,e1,yc,hik⟩:=iP (H.out.keep (hQ.out.kept S)) hlt
   injection e1 with e1;injection e1 with e1 e2;subst e1;subst e2;(have i1:(0:Int)<=(k:Int):=by omega);(have i2:(k:Int)<(xs.length:Int):=by omega);have HK:=aa (Nd.out k);have EF:=aa hik;have ir:=aa yc;have Ae:=HR.out k;clear hik;by_cases qE:(gl xs k).length=l0
   ·have jg:(((gl xs k).length:Int) != (l0:Int))=false:=by simp [qE]
    rw [if_neg (fun e=>e qE)] at HK;clear qE;go_wp2_with fail;(go_quiet (fail));go_wp2_with fail
    go_loopw [4] (fun i wr=>∃m:Nat,m<=(gl xs k).length/\i=.int .i64 m/\Hid (QD w wr/\QD wo wr)/\Hid (∀j,j<m->(decide (gi (gl xs k) j < -1) || decide (16<=gi (gl xs k) j))=false)) (fun i _=>(gl xs k).length - (intOf i).toNat)
    case atStart=>exact ⟨0,aI _,rfl,⟨hQ.out.drewN nq,⟨nq,rfl⟩⟩,fun j hj=>absurd hj (bS _)⟩
    case round =>
     obtain ⟨m,hm,rfl,EG,hd2⟩:=hrel;obtain ⟨wi,rfl⟩:∃wi:World,wi=wr:=⟨_,rfl⟩;have yc:=EG.out.2.up.cell ir.out;by_cases S4:m<(gl xs k).length
     ·obtain ⟨mb,mo,rfl,Wz⟩:=gp (ay.keep EF.out (EG.out.2.kept S)) S4
      (have j1:(0:Int)<=(m:Int):=by omega);(have j2:(m:Int)<((gl xs k).length:Int):=by omega);generalize hgy:gi (gl xs k) m=y at *;have WA:=aa hgy;clear hgy;by_cases c1:y < -1
      ·have e1:decide (y < -1)=true:=by simpa using c1
       (have HX:Hid (cB xs=2):=by unfold Hid;have hst:je (gl xs k) (-1) 16=true:=vo (p:=fun j=>decide (gi (gl xs k) j < -1) || decide (16<=gi (gl xs k) j)) S4 (by rw [WA.out,e1];rfl);(have hrow:jr xs k=2:=by rw [HK.out,if_pos hst]);rw [rC.out,gA hlt hd.out (by rw [hrow];decide),hrow]);clear c1;go_wp2_with fail;go_ret;exact ⟨aN HX.out.symm,EG.out.1⟩
      ·have e1:decide (y < -1)=false:=by simpa using c1
       by_cases c2:16<=y
       ·have e2:decide (16<=y)=true:=by simpa using c2
        (have HX:Hid (cB xs=2):=by unfold Hid;have hst:je (gl xs k) (-1) 16=true:=vo (p:=fun j=>decide (gi (gl xs k) j < -1) || decide (16<=gi (gl xs k) j)) S4 (by rw [WA.out,e2,Bool.or_true]);(have hrow:jr xs k=2:=by rw [HK.out,if_pos hst]);rw [rC.out,gA hlt hd.out (by rw [hrow];decide),hrow]);clear c1 c2;go_wp2_with fail;go_ret;exact ⟨aN HX.out.symm,EG.out.1⟩
       ·have e2:decide (16<=y)=false:=by simpa using c2
        (have HY:Hid ((decide (gi (gl xs k) m < -1) || decide (16<=gi (gl xs k) m))=false):=by unfold Hid;rw [WA.out,e1,e2];rfl);clear c1 c2;go_wp2_with fail
        go_roundw
        case rel=>exact ⟨m+1,by omega,by go_num,⟨EG.out.1,EG.out.2⟩,fun j hj=>if e:j=m then by subst e;exact HY.out else hd2.out j (by omega)⟩
        case measure=>simp [intOf];omega
     ·obtain rfl:m=(gl xs k).length:=by omega
      (have DV:Hid (jr xs k=0):=by unfold Hid;have hst:je (gl xs k) (-1) 16=false:=any_none hd2.out;rw [HK.out,if_neg (by rw [hst];decide)]);have HQ2:=aa EG.out.1;clear S4 hm hd2 EG;go_wp2_with fail
      go_roundw
      case rel=>exact ⟨k+1,by omega,by go_num,HQ2.out,fun j hj=>if e:j=k then by subst e;exact DV.out else hd.out j (by omega)⟩
      case measure=>simp [intOf];omega
   ·have jg:(((gl xs k).length:Int) != (l0:Int))=true:=by simp;omega
    (have HX:Hid (cB xs=9):=by unfold Hid;(have hrow:jr xs k=9:=by rw [HK.out,if_pos qE]);rw [rC.out,gA hlt hd.out (by rw [hrow];decide),hrow]);clear qE;go_wp2_with fail;(go_quiet (fail));go_wp2_with fail;go_ret;exact ⟨aN HX.out.symm,hQ.out.drewN nq⟩
  ·obtain rfl:k=xs.length:=by omega
   (have HX:Hid (cB xs=0):=by unfold Hid;rw [rC.out,ey hd.out]);clear hlt hk;go_wp2_with fail;go_ret;exact ⟨aN HX.out.symm,hQ.out⟩
end
section
open Go.RowKit Go.Deep
def s8 (l:List (ByteArray×Value)) (k:ByteArray) (v:Value):List (ByteArray×Value):=if (l.lookup k).isNone then l++[(k,v)] else l.map fun x=>if x.1=k then (k,v) else x
def SMap (w:World) (b:Nat) (l:List (ByteArray×Value)):Prop:=∃es clock,w.heap[b]? = some (.map es clock)/\es.toList.map (fun x=>(x.key,x.val))=l.map (fun x=>(Value.string x.1,x.2))
def xg (l:List (ByteArray×Value)):Prop:=(l.map (·.1)).Nodup
theorem Og (a b:ByteArray):(a==b)=decide (a=b):=by
 obtain ⟨a⟩:=a;obtain ⟨b⟩:=b;have:((⟨a⟩:ByteArray)==⟨b⟩)=(a==b):=rfl;rw [this];by_cases h:a=b
 ·subst h;simp
 ·have h2:¬(⟨a⟩:ByteArray)=⟨b⟩:=fun e=>h (ByteArray.mk.inj e)
  rw [decide_eq_false h2];simpa using h
theorem p9 (a:ByteArray):(a==a)=true:=by rw [Og];simp
theorem rU {a b:ByteArray} (h:¬a=b):(a==b)=false:=by rw [Og];simpa using h
section
variable {P:Program} {w:World}
theorem Oh (k:ByteArray):∀(es:List MapEntry) (l:List (ByteArray×Value)) (i:Nat),
  es.map (fun x=>(x.key,x.val))=l.map (fun x=>(Value.string x.1,x.2)) ->
   (l.lookup k=none/\Instr.findNow .string (.string k) es i=some none)\/∃j v,l.lookup k=some v/\(l[j]?).map (·.1)=some k/\Instr.findNow .string (.string k) es i=some (some (i+j,v)):=by
 intro es
 induction es with
 | nil =>
  intro l i hl;cases l with
  | nil=>exact .inl ⟨rfl,rfl⟩
  | cons=>cases hl
 | cons x es ih =>
  intro l i hl;cases l with
  | nil=>cases hl
  | cons y l =>
   simp only [bI,List.cons.injEq,iM] at hl;obtain ⟨⟨h1,h2⟩,h3⟩:=hl;obtain ⟨y1,y2⟩:=y;have h1:x.key=.string y1:=h1;have h2:x.val=y2:=h2;by_cases h:k=y1
   ·subst h
    refine .inr ⟨0,y2,by rw [dV,p9],rfl,?_⟩;simp [Instr.findNow,Instr.sameNow,h1,h2,p9]
   ·have hb:(k==y1)=false:=rU h
    rcases ih l (i+1) h3 with ⟨h4,h5⟩ | ⟨j,v,h4,h5,h6⟩
    ·refine .inl ⟨by rw [dV,hb];exact h4,?_⟩
     simp [Instr.findNow,Instr.sameNow,h1,hb,h5]
    ·refine .inr ⟨j+1,v,by rw [dV,hb];exact h4,by simpa using h5,?_⟩
     simp [Instr.findNow,Instr.sameNow,h1,hb,h6];omega
theorem EH {t:TypeId} (ht:P.underlying t=some .string) (k:ByteArray) (es:List MapEntry) (l:List (ByteArray×Value)) (hl:es.map (fun x=>(x.key,x.val))=l.map (fun x=>(Value.string x.1,x.2))) :
  (l.lookup k=none/\(Instr.findKey t (.string k) es).run P w=.ok none w)\/∃j v,l.lookup k=some v/\(l[j]?).map (·.1)=some k/\(Instr.findKey t (.string k) es).run P w=.ok (some (j,v)) w:=by
 have hu:=run_underlying (w:=w) ht;rcases Oh k es l 0 hl with ⟨h1,h2⟩ | ⟨j,v,h1,h2,h3⟩
 ·exact .inl ⟨h1,by simp [Instr.findKey,hu,h2]⟩
 ·exact .inr ⟨j,v,h1,h2,by simp [Instr.findKey,hu,h3]⟩
theorem rV {t:TypeId} (ht:P.underlying t=some .string) (em:Bool) (k:ByteArray):(Instr.checkKey em 10000 t (.string k)).run P w=.ok () w:=by
 have hu:=run_underlying (w:=w) ht;show (Instr.checkKey em (9999+1) t (.string k)).run P w=_;unfold Instr.checkKey;simp [hu]
theorem GZ {l:List (ByteArray×Value)} {k:ByteArray}:l.lookup k=none↔k∉l.map (·.1):=by
 induction l with
 | nil=>simp
 | cons y l ih =>
  obtain ⟨y1,y2⟩:=y
  rw [dV]
  by_cases h:k=y1
  ·subst h;simp [p9]
  ·have hb:(k==y1)=false:=rU h
   rw [hb];simp only [bI,bX,not_or]
   exact ⟨fun h2=>⟨h,ih.1 h2⟩,fun h2=>ih.2 h2.2⟩
theorem Oi (l:List (ByteArray×Value)) (k:ByteArray) (v:Value):(s8 l k v).map (·.1)=if (l.lookup k).isNone then l.map (·.1)++[k] else l.map (·.1):=by
 unfold s8;split
 ·simp
 ·rw [jS]
  refine jR fun x _=>?_;show (if x.1=k then (k,v) else x).1=x.1;split
  ·rename_i h;exact h.symm
  ·rfl
theorem Oj {l:List (ByteArray×Value)} (h:xg l) (k:ByteArray) (v:Value):xg (s8 l k v):=by
 unfold xg;rw [Oi];split
 ·rename_i h2
  have h3:k∉l.map (·.1):=GZ.1 (by simpa using h2);rw [gy];refine ⟨h,by simp,fun a ha b hb=>?_⟩;have:b=k:=by simpa using hb
  subst this;exact fun e=>h3 (by rw [<- e];exact ha)
 ·exact h
theorem Ol {l:List (ByteArray×Value)} (h:xg l) {k:ByteArray} (v:Value) {j:Nat} (hj:(l[j]?).map (·.1)=some k):(l.map fun x=>if x.1=k then (k,v) else x)=l.set j (k,v):=by
 apply zv;intro m;have hjl:j<l.length:=by
  cases hlj:l[j]? with
  | none=>rw [hlj] at hj;cases hj
  | some y=>exact (mj.1 hlj).1
 rw [jQ,List.getElem?_set];by_cases e:j=m
 ·subst e
  rw [if_pos rfl,if_pos hjl];rw [gP hjl] at hj ⊢;have h3:(l[j]).1=k:=by simpa using hj
  simp [h3]
 ·rw [if_neg e]
  cases hm:l[m]? with
  | none=>rfl
  | some y =>
   have hml:=(mj.1 hm).1;(have hne:y.1≠k:=fun h4=>by (have h5:(l.map (·.1))[m]? = (l.map (·.1))[j]?:=by rw [jQ,jQ,hm,hj];simp [h4]);(have h6:m<(l.map (·.1)).length:=by simpa using hml);(have h7:j<(l.map (·.1)).length:=by simpa using hjl);rw [gP h6,gP h7] at h5;injection h5 with h5;exact e ((List.getElem_inj h).1 h5).symm);simp [hne]
theorem SMap.made (w:World):SMap (w.alloc (.map #[] 0)) w.heap.size []:=⟨#[],0,(MapKept.heap_alloc w _).1,rfl⟩
theorem SMap.same {w':World} {b:Nat} {l:List (ByteArray×Value)} (h:SMap w b l) (hb:w'.heap[b]? = w.heap[b]?):SMap w' b l:=by
 obtain ⟨es,clock,h1,h2⟩:=h;exact ⟨es,clock,hb.trans h1,h2⟩
theorem SMap.lt {b:Nat} {l:List (ByteArray×Value)} (h:SMap w b l):b<w.heap.size:=by
 obtain ⟨es,clock,h1,_⟩:=h;exact (fW.1 h1).1
theorem Rc {mt t el:TypeId} (hm:P.underlying mt=some (.map t el)) (ht:P.underlying t=some .string) {b:Nat} {l:List (ByteArray×Value)} (h:SMap w b l) (hq:xg l) (k:ByteArray) (v:Value) :
  ∃w',(Instr.mapUpdate mt (.map (some b)) (.string k) v).run P w=.ok () w'/\SMap w' b (s8 l k v)/\w'.heap.size=w.heap.size/\w'.os=w.os/\w'.tape=w.tape/\w'.output=w.output/\∀j,j≠b->w'.heap[j]? = w.heap[j]?:=by
 obtain ⟨es,clock,hb,hl⟩:=h;have hu:=run_underlying (w:=w) hm;have hg:=zF (P:=P) hb;have hbl:=(fW.1 hb).1;rcases EH (w:=w) ht k es.toList l hl with ⟨h1,h2⟩ | ⟨j,v',h1,h5,h2⟩
 ·have hs:=MapKept.run_setObj_map (P:=P) (.map (es.push { key:=.string k,val:=v,born:=clock }) (clock+1)) hb
  refine ⟨{ w with heap:=w.heap.setIfInBounds b (.map (es.push { key:=.string k,val:=v,born:=clock }) (clock+1)) },by simp [Instr.mapUpdate,hu,hg,rV ht,h2,hs],⟨es.push { key:=.string k,val:=v,born:=clock },clock+1,by simp [hbl],?_⟩,by simp,rfl,rfl,rfl,fun j hj=>by simp [Ne.symm hj]⟩;unfold s8;rw [h1];simp [hl]
 ·have hkey:((es[j]?).map (·.key))=some (.string k):=by
   have h8:=congrArg (fun q=>(q[j]?).map (·.1)) hl
   simp only [jQ,Option.map_map] at h8
   have h9:(l[j]?).map (fun x=>Value.string x.1)=some (.string k):=by
    cases hlj:l[j]? with
    | none=>rw [hlj] at h5;cases h5
    | some y=>rw [hlj] at h5;simp at h5;simp [h5]
   have h10:(es.toList[j]?).map (·.key)=(l[j]?).map (fun x=>Value.string x.1):=h8
   rw [<- kH,h10,h9]
  have hst:(Instr.keyThatStays (((es[j]?).map (·.key)).getD (.string k)) (.string k)).run P w=.ok (.string k) w:=by
   rw [hkey]
   have h0:Instr.sameBits 10000 (.string k) (.string k)=true:=by simp [Instr.sameBits,p9]
   show (Instr.keyThatStays (.string k) (.string k)).run P w=_
   unfold Instr.keyThatStays
   rw [if_pos h0];rfl
  have hs:=MapKept.run_setObj_map (P:=P) (.map (es.modify j fun e=>{ e with key:=.string k,val:=v }) clock) hb
  refine ⟨{ w with heap:=w.heap.setIfInBounds b (.map (es.modify j fun e=>{ e with key:=.string k,val:=v }) clock) },by simp [Instr.mapUpdate,hu,hg,rV ht,h2,hst,hs],⟨es.modify j fun e=>{ e with key:=.string k,val:=v },clock,by simp [hbl],?_⟩,by simp,rfl,rfl,rfl,fun m hm=>by simp [Ne.symm hm]⟩
  have hpl:s8 l k v=l.set j (k,v):=by
   unfold s8;rw [h1]
   exact Ol hq v h5
  rw [hpl]
  apply zv
  intro m
  have h8:=congrArg (fun q=>q[m]?) hl
  simp only [jQ] at h8
  rw [jQ,jQ,kH,UY,List.getElem?_set]
  have hjl:j<l.length:=by
   cases hlj:l[j]? with
   | none=>rw [hlj] at h5;cases h5
   | some y=>exact (mj.1 hlj).1
  have VP:j<es.size:=by have:=congrArg List.length hl;simp at this;omega
  by_cases e:j=m
  ·subst e
   rw [if_pos rfl,if_pos rfl,if_pos hjl,Array.getElem?_eq_getElem VP]
   rfl
  ·rw [if_neg e,if_neg e,<- kH];exact h8
theorem Om {mt t el:TypeId} (hm:P.underlying mt=some (.map t el)) (ht:P.underlying t=some .string) {z:Value} (hz:(zeroValue el).run P w=.ok z w) {b:Nat} {l:List (ByteArray×Value)} (h:SMap w b l) (k:ByteArray) :
  (Instr.lookup mt (.map (some b)) (.string k) false).run P w=.ok ((l.lookup k).getD z) w:=by
 obtain ⟨es,clock,hb,hl⟩:=h;have hu:=run_underlying (w:=w) hm;have hg:=zF (P:=P) hb;rcases EH (w:=w) ht k es.toList l hl with ⟨h1,h2⟩ | ⟨j,v',h1,_,h2⟩
 ·simp [Instr.lookup,hu,hg,rV ht,h2,hz,h1]
 ·simp [Instr.lookup,hu,hg,rV ht,h2,h1]
end
end
end Go.Proofs.YthgabkgmkolobaaGreat
