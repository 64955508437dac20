/- Plain: binary trees as rose trees, and their list, sorted by text. Plain laws for .. -/
import Derived.Test.YthgabkgmkolobaaGreatQ46
import Derived.Test.YthgabkgmkolobaaGreatQ47
import Derived.Test.YthgabkgmkolobaaGreatQ45
set_option maxRecDepth 100000
set_option maxHeartbeats 2000000
namespace Go.Proofs.YthgabkgmkolobaaGreat
section
theorem kids_len (r:RT):(cn r).kids.length=r.kids.length:=by rw [xd,(sg _).length_eq,aG]
end
section
end
section
theorem mat4:uE (bZ 4)=0:=by decide +kernel
section
variable {t:az} {st:List Int}
theorem valid16 (h:Valid t st (bZ 4)):Valid t st (bZ 16):=by
 refine ⟨h.tree,Vd,h.len,any_none fun k hk=>?_⟩;have:=st_bd h.good hk;rw [gM] at this ⊢;simp;omega
theorem score_4_16 (h:Valid t st (bZ 4)):dg t st (bZ 16)=dg t st (bZ 4):=by
 have KM:=valid16 h;have ht:=h.tree;have e4:=Gx h;have e16:=Gx KM;have a4:=Kl h;have a16:=Kl KM;rw [gM] at a4 a16;have f16:=CB KM;have f4:=CB h;have a4':yS t.ps.length 16 (jy t st (bZ 4)):=⟨a4.1,fun k hk=>by have:=a4.2 k hk;omega⟩;have l1:=Gw KM (all:=jy t st (bZ 4)) (by rw [gM];exact a4') f4;rw [wK ht a4',<- wK ht a4,e4] at l1;generalize hA:jy t st (bZ 16)=A at *;have zR:∀k,k<t.ps.length->gi (A.map fun x=>if x<4 then x else 0) k=if gi A k<4 then gi A k else 0:=fun k hk=>by
  have:k<A.length:=by rw [a16.1];exact hk
  simp [gi,this]
 have b4:yS t.ps.length 4 (A.map fun x=>if x<4 then x else 0):=⟨by rw [aG];exact a16.1,fun k hk=>by
  have:=a16.2 k hk
  rw [zR k hk];split<;>omega⟩
 have l2:=Gw h (all:=A.map fun x=>if x<4 then x else 0) (by rw [gM];exact b4) (fun i hi h0=>by
  obtain ⟨k,hk,hkn,_⟩:=qi hi;rw [(aF ht).2.2.1] at hkn;have:=f16 i hi h0;have hb:=st_bd h.good (k:=i) (by rw [h.len];exact hi);rw [gM] at hb;rw [hk,cZ] at this ⊢
  rw [zR k hkn,this,if_pos (by omega)])
 rw [wK ht b4] at l2;rw [wK ht a16] at e16
 have l3:=ki (n:=t.ps.length) (f:=fun c=>if 0<c then (if gi (A.map fun x=>if x<4 then x else 0) (gi t.ps c).toNat=gi (A.map fun x=>if x<4 then x else 0) c then 0 else 1) else 0) (g:=fun c=>if 0<c then (if gi A (gi t.ps c).toNat=gi A c then 0 else 1) else 0) (fun c hc=>by
  by_cases h0:0<c
  ·obtain ⟨h1,h2,_⟩:=uJ (aF ht).2.2.2.1 hc
   have:=h2 h0;show (if 0<c then _ else _)<=(if 0<c then _ else _);rw [if_pos h0,if_pos h0];by_cases e:gi A (gi t.ps c).toNat=gi A c
   ·rw [if_pos e,zR _ (by omega),zR c hc,e,if_pos rfl];exact lT _
   ·rw [if_neg e];split<;>omega
  ·show (if 0<c then _ else _)<=(if 0<c then _ else _)
   rw [if_neg h0,if_neg h0];exact lT _)
 omega
end
end
section
open Go.RowKit Go.Deep
theorem cpSame_t (S T:Nat->Prop) (w:World) (bx:Nat) (v P N:Value) (x t:az) (hb:w.cell? ⟨bx,0,none⟩=some P) (hb1:w.cell? ⟨bx,1,none⟩=some N) (hs:aI S w (.agg #[P,N]) t) (h:aI T w v x) (hn:x.ps.length<=1000000) (hm:x.ns.length<=1000000) :
  Calls Tryz.prog 36 #[v,.pointer (some ⟨bx,0,none⟩)] w fun e w'=>e=.returned (.bool (decide (x=t)))/\Up w w':=by
 obtain ⟨P1,N1,rfl,hP,hN⟩:=h;obtain ⟨pp,pc,rfl,-,-⟩:=ay.open hP;obtain ⟨np,nc,rfl,-,-⟩:=ay.open hN;have hu:=Up.alloc w (.cells #[.slice pp x.ps.length pc,.slice np x.ns.length nc] 39);obtain ⟨q0,q1,-,-⟩:=boxed (gp (w:=w) (P:=.slice pp x.ps.length pc) (N:=.slice np x.ns.length nc) (T:=39));have HST:=aa (AO T S _ _ _ x t (aI.keep ⟨_,_,rfl,hP,hN⟩ (hu.kept T)) (hs.keep (hu.kept S)) hn hm);have c0:=hu.cell hb;have c1:=hu.cell hb1;obtain ⟨P2,N2,e2,lD,mD⟩:=hs;obtain ⟨p2,d2,rfl,-,-⟩:=ay.open lD;obtain ⟨n2,m2,rfl,-,-⟩:=ay.open mD;injection e2 with e2
 simp only [Array.mk.injEq,List.cons.injEq,and_true] at e2;obtain ⟨rfl,rfl⟩:=e2;have HU:=aa hu;generalize decide (x=t)=r at *;clear hb hb1 hP hN lD mD hu
 go_enter Tryz.func36,Tryz.ntmps36
 go_wp2_with fail;refine HST.out.mono ?_;rintro e w' ⟨rfl,aK⟩;have bD:=aa (HU.out.trans aK);clear aK;go_wp2_with fail;go_ret;exact ⟨rfl,bD.out⟩
end
section
theorem Xl:∀r:BT ByteArray,∀s∈bH (eF r),s.kids.length=0\/s.kids.length=2
 | .leaf x,s,hs=>by
  rw [eF,bH,eZ,dP] at hs
  subst hs;exact .inl rfl
 | .node a b,s,hs=>by
  rw [eF,bH,eZ,eZ,eZ,gN,aW,dV] at hs
  rcases hs with rfl | hs | hs
  ·exact .inr rfl
  ·exact Xl a s hs
  ·exact Xl b s hs
section
variable {aac:List ByteArray} {q:RT} {i:Nat}
theorem all_two (hq:q∈cI aac):∀s∈bH q,s.kids.length=0\/s.kids.length=2:=fun s hs=>by
 obtain ⟨r,hr,rfl⟩:=F3.1 hq
 obtain ⟨u,hu,rfl⟩:=cm.1 ((nG _).mem_iff.1 hs)
 rw [kids_len]
 exact Xl _ u hu
theorem node_sub34 {t:az} (h:aH t=0) {i:Nat} (hi:i<t.ps.length):bB (fJ t) (dU t) i∈bH (iZ t):=by
 rw [oo h];exact List.mem_map_of_mem ((tS h).mem_iff.2 (bh.2 hi))
theorem Ym {t:az} (h:aH t=0) {i:Nat} (hi:i<t.ps.length):bB (fJ t) (dU t) i=.node (gs t.ns i) ((bq t.ps i).map (bB (fJ t) (dU t))):=by
 rw [fO (eu h).wf hi,iY];rfl
theorem flat_two34 (hn:gT aac) (hq:q∈cI aac) (hi:i<(flat q).ps.length):(bq (flat q).ps i).length=0\/(bq (flat q).ps i).length=2:=by
 obtain ⟨_,_,_,_,h5,_⟩:=jU hn hq;have h1:=node_sub34 h5 hi;rw [vE] at h1;have h2:=all_two hq _ h1;rw [Ym h5 hi] at h2;simpa [RT.kids] using h2
end
end
section
section
variable {t:az}
theorem yU {ps:List Int} (hp:k8 ps=true) {i k:Nat} (hik:i<=k):∀(d j:Nat),j<=d->j<ps.length->ew ps i j=true->ew ps k j=true->ew ps i k=true
 | d,j,hd,hj,h1,h2=>by
  have hkj:=uO hp hj h2
  by_cases e:j=k
  ·subst e;exact h1
  ·obtain ⟨p0,pj⟩:=jb hp hj (by omega)
   rw [rM hp hj (by omega)] at h1 h2
   cases d with
   | zero=>omega
   | succ d=>exact yU hp hik d (gi ps j).toNat (by omega) (by omega) h1 h2
theorem CD (h:aH t=0):∀(d i:Nat),t.ps.length - i<=d->i<t.ps.length->∃j,j<t.ps.length/\ew t.ps i j=true/\(gs t.ns j).size≠0
 | 0,i,hd,hi=>by omega
 | d+1,i,hd,hi=>by
  obtain ⟨_,_,hl,hok,hne⟩:=aF h
  by_cases c:isIn t.ps i=true
  ·unfold isIn Ht at c
   obtain ⟨k,hk,e⟩:=eO.1 c
   have hk:k<t.ps.length:=bh.1 hk
   rw [gD,decide_eq_true_eq,beq_iff_eq] at e
   obtain ⟨p0,p1⟩:=jb hok hk e.1
   obtain ⟨j,h1,h2,h3⟩:=CD h d k (by omega) hk
   exact ⟨j,h1,(EM hok h1).2 (.inr ⟨k,hk,by omega,e.2,h2⟩),h3⟩
  ·exact ⟨i,hi,x7 i,jR (QK (hne i hi) (by simpa using c)).1⟩
end
def mG (t:az) (n:Nat):Nat->List ByteArray
 | 0=>[]
 | m+1=>mG t n m++if ew t.ps n m&&decide ((gs t.ns m).size≠0) then [gs t.ns m] else []
theorem Qb (t:az) (n:Nat):∀m,(mG t n m).length<=m
 | 0=>af _
 | m+1=>by
  rw [mG,aZ]
  have:=Qb t n m
  split<;>simp<;>omega
theorem Ks {t:az} {n:Nat} {x:ByteArray}:∀ {m:Nat},x∈mG t n m↔∃j,j<m/\ew t.ps n j=true/\(gs t.ns j).size≠0/\gs t.ns j=x
 | 0=>by simp [mG]
 | m+1=>by
  rw [mG,dV,Ks (m:=m)]
  constructor
  ·rintro (⟨j,h1,h2⟩ | h)
   ·exact ⟨j,by omega,h2⟩
   ·split at h
    ·rename_i hc
     rw [gD,decide_eq_true_iff] at hc
     exact ⟨m,by omega,hc.1,hc.2,(dP.1 h).symm⟩
    ·cases h
  ·rintro ⟨j,h1,h2,h3,h4⟩
   by_cases e:j=m
   ·subst e
    right
    rw [if_pos (by rw [gD,decide_eq_true_iff];exact ⟨h2,h3⟩),dP];exact h4.symm
   ·exact .inl ⟨j,by omega,h2,h3,h4⟩
def CE (t:az) (aac:List ByteArray) (i k:Nat):Int:=if gs aac i∈mG t k t.ns.length then 1 else 0
def lQ (bits m:Nat):List Nat:=(List.range m).filter fun k=>decide (0<k)&&bits.testBit (k % 16)
theorem MA (bits m:Nat):lQ bits (m+1)=lQ bits m++if 0<m/\bits.testBit (m % 16)=true then [m] else []:=by
 unfold lQ;rw [rX,vg];congr 1;by_cases h:0<m/\bits.testBit (m % 16)=true
 ·rw [if_pos h];simp [h.1,h.2]
 ·rw [if_neg h]
  rw [JQ]
  ·rfl
  ·rw [gD,decide_eq_true_iff];exact h
theorem Qc (bits:Nat):∀m,(lQ bits m).length<=m:=fun m=>by
 unfold lQ
 have:=pG (fun k=>decide (0<k)&&bits.testBit (k % 16)) (List.range m)
 rwa [wP] at this
def rC (t:az) (aac:List ByteArray) (bits m i:Nat):List Int:=(lQ bits m).map (CE t aac i)
def Ad (t:az) (aac:List ByteArray) (bits m:Nat):List (List Int):=(List.range aac.length).map (rC t aac bits m)
theorem Kt (t:az) (aac:List ByteArray) (bits m:Nat):(Ad t aac bits m).length=aac.length:=by simp [Ad]
theorem Fl {t:az} {aac:List ByteArray} {bits m i:Nat} (hi:i<aac.length):gl (Ad t aac bits m) i=rC t aac bits m i:=by simp [Ad,gl,hi]
theorem yA (t:az) (aac:List ByteArray) (bits m i:Nat):(rC t aac bits m i).length=(lQ bits m).length:=by simp [rC]
theorem cpX_01 (t:az) (aac:List ByteArray) (i k:Nat):CE t aac i k=0\/CE t aac i k=1:=by
 unfold CE;split<;>simp
theorem cpR_gi {t:az} {aac:List ByteArray} {bits m i p:Nat} (hp:p<(lQ bits m).length):gi (rC t aac bits m i) p=CE t aac i ((lQ bits m).getD p 0):=by simp [rC,gi,hp]
section
variable {t:az} {aac:List ByteArray} {bits m:Nat}
theorem cp_ok (hn:gT aac) (hm:m<=4096):mR aac (Ad t aac bits m):=by
 have hlo:=hn.lo;have hhi:=hn.hi;have h0:gl (Ad t aac bits m) 0=rC t aac bits m 0:=Fl (by omega);have qV:=Qc bits m;refine ⟨hn,?_,Kt _ _ _ _⟩;unfold fo;rw [Kt,h0,yA,if_neg (by omega),if_neg (by omega)];refine cR fun i hi=>?_;unfold pR;rw [Fl hi,yA,h0,yA,if_neg (by simp),if_neg];rw [Bool.not_eq_true];unfold mH;refine any_none fun p hp=>?_;rw [yA] at hp;rw [cpR_gi hp];rcases cpX_01 t aac i ((lQ bits m).getD p 0) with e | e<;>rw [e]<;>decide
theorem chN_at {p:Nat} (hp:p<(lQ bits m).length):0<(lQ bits m).getD p 0/\(lQ bits m).getD p 0<m:=by
 have h1:(lQ bits m).getD p 0∈lQ bits m:=by simp [hp]
 unfold lQ at h1 ⊢;obtain ⟨h2,h3⟩:=fL.1 h1;rw [gD,decide_eq_true_iff] at h3;exact ⟨h3.1,bh.1 h2⟩
theorem cp_lvS (hn:gT aac) (ho:dK t aac) {i k:Nat} (hi:i<aac.length):gs aac i∈mG t k t.ns.length↔(i:Int)∈cu t aac k:=by
 obtain ⟨_,_,hnl,_,_⟩:=aF ho.te;rw [Ks,nP];constructor
 ·rintro ⟨j,h1,h2,h3,h4⟩
  exact ⟨by omega,by omega,j,by omega,h2,h3,by rw [h4];exact sR hn.Ve hi⟩
 ·rintro ⟨_,_,j,h1,h2,h3,h4⟩
  obtain ⟨b,hb,e1,e2⟩:=zm ho h1 h3;rw [e2] at h4;obtain rfl:b=i:=by omega
  exact ⟨j,by omega,h2,h3,e1.symm⟩
theorem char_hit (ho:dK t aac) {k:Nat} (kW:0<k) (gz:k<t.ps.length) {st:List Int} (hst:∀b:Nat,b<aac.length->gi st b=if (b:Int)∈cu t aac k then 1 else 0):dg t (nu t aac st (aD t.ns).length) (bZ 16)<=1:=by
 have hte:=ho.te;obtain ⟨jW,DR,hnl,hok,_⟩:=aF hte;have hval:∀j,j<(aD t.ns).length->∃v b:Nat,gi (aD t.ns) j=(v:Int)/\v<t.ps.length/\(gs t.ns v).size≠0/\b<aac.length/\iD aac (gs t.ns v)=(b:Int)/\gi (nu t aac st (aD t.ns).length) j=gi st b:=fun j hj=>by obtain ⟨v,hv,uM,hv0⟩:=qi hj;obtain ⟨b,hb,_,e⟩:=zm ho (show v<t.ps.length by omega) hv0;exact ⟨v,b,hv,by omega,hv0,hb,e,by rw [A7 hj,hv,cZ,e,cZ]⟩
 have hV:Valid t (nu t aac st (aD t.ns).length) (bZ 4):=⟨hte,mat4,qp _ _ _ _,by
  unfold mH;rw [qp];refine any_none fun j hj=>?_;obtain ⟨v,b,_,_,_,hb,_,e⟩:=hval j hj;rw [e,gM,hst b hb]
  split<;>decide⟩
 have h416:=score_4_16 hV;have zR:∀v,v<t.ps.length->gi ((List.range t.ps.length).map fun v=>if ew t.ps k v then (1:Int) else 0) v=if ew t.ps k v then 1 else 0:=fun v hv=>by simp [gi,hv]
 have hall:yS t.ps.length 4 ((List.range t.ps.length).map fun v=>if ew t.ps k v then (1:Int) else 0):=⟨by simp,fun v hv=>by
  rw [zR v hv];split<;>omega⟩
 have hle:=Gw hV (all:=(List.range t.ps.length).map fun v=>if ew t.ps k v then (1:Int) else 0) (by rw [gM];exact hall) (fun j hj _=>by
  obtain ⟨v,b,e1,hv,hv0,hb,e2,e3⟩:=hval j hj;rw [e1,cZ,zR v hv,e3,hst b hb];have hh:=Km ho (k:=k) hv hv0 hb e2;by_cases c:ew t.ps k v=true
  ·rw [if_pos c,if_pos (hh.1 c)]
  ·rw [if_neg c,if_neg fun q=>c (hh.2 q)])
 rw [wK hte hall] at hle
 have hle2:=ki (n:=t.ps.length) (f:=fun c=>if 0<c then (if gi ((List.range t.ps.length).map fun v=>if ew t.ps k v then (1:Int) else 0) (gi t.ps c).toNat=gi ((List.range t.ps.length).map fun v=>if ew t.ps k v then (1:Int) else 0) c then 0 else 1) else 0) (g:=fun c=>if c=k then 1 else 0) (fun c hc=>by
  show (if 0<c then _ else (0:Int))<=(if c=k then 1 else 0);by_cases c0:0<c
  ·rw [if_pos c0]
   by_cases ck:c=k
   ·rw [if_pos ck];split<;>omega
   ·have hpar:=jb hok hc c0
    rw [if_neg ck,zR c hc,zR _ (by omega),PU hok hc c0 ck,if_pos rfl];exact lT _
  ·rw [if_neg c0];split<;>omega)
 rw [vw,if_pos gz] at hle2;rw [h416];omega
theorem node_part {q:RT} (hn:gT aac) (hq:q∈cI aac) {k:Nat} (kW:0<k) (hk:k<(flat q).ps.length):(∃i,i<aac.length/\gs aac i∈mG (flat q) k (flat q).ns.length)/\∃i,i<aac.length/\gs aac i∉mG (flat q) k (flat q).ns.length:=by
 obtain ⟨_,h2,_,_,h5,_⟩:=jU hn hq;have ho:=of_flat hn h5 h2;obtain ⟨jW,_,hnl,hok,_⟩:=aF h5;have hnm:∀j,j<(flat q).ps.length->(gs (flat q).ns j).size≠0->∃i,i<aac.length/\gs aac i=gs (flat q).ns j:=ho.has;constructor
 ·obtain ⟨j,j1,j2,j3⟩:=CD h5 _ k (af _) hk
  obtain ⟨i,hi,e⟩:=hnm j j1 j3;exact ⟨i,hi,Ks.2 ⟨j,by omega,j2,j3,e.symm⟩⟩
 ·have h2k:=flat_two34 hn hq jW
  have hk1:(bq (flat q).ps 0).length=2:=by
   refine h2k.resolve_left fun e=>?_;have e:bq (flat q).ps 0=[]:=oJ e;obtain ⟨p0,pk⟩:=jb hok hk kW
   -- the node above k that hangs from the root
   have key:∀d c:Nat,c<=d->0<c->c<(flat q).ps.length->False:=fun d=>by
    induction d with
    | zero=>intro c h1 h2 _;omega
    | succ d ih =>
     intro c h1 h2 h3;obtain ⟨p0,pc⟩:=jb hok h3 h2;by_cases z:gi (flat q).ps c=0
     ·have:c∈bq (flat q).ps 0:=cD.2 ⟨h3,h2,by rw [z];rfl⟩
      rw [e] at this;cases this
     ·exact ih (gi (flat q).ps c).toNat (by omega) (by omega) (by omega)
   exact key k k (af _) kW hk
  obtain ⟨c1,c2,hks⟩:∃c1 c2,bq (flat q).ps 0=[c1,c2]:=by
   match hkk:bq (flat q).ps 0,hk1 with
   | [a,b],_=>exact ⟨a,b,rfl⟩
  have fe:=(eu h5).nodup 0 jW;rw [iY,hks] at fe;have hne:c1≠c2:=fun e=>by rw [e] at fe;simp at fe
  obtain ⟨a1,a2,a3⟩:=cD.1 (show c1∈bq (flat q).ps 0 by rw [hks];simp);obtain ⟨b1,b2,b3⟩:=cD.1 (show c2∈bq (flat q).ps 0 by rw [hks];simp);refine tK fun hall=>?_;have hin:∀j,j<(flat q).ps.length->(gs (flat q).ns j).size≠0->ew (flat q).ps k j=true:=fun j hj hj0=>by obtain ⟨i,hi,e⟩:=hnm j hj hj0;have hm:gs aac i∈mG (flat q) k (flat q).ns.length:=tK fun hc=>hall ⟨i,hi,hc⟩;obtain ⟨j',j1,j2,j3,j4⟩:=Ks.1 hm;have:j'=j:=eL.inj (⟨h5,hj,hj0⟩:eL (flat q) j) (by omega) hj j3 (by rw [j4,e]);rw [<- this];exact j2
  have fT:∀c,c<(flat q).ps.length->0<c->gi (flat q).ps c=0->c<=k/\ew (flat q).ps c k=true:=fun c h1 h2 h3=>by
   obtain ⟨v,v1,v2,v3⟩:=CD h5 _ c (af _) h1;have hkv:=hin v v1 v3;by_cases uI:c<=k
   ·exact ⟨uI,yU hok uI v v (af _) v1 v2 hkv⟩
   ·have hkc:ew (flat q).ps k c=true:=yU hok (by omega) v v (af _) v1 hkv v2
    rw [rM hok h1 (by omega),h3] at hkc;have:=uO hok jW hkc;omega
  obtain ⟨u1,u2⟩:=fT c1 a1 a2 a3;obtain ⟨w1,w2⟩:=fT c2 b1 b2 b3;have key:∀a b,a<b->b<(flat q).ps.length->0<a->gi (flat q).ps b=0->ew (flat q).ps a k=true->ew (flat q).ps b k=true->False:=fun a b hab hb ha hpb h1 h2=>by have h3:ew (flat q).ps a b=true:=yU hok (by omega) k k (af _) hk h1 h2;rw [rM hok hb (by omega),hpb] at h3;have:=uO hok jW h3;omega
  rcases Nat.lt_or_gt_of_ne hne with hlt | hlt
  ·exact key c1 c2 hlt b1 a2 b3 u2 w2
  ·exact key c2 c1 hlt a1 b2 a3 w2 u2
end
theorem MB {f:Nat->Int}:∀ {n:Nat},(∀p,p<n->f p=1)->bJ f n=n
 | 0,_=>rfl
 | n+1,h=>by
  rw [fD,MB fun p hp=>h p (by omega),h n (by omega)];omega
theorem O0 {aac:List ByteArray} {t:az} (hn:gT aac) (ht:t∈allT aac) (bits:Nat) :
  mR aac (Ad t aac bits t.ps.length)/\lI (Ad t aac bits t.ps.length)=(lQ bits t.ps.length).length/\bz t aac (Ad t aac bits t.ps.length)=(lQ bits t.ps.length).length/\cB aac (Ad t aac bits t.ps.length)=(lQ bits t.ps.length).length/\t∈eE aac (Ad t aac bits t.ps.length):=by
 obtain ⟨ho,q,hq,rfl⟩:=mM hn ht;have hlo:=hn.lo;obtain ⟨_,DR,hnl,_,_⟩:=aF ho.te;obtain ⟨S,hS⟩:∃S,S=Ad (flat q) aac bits (flat q).ps.length:=⟨_,rfl⟩;have hc:mR aac S:=by rw [hS];exact cp_ok hn (by omega)
 have hw:(gl S 0).length=(lQ bits (flat q).ps.length).length:=by rw [hS,Fl (by omega),yA]
 have hcol:∀p,p<(gl S 0).length->∀i,i<aac.length->gi (bg S p) i=CE (flat q) aac i ((lQ bits (flat q).ps.length).getD p 0):=fun p hp i hi=>by rw [r7 _ _ (by rw [hc.len];exact hi),hS,Fl hi,cpR_gi (by omega)]
 have hb1:∀p,p<(gl S 0).length->1<=lH S p:=fun p hp=>by
  obtain ⟨k0,k1⟩:=chN_at (bits:=bits) (m:=(flat q).ps.length) (p:=p) (by omega);obtain ⟨⟨i,hi,hi1⟩,j,hj,hj1⟩:=node_part hn hq k0 k1;have fe:([1,0]:List Int).Nodup:=by simp
  have hmem:∀i,i<aac.length->gi (bg S p) i∈bg S p:=fun i hi=>mq (by rw [gC,hc.len];exact hi);have:2<=JF S p:=by
   unfold JF;have h:=CI fe (l₂:=dd (eN (bg S p))) fun y hy=>by
    rw [mE,ua];simp only [aW,qD,or_false] at hy;rcases hy with rfl | rfl
    ·have e:=hcol p hp i hi
     unfold CE at e;rw [if_pos hi1] at e;exact ⟨by rw [<- e];exact hmem i hi,by decide⟩
    ·have e:=hcol p hp j hj
     unfold CE at e;rw [if_neg hj1] at e;exact ⟨by rw [<- e];exact hmem j hj,by decide⟩
   simpa using h
  unfold lH;rw [if_neg (by omega)];omega
 have hs1:∀p,p<(gl S 0).length->dg (flat q) (iN (flat q) aac S p) (bZ 16)<=1:=fun p hp=>by
  obtain ⟨k0,k1⟩:=chN_at (bits:=bits) (m:=(flat q).ps.length) (p:=p) (by omega);refine char_hit ho k0 k1 fun b hb=>?_;rw [hcol p hp b hb];unfold CE;by_cases e:gs aac b∈mG (flat q) ((lQ bits (flat q).ps.length).getD p 0) (flat q).ns.length
  ·rw [if_pos e,if_pos ((cp_lvS hn ho hb).1 e)]
  ·rw [if_neg e,if_neg fun h=>e ((cp_lvS hn ho hb).2 h)]
 have hsle:bz (flat q) aac S<=((gl S 0).length:Int):=by unfold bz;have:=ki (n:=(gl S 0).length) (f:=fun p=>dg (flat q) (iN (flat q) aac S p) (bZ 16)) (g:=fun _=>1) hs1;rw [MB (f:=fun _=>1) fun _ _=>rfl] at this;exact this
 have hble:((gl S 0).length:Int)<=lI S:=by unfold lI;have:=ki (n:=(gl S 0).length) (f:=fun _=>(1:Int)) (g:=lH S) hb1;rw [MB (f:=fun _=>1) fun _ _=>rfl] at this;exact this
 have h1:=Ed hc;have h2:=(sk hc).1 _ ht;rw [hw] at hsle hble;rw [<- hS];refine ⟨hc,by omega,by omega,by omega,fL.2 ⟨ht,decide_eq_true (by omega)⟩⟩
end
section
open Go.RowKit Go.Deep
def Xm (w:World) (t:az) (n:Nat) (e:Ending) (w':World):Prop:=Up w w'/\∃v,e=.returned v/\ax w.heap.size 9 w' v ((mG t n t.ns.length).map Value.string)
theorem below34_t (S:Nat->Prop) (w:World) (v:Value) (t:az) (n:Nat) (h:aI S w v t) (hp:k8 t.ps=true) (hl:t.ns.length=t.ps.length) (hn:n<=64) (hz:t.ps.length<=64) :
  Calls Tryz.prog 34 #[v,.int .i64 n] w (Xm w t n):=by
 obtain ⟨P,N,rfl,hP,hN⟩:=h;obtain ⟨pp,pc,rfl,_,_⟩:=ay.open hP;obtain ⟨np,nc,rfl,_,_⟩:=ay.open hN;have hP:ah S w (.slice pp t.ps.length pc) t.ps:=hP;have hN:au S w (.slice np t.ns.length nc) t.ns:=hN;have hu:=Up.alloc w (.cells #[.slice pp t.ps.length pc,.slice np t.ns.length nc] 39);have a0:=iU w (.slice pp t.ps.length pc) (.slice np t.ns.length nc) 39;have a1:=iV w (.slice pp t.ps.length pc) (.slice np t.ns.length nc) 39;have HP:=aa (ah.keep hP (hu.kept S));have HN:=aa (au.keep hN (hu.kept S));have HU:=aa hu;have A0:=aa a0;have iu:=aa hl
 have xB:=aa hp;have fA:Hid (t.ns.length<=64):=by unfold Hid;omega
 have i0:(0:Int)<=(n:Int):=by omega
 clear hP hN hu hl hp
 go_enter Tryz.func34,Tryz.ntmps34
 go_wp2_with fail;clear a0 a1;generalize w.alloc (.cells #[.slice pp t.ps.length pc,.slice np t.ns.length nc] 39)=w1 at *
 go_loopw [5,6,7,8,12] (fun d _ _ _ i wr=>∃m:Nat,m<=t.ns.length/\i=.int .i64 m/\Hid (ax w1.heap.size 9 wr d ((mG t n m).map Value.string))/\Hid (Up w1 wr)) (fun _ _ _ _ i _=>t.ns.length - (intOf i).toNat)
 case atStart=>exact ⟨0,aL _,rfl,ax.nil _ _ _,Up.refl _⟩
 case round =>
  obtain ⟨m,hm,rfl,hD,dY⟩:=hrel;obtain ⟨wo,rfl⟩:∃wo:World,wo=wr:=⟨_,rfl⟩;obtain ⟨d,rfl⟩:∃d:Value,d=u5:=⟨_,rfl⟩;have a0:=dY.out.cell A0.out;by_cases hlt:m<t.ns.length
  ·have hK:mG t n (m+1)=mG t n m++if (ew t.ps n m&&decide ((gs t.ns m).size≠0))=true then [gs t.ns m] else []:=by rw [mG]
   obtain ⟨b,off,rfl,hcell⟩:=dr (au.keep HN.out (dY.out.kept S)) hlt;(have j1:(0:Int)<=(m:Int):=by omega);(have j2:(m:Int)<(t.ns.length:Int):=by omega);(have j5:(m:Int)<64:=by have:=fA.out;omega);have HK:=aa hK;have bu:=aa hlt;have jw:=aa dY.out;have HDW:=aa hD.out;have HLEN:=aa (Qb t n m);have HHB:Hid (ew t.ps n m=decide (oK t.ps n m m=n)):=rfl;clear hK hm hlt dY hD;generalize gs t.ns m=s at *;go_wp2_with fail;clear hcell
   go_loop [8] (fun q=>∃k:Nat,k<=m/\q=.int .i64 k/\Hid (oK t.ps n k k=oK t.ps n m m)) (fun q=>(intOf q).toNat)
   case atStart=>exact ⟨m,af _,rfl,rfl⟩
   case round =>
    obtain ⟨k,hk,rfl,hc⟩:=hrel;by_cases hnk:n<k
    ·have gz:k<t.ps.length:=by have:=bu.out;have:=iu.out;omega
     have hpar:=jb xB.out gz (by omega);have hst:=FZ xB.out gz hnk;obtain ⟨b,off,rfl,hcell⟩:=dG (ah.keep HP.out (jw.out.kept S)) gz;(have d1:decide ((n:Int)<(k:Int))=true:=by simp;omega);(have d2:decide ((k:Int)<(t.ps.length:Int))=true:=by simp;omega);(have j3:(0:Int)<=(k:Int):=by omega);(have j4:(k:Int)<(t.ps.length:Int):=by omega);obtain ⟨p,hp⟩:∃p:Nat,gi t.ps k=p:=⟨(gi t.ps k).toNat,(Int.toNat_of_nonneg hpar.1).symm⟩;rw [hp] at hcell hpar hst;(have HST:Hid (oK t.ps n p p=oK t.ps n m m):=by unfold Hid;rw [<- hc.out,hst];rfl);have hpk:p<k:=by omega
     clear hpar hst hp hc;go_wp2_with fail
     go_round
     case rel=>exact ⟨p,by omega,rfl,HST⟩
     case measure=>simp [intOf];omega
    ·have d1:decide ((n:Int)<(k:Int))=false:=by simp;omega
     have uI:=hc.out;rw [tR hnk] at uI;(have HHK:Hid (ew t.ps n m=decide (k=n)):=by unfold Hid;rw [HHB.out,<- uI]);clear hc uI a0;have ue:((mG t n m).map Value.string).length=(mG t n m).length:=aG _;(have hl6:(mG t n m).length<=1000000:=by have:=HLEN.out;have:=bu.out;have:=fA.out;omega);have hwz:=jw.out.size;have gG:=aa ue;have gu:=aa hl6;clear ue hl6;by_cases e1:k=n
     ·have d3:((k:Int)==(n:Int))=true:=by simp [e1]
      have HE:=aa e1;clear e1;by_cases e2:s.size≠0
      ·have d5:¬s.toList=[]:=fun q=>e2 ((toList_nil s).1 q)
       (have d4:(s.toList==[])=false:=by simpa using d5);(have zv:Hid (mG t n (m+1)=mG t n m++[s]):=by unfold Hid;rw [HK.out,HHK.out,HE.out];simp [e2]);clear e2 d5;go_wp2_with (at_builtin;refine Lr wo rfl _ _ 22 rfl w1.heap.size 9 (.string ⟨#[]⟩) 16 Tryz.underlying22 Tryz.kR rfl (by decide) HDW.out rfl (.string s) _ rfl rfl rfl _ gG.out gu.out hwz ?_;intro g8 oz w8 hown1 hgr1 o7)
       go_roundw
       case rel=>exact ⟨m+1,bu.out,by go_num,by unfold Hid;rw [zv.out,cg,cK,wQ];exact hown1,iH jw.out o7⟩
       case measure=>have:=bu.out;simp [intOf];omega
      ·have d5:s.toList=[]:=(toList_nil s).2 (by simpa using e2)
       (have d4:(s.toList==[])=true:=by rw [d5];rfl);(have zv:Hid (mG t n (m+1)=mG t n m):=by unfold Hid;rw [HK.out];simp [e2]);clear e2 d5;go_wp2_with fail
       go_roundw
       case rel=>exact ⟨m+1,bu.out,by go_num,by unfold Hid;rw [zv.out];exact HDW.out,jw.out⟩
       case measure=>have:=bu.out;simp [intOf];omega
     ·have d3:((k:Int)==(n:Int))=false:=by simp;omega
      (have zv:Hid (mG t n (m+1)=mG t n m):=by unfold Hid;rw [HK.out,HHK.out];simp [e1]);clear e1;go_wp2_with fail
      go_roundw
      case rel=>exact ⟨m+1,bu.out,by go_num,by unfold Hid;rw [zv.out];exact HDW.out,jw.out⟩
      case measure=>have:=bu.out;simp [intOf];omega
  ·obtain rfl:m=t.ns.length:=by omega
   have HDW:=aa hD.out;have jw:=aa dY.out;clear hD dY a0;go_wp2_with fail;go_ret;exact ⟨HU.out.trans jw.out,d,rfl,HDW.out.y8 HU.out.size⟩
theorem Xn {ts:List az} (h:∀t∈ts,t.ps.length<=1000000/\t.ns.length<=1000000) (k:Nat):(gt ts k).ps.length<=1000000/\(gt ts k).ns.length<=1000000:=by
 by_cases hk:k<ts.length
 ·exact h _ (pZ hk)
 ·have:gt ts k=⟨[],[]⟩:=by simp [gt,hk]
  rw [this];exact ⟨aL _,aL _⟩
end
end Go.Proofs.YthgabkgmkolobaaGreat
