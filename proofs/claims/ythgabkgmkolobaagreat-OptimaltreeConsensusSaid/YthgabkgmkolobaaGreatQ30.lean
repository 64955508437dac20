/- The splits of the tree of splits are .. -/
import Derived.Test.YthgabkgmkolobaaGreatQ29
set_option maxRecDepth 100000
set_option maxHeartbeats 1000000
namespace Go.Proofs.YthgabkgmkolobaaGreat
section
section
variable {amd:List ByteArray} {t:ax} {S:Nat->List Int} {l:List (List Int)}
theorem acd (h:∀j k,j<k->k<amd.length->gs amd k≠gs amd j):amd.Nodup :=
 mY.2 fun i j hi hj hij e=>h i j hij hj (by simp [gs,hi,hj,e])
theorem bB.Zh (h:bB amd t S):(bM (jE t)).Perm amd:=by
 refine (Eo h.QI.nd (acd h.nd)).2 fun y=>?_;have h1:=h.leaves _ 0 (ah _) h.n0 y;constructor
 ·intro hy
  obtain ⟨b,hb,rfl⟩:=h1.1 hy;have hb:=(h.bd 0 h.n0).1 _ hb;have hb:b<amd.length:=by omega
  simp [gs,hb]
 ·intro hy
  obtain ⟨b,hb,e⟩:=F3.1 hy;exact h1.2 ⟨b,h.top b hb,by simp [gs,hb,e]⟩
theorem UE (ht:aA t=0) (hp:(sF t.ns).Perm amd) (hle:amd.length<=32) (iF:∀j k,j<k->k<amd.length->gs amd k≠gs amd j):jG t amd:=by
 obtain ⟨_,_,hl,_,_⟩:=aH ht;refine ⟨ht,hle,iF,by rw [M3,hp.length_eq],fun j hj h0=>?_⟩;obtain ⟨b,hb,e⟩:=F3.1 (hp.mem_iff.1 (Uj.2 ⟨j,by omega,rfl,h0⟩));exact ⟨b,hb,by rw [<- e];simp [gs,hb]⟩
theorem bB.ace (h:bB amd t S) (hle:amd.length<=32):jG (kW t) amd :=
 UE (aew h.tree) ((YJ h.tree).trans ((x9 h.tree).symm.trans h.Zh)) hle h.nd
theorem bB.Ww (h:bB amd t S) (hle:amd.length<=32):jG t amd :=
 UE h.tree ((x9 h.tree).symm.trans h.Zh) hle h.nd
theorem bB.splits (h:bB amd t S) (hle:amd.length<=32) (ha:∀i,i<t.ps.length->(S i).Pairwise (· < ·)) {s:List Int} :
  s∈dP (kW t) amd↔Dn amd.length s/\∃i,i<t.ps.length/\s=cu amd.length (S i):=by
 rw [zB (h.ace hle),aa5 h.tree];constructor
 ·rintro ⟨h1,q,hq,X,hX,bX,hL,rfl⟩
  obtain ⟨u,hu,rfl⟩:=bI.1 ((ny _).mem_iff.1 hq);obtain ⟨i,hi,hi2⟩:=h.parts.1 u hu;have:=Kb h.nd hX (ha i hi) bX (h.bd i hi).1 hL (T7 hi2);exact ⟨h1,i,hi,by rw [this]⟩
 ·rintro ⟨h1,i,hi,rfl⟩
  obtain ⟨u,hu,aI⟩:=h.parts.2 i hi;exact ⟨h1,bJ u,(ny _).mem_iff.2 (bI.2 ⟨u,hu,rfl⟩),S i,ha i hi,(h.bd i hi).1,T7 aI,rfl⟩
theorem Tf (t:ax) (amd:List ByteArray):(dP t amd).Pairwise AJ:=by
 unfold dP;split
 ·exact sX _
 ·exact List.Pairwise.nil
theorem Rm (hn:amd.length<4):dP t amd=[]:=by
 by_cases h:cF t amd=0
 ·rw [FX]
  intro s hs;have:=((zB (oD.1 h)).1 hs).1.len;omega
 ·unfold dP;rw [if_neg h]
theorem iZ.few (h:iZ amd l) (hn:amd.length<4):l=[]:=by
 rw [FX];intro s hs;have:=(h.AW s hs).len;omega
theorem acf (h:iZ amd l) (h1:amd.length=1):bB amd ⟨[-1],[gs amd 0]⟩ (fun _=>[0]):=by
 refine ⟨h.nm,h.nd,by simp,by simp,rfl,rfl,fun b hb=>?_,fun i hi=>?_,fun i h0 hi=>?_,fun i j hi hj _ _=>?_,fun b hb=>?_,fun i hi=>?_,fun i hi=>by simp⟩
 ·have:b=0:=by omega
  subst this;simp
 ·exact ⟨fun x hx=>by have:x=0:=(by simpa using hx);omega,by simp⟩
 ·exact absurd hi (by simp;omega)
 ·simp at hi hj;omega
 ·have:b=0:=by omega
  subst this;exact ⟨0,by simp,rfl⟩
 ·have:i=0:=by simp at hi;omega
  subst this;rfl
def lJ (i:Nat):List Int:=if i=0 then [0,1] else if i=1 then [0] else [1]
theorem IK (h:iZ amd l) (h2:amd.length=2):bB amd ⟨[-1,0,0],[ByteArray.empty,gs amd 0,gs amd 1]⟩ lJ:=by
 have c3:∀i,i<([-1,0,0]:List Int).length->i=0\/i=1\/i=2:=fun i hi=>by simp at hi;omega
 refine ⟨h.nm,h.nd,by simp,by simp,rfl,rfl,fun b hb=>?_,fun i hi=>?_,fun i h0 hi=>?_,fun i j hi hj hij hji=>?_,fun b hb=>?_,fun i hi=>?_,fun i hi=>?_⟩
 ·have:b=0\/b=1:=by omega
  rcases this with rfl | rfl<;>simp [lJ]
 ·rcases c3 i hi with rfl | rfl | rfl
  ·exact ⟨fun x hx=>by have:x=0\/x=1:=(by simpa [lJ] using hx);omega,by simp [lJ]⟩
  ·exact ⟨fun x hx=>by have:x=0:=(by simpa [lJ] using hx);omega,by simp [lJ]⟩
  ·exact ⟨fun x hx=>by have:x=1:=(by simpa [lJ] using hx);omega,by simp [lJ]⟩
 ·have:i=1\/i=2:=by have:=c3 i hi;omega
  refine ⟨0,by omega,by rcases this with rfl | rfl<;>rfl,fun x hx=>?_,fun j hj hji hs=>?_⟩
  ·rcases this with rfl | rfl
   ·have:x=0:=by simpa [lJ] using hx
    subst this;simp [lJ]
   ·have:x=1:=by simpa [lJ] using hx
    subst this;simp [lJ]
  ·rcases c3 j hj with rfl | rfl | rfl
   ·exact fun x hx=>hx
   ·have:i=2:=by omega
    subst this;have:=hs 1 (by simp [lJ]);simp [lJ] at this
   ·have:i=1:=by omega
    subst this;have:=hs 0 (by simp [lJ]);simp [lJ] at this
 ·rcases c3 i hi with rfl | rfl | rfl<;>rcases c3 j hj with rfl | rfl | rfl<;>first | rfl | (simp [lJ] at hij hji)
 ·have:b=0\/b=1:=by omega
  rcases this with rfl | rfl
  ·exact ⟨1,by simp,rfl⟩
  ·exact ⟨2,by simp,rfl⟩
 ·rcases c3 i hi with rfl | rfl | rfl<;>rfl
 ·rcases c3 i hi with rfl | rfl | rfl<;>simp [lJ]
theorem Wx (h:iZ amd l) (h3:3<=amd.length) (hsm:3+(aJ l).length+(amd.length - 1)<=64):dP (kW (bT amd (aJ l))) amd=wX l:=by
 have hS:=Dw h h3 hsm;have hlen:(bT amd (aJ l)).ps.length=3+(aJ l).length+(amd.length - 1):=Rl;refine Lj (Tf _ _) (sX l) fun s=>?_;rw [hS.splits h.le (fun i hi=>(h.kind h3 (by omega)).1.1),zw];constructor
 ·rintro ⟨h1,i,hi,rfl⟩
  have h2:=h1.len;obtain ⟨⟨k1,k2⟩,k3⟩:=h.kind h3 (i:=i) (by omega);rcases k3 with ⟨rfl,k4⟩ | ⟨rfl,k4,k5⟩ | ⟨rfl,k4⟩ | ⟨k,hk,rfl,k6,k4,k5⟩ | ⟨b,b1,b2,rfl,k5,k4⟩
  ·exfalso
   (have h4:cu amd.length (bS amd (aJ l) 0)=[]:=by rw [show bS amd (aJ l) 0=allI amd.length from rfl];unfold cu;rw [if_pos (dU.2 (mF.2 (by omega))),FX];intro x hx;obtain ⟨x0,xn,hx⟩:=nD.1 hx;exact hx (mF.2 ⟨x0,xn⟩));rw [h4] at h2;simp at h2
  ·exfalso
   rw [k5] at h2;have h4:cu amd.length [0]=bG amd.length [0]:=rfl;rw [h4] at h2;have:=rE (n:=amd.length) (by omega);omega
  ·exfalso
   (have h4:cu amd.length (bS amd (aJ l) 2)=bS amd (aJ l) 2:=by unfold cu;rw [if_neg];intro e;have:=jH.1 (dU.1 e);omega);rw [h4] at h2;omega
  ·have ho:=h.own hk
   (have h4:cu amd.length (bS amd (aJ l) (3+k))=gl (aJ l) k:=by rw [k6];unfold cu;rw [if_neg];intro e;have:=ho.bd _ (dU.1 e);omega);rw [h4];exact rD.1 (lI hk)
  ·exfalso
   (have h4:cu amd.length (bS amd (aJ l) (2+(aJ l).length+b))=[(b:Int)]:=by rw [k5];unfold cu;rw [if_neg];intro e;(have:(0:Int)=b:=by simpa using dU.1 e);omega);rw [h4] at h2;simp at h2
 ·intro hs
  refine ⟨h.AW s hs,?_⟩;obtain ⟨k,hk,rfl⟩:=Ds (rD.2 hs);refine ⟨3+k,by omega,?_⟩;rw [lq hk];unfold cu;rw [if_neg];intro e;have:=(h.own hk).bd _ (dU.1 e);omega
theorem Rn (h:iZ amd l) (hsm:3+(aJ l).length+(amd.length - 1)<=64):jG (zG amd l) amd/\dP (zG amd l) amd=wX l:=by
 unfold zG;have hp:=h.pos;by_cases h1:amd.length=1
 ·rw [if_pos h1]
  refine ⟨(acf h h1).Ww h.le,?_⟩;rw [Rm (by omega),h.few (by omega)];rfl
 rw [if_neg h1];by_cases h2:amd.length=2
 ·rw [if_pos h2]
  refine ⟨(IK h h2).ace h.le,?_⟩;rw [Rm (by omega),h.few (by omega)];rfl
 rw [if_neg h2];exact ⟨(Dw h (by omega) hsm).ace h.le,Wx h (by omega) hsm⟩
end
end
section
def Ro (a b:Nat):Int:=if a=b then 0 else 1
def r5 (n a:Nat):List Int:=(List.range n).map (Ro a)
def eE (n:Nat):List (List Int):=(List.range n).map (r5 n)
theorem BI (n a:Nat):(r5 n a).length=n:=by simp [r5]
theorem tU (n:Nat):(eE n).length=n:=by simp [eE]
theorem Wy {n a b:Nat} (h:b<n):gi (r5 n a) b=Ro a b:=by simp [gi,r5,h]
theorem acg {n a:Nat} (h:a<n):gl (eE n) a=r5 n a:=by simp [gl,eE,h]
end
section
def dd:List Int->List Int
 | []=>[]
 | x::l=>if x∈dd l then dd l else x::dd l
theorem CC {x:Int}:∀ {l:List Int},x∈dd l↔x∈l
 | []=>Iff.rfl
 | y::l=>by
  unfold dd
  split
  ·rename_i h
   rw [CC (l:=l),bA]
   exact ⟨.inr,fun h2=>h2.elim (fun e=>by rw [e];exact CC.1 h) id⟩
  ·rw [bA,bA,CC (l:=l)]
theorem zH:∀l:List Int,(dd l).Nodup
 | []=>List.nodup_nil
 | y::l=>by
  unfold dd
  split
  ·exact zH l
  ·rename_i h;exact qu.2 ⟨h,zH l⟩
end
section
theorem aha:ud (eE 16)=0:=by decide +kernel
theorem aiM {st:List Int} {m:Int} (h:rR st (-1) m=false) {k:Nat} (hk:k<st.length):-1<=gi st k/\gi st k<m:=by
 have:=any_false h hk;simp at this;omega
theorem Zi {l:List Int} {x:Int} (h:x∈l):∃k,k<l.length/\gi l k=x:=by
 obtain ⟨k,hk,e⟩:=F3.1 h;exact ⟨k,hk,by simp [gi,hk,e]⟩
section
variable {t:ax} {st:List Int}
def fP (st:List Int):List Int:=st.filter fun s=>decide (0<=s)
end
end
section
def uM (t:ax) (amd:List ByteArray) (st:List Int) (n:Nat):List Int:=(List.range n).map fun j=>gi st (dD amd (gs t.ns (gi (ay t.ns) j).toNat)).toNat
theorem zI (t:ax) (amd:List ByteArray) (st:List Int) (n:Nat):(uM t amd st n).length=n:=by simp [uM]
theorem aeX {t:ax} {amd:List ByteArray} {st:List Int} {n j:Nat} (h:j<n):gi (uM t amd st n) j=gi st (dD amd (gs t.ns (gi (ay t.ns) j).toNat)).toNat:=by simp [uM,gi,h]
theorem Zj (t:ax) (amd:List ByteArray) (st:List Int) (n:Nat):uM t amd st (n+1)=uM t amd st n++[gi st (dD amd (gs t.ns (gi (ay t.ns) n).toNat)).toNat]:=by simp [uM,List.range_succ]
section
variable {t:ax} {amd:List ByteArray} {st:List Int}
theorem Zk (h:jG t amd) {v:Nat} (hv:v<t.ps.length) (h0:(gs t.ns v).size≠0):∃b:Nat,b<amd.length/\gs amd b=gs t.ns v/\dD amd (gs t.ns v)=(b:Int):=by
 obtain ⟨b,hb,e⟩:=h.has v hv h0;exact ⟨b,hb,e,by rw [<- e];exact tj h.nd hb⟩
end
end
section
section
variable {t:ax} {st:List Int} {cs:List (List Int)} {leaf:Nat}
theorem Tg {ns:List ByteArray} {j:Nat} (hj:j<ns.length) (h0:(gs ns j).size≠0):0<=mj ns j:=by
 have hm:(j:Int)∈ay ns:=lK.2 ⟨j,rfl,hj,h0⟩;obtain ⟨i,hi,e⟩:=Zi hm;unfold mj;have:=iK (fun i=>decide ((j:Int)=gi (ay ns) i)) (ay ns).length;rw [wC hi (decide_eq_true e.symm)] at this;exact of_decide_eq_true this
end
end
section
def fW (ame:List (List Int)) (p:Nat):List Int:=ame.map fun r=>gi r p
def pM (t:ax) (amd:List ByteArray) (ame:List (List Int)) (p:Nat):List Int:=uM t amd (fW ame p) (ay t.ns).length
def jT (t:ax) (amd:List ByteArray) (ame:List (List Int)):Int:=eA (fun p=>fK t (pM t amd ame p) (eE 16)) (gl ame 0).length
def gW (amd:List ByteArray) (i:Nat):Int:=if bq (gs amd i).data.toList then (if cW amd i then 7 else 0) else 14
def eL (amd:List ByteArray):Int:=if amd.length<2\/7<amd.length then 4 else bf (gW amd) amd.length
def mJ (amd:List ByteArray) (ame:List (List Int)):Int:=if eL amd≠0 then eL amd else if kz ame≠0 then 1 else if ame.length≠amd.length then 9 else 0
def mV (t:ax) (amd:List ByteArray):Bool:=decide ((ay t.ns).length=amd.length)&&!kN t amd
def Ed (f:Nat->Int):Nat->Int
 | 0=>-1
 | k+1=>if Ed f k<0\/f k<Ed f k then f k else Ed f k
def gt (l:List ax) (k:Nat):ax:=l.getD k ⟨[],[]⟩
def qd (amd:List ByteArray) (ame:List (List Int)):Int:=Ed (fun k=>jT (gt (allT amd) k) amd ame) (allT amd).length
def Dx (amd:List ByteArray) (ame:List (List Int)):List ax:=(allT amd).filter fun t=>decide (jT t amd ame=qd amd ame)
theorem ach (f:Nat->Int) (k:Nat):Ed f (k+1)=if Ed f k<0\/f k<Ed f k then f k else Ed f k:=rfl
theorem Dy {amd:List ByteArray} (h5:amd.length<=5):eL amd=0↔nQ amd:=by
 unfold eL;constructor
 ·intro h
  split at h
  ·cases h
  ·rename_i h1
   have h2:=iC h;have hn:∀i,i<amd.length->bq (gs amd i).data.toList=true/\cW amd i=false:=fun i hi=>by
    have:=h2 i hi;unfold gW at this;cases e1:bq (gs amd i).data.toList<;>rw [e1] at this
    ·cases this
    ·cases e2:cW amd i<;>rw [e2] at this
     ·exact ⟨rfl,rfl⟩
     ·cases this
   refine ⟨by omega,h5,fun x hx=>?_,?_⟩
   ·obtain ⟨i,hi,rfl⟩:=rQ hx
    have:=(hn i hi).1;simpa [gs,hi] using this
   ·refine mY.2 fun i j hi hj hij e=>?_
    have:=(hn j hj).2;unfold cW at this;have:=any_false this hij;rw [decide_eq_false_iff_not] at this;exact this (by simp [gs,hi,hj,e])
 ·intro h
  rw [if_neg (by have:=h.lo;omega)];refine cG fun i hi=>?_;unfold gW;have h1:gs amd i=amd[i]:=by simp [gs,hi]
  rw [h1,h.nm _ (jy hi),if_pos rfl,if_neg];rw [Bool.not_eq_true];refine any_none fun j hj=>?_;rw [decide_eq_false_iff_not,h1];intro e;have h2:=mY.1 h.nd j i (by omega) hi hj;exact h2 (by simpa [gs,show j<amd.length by omega] using e)
theorem aeY {ns:List ByteArray} {n j:Nat} (hn:ns.length=n) (hj:j<n) (h0:(gs ns j).size≠0):(mj ns j).toNat<(ay ns).length/\gi (ay ns) (mj ns j).toNat=j:=Eu (Tg (by omega) h0)
theorem nQ.ahb {amd:List ByteArray} (h:nQ amd):∀j k,j<k->k<amd.length->gs amd k≠gs amd j:=fun j k hjk hk e=>by
 have h2:=mY.1 h.nd j k (by omega) hk hjk
 exact h2 (by simpa [gs,hk,show j<amd.length by omega] using e.symm)
theorem Kn {t:ax} {amd:List ByteArray} (h:nQ amd) (ht:aA t=0):mV t amd=true↔jG t amd:=by
 obtain ⟨_,_,hnl,_,_⟩:=aH ht;unfold mV;rw [eF,decide_eq_true_iff,zV];constructor
 ·rintro ⟨h1,h2⟩
  refine ⟨ht,by have:=h.hi;omega,h.ahb,h1,fun j hj hj0=>?_⟩;obtain ⟨p1,p2⟩:=aeY hnl hj hj0;have:=any_false h2 p1;rw [p2,decide_eq_false_iff_not] at this;exact Gf.1 (by rw [fc] at this;omega)
 ·intro ho
  refine ⟨ho.len,any_none fun j hj=>?_⟩;rw [decide_eq_false_iff_not];obtain ⟨v,hv,tJ,hv0⟩:=vg hj;rw [hv,fc];have:=Gf.2 (ho.has v (by omega) hv0);omega
theorem Wz {ame:List (List Int)} (h:kz ame=0):0<ame.length/\(∀k,k<ame.length->(gl ame k).length=(gl ame 0).length/\∀p,p<(gl ame 0).length -> -1<=gi (gl ame k) p/\gi (gl ame k) p<16):=by
 unfold kz at h;split at h
 ·cases h
 ·rename_i h0
  split at h
  ·cases h
  ·refine ⟨by omega,fun k hk=>?_⟩
   have:=iC h k hk;unfold Af at this;split at this
   ·cases this
   ·rename_i h1
    split at this
    ·cases this
    ·rename_i h2
     (have h1:(gl ame k).length=(gl ame 0).length:=by omega);refine ⟨h1,fun p hp=>aiM (by simpa using h2) (by omega)⟩
structure IL (amd:List ByteArray) (ame:List (List Int)):Prop where
 nm:nQ amd
 ag:kz ame=0
 len:ame.length=amd.length
theorem aci {amd:List ByteArray} {ame:List (List Int)} (h5:amd.length<=5):mJ amd ame=0↔IL amd ame:=by
 unfold mJ;constructor
 ·intro h
  split at h
  ·rename_i h1;exact absurd h h1
  ·rename_i h1
   split at h
   ·cases h
   ·rename_i h2
    split at h
    ·cases h
    ·rename_i h3
     exact ⟨(Dy h5).1 (by omega),by omega,by omega⟩
 ·intro h
  rw [if_neg (by rw [(Dy h5).2 h.nm];simp),if_neg (by rw [h.ag];simp),if_neg (by rw [h.len];simp)]
theorem Rp (ame:List (List Int)) (p:Nat) {k:Nat} (hk:k<ame.length):gi (fW ame p) k=gi (gl ame k) p:=by simp [gi,fW,gl,hk]
section
variable {t u:ax} {amd:List ByteArray} {ame:List (List Int)}
theorem Fw (hc:IL amd ame) (h:jG t amd) {p:Nat} (hp:p<(gl ame 0).length):Valid t (pM t amd ame p) (eE 16):=by
 refine ⟨h.te,aha,zI _ _ _ _,?_⟩;unfold rR pM;rw [zI];refine any_none fun j hj=>?_;obtain ⟨v,hv,tJ,hv0⟩:=vg hj;obtain ⟨_,_,hnl,_,_⟩:=aH h.te;obtain ⟨b,hb,_,e⟩:=Zk h (show v<t.ps.length by omega) hv0;rw [aeX hj,hv,fc,e,fc,Rp _ _ (by rw [hc.len];exact hb)];have:=((Wz hc.ag).2 b (by rw [hc.len];exact hb)).2 p hp;rw [tU,zW,decide_eq_false_iff_not,decide_eq_false_iff_not];omega
theorem of_flat (hn:nQ amd) {q:RT} (ht:aA (flat q)=0) (hq:(bM q).Perm amd):jG (flat q) amd:=by
 have h1:(sF (flat q).ns).Perm amd:=by have:=x9 ht;rw [vw] at this;exact this.symm.trans hq
 refine ⟨ht,by have:=hn.hi;omega,hn.ahb,by rw [M3,h1.length_eq],fun j hj hj0=>?_⟩;obtain ⟨_,_,hnl,_,_⟩:=aH ht;have hm:gs (flat q).ns j∈amd:=h1.mem_iff.1 (Uj.2 ⟨j,by omega,rfl,hj0⟩);obtain ⟨b,hb,e⟩:=rQ hm;exact ⟨b,hb,by simp [gs,hb] at e ⊢;exact e⟩
theorem UF (hn:nQ amd) (ht:t∈allT amd):jG t amd/\∃q∈gV amd,t=flat q:=by
 obtain ⟨q,hq,rfl⟩:=bI.1 ht;obtain ⟨_,h2,_,_,h5,_⟩:=rY hn hq;exact ⟨of_flat hn h5 h2,q,hq,rfl⟩
theorem Zl {l:List ax} {k:Nat} (h:k<l.length):gt l k∈l:=by simp [gt,h]
end
end
section
open Go.RowKit Go.Deep
def fQ (S:Nat->Prop) (w:World) (v:Value) (ts:List ax):Prop :=
 ∃p cap,v=.slice p ts.length cap/\ts.length<=cap/\(ts.length=0\/∃b off,p=some ⟨b,off,none⟩/\S b/\∀k,k<ts.length->∃P N,w.cell? ⟨b,off+k*2,none⟩=some P/\w.cell? ⟨b,off+k*2+1,none⟩=some N/\aG S w (.agg #[P,N]) (gt ts k))
theorem fQ.keep {S:Nat->Prop} {w w':World} {v:Value} {ts:List ax} (h:fQ S w v ts) (k:Kept S w w'):fQ S w' v ts:=by
 obtain ⟨p,cap,rfl,hn,h⟩:=h;refine ⟨p,cap,rfl,hn,?_⟩;rcases h with h | ⟨b,off,rfl,hS,h⟩
 ·exact .inl h
 ·refine .inr ⟨b,off,rfl,hS,fun i hi=>?_⟩
  obtain ⟨P,N,h1,h2,h3⟩:=h i hi;have hlt:b<w.heap.size:=dL w _ h1;have hc:∀o,w'.cell? ⟨b,o,none⟩=w.cell? ⟨b,o,none⟩:=fun o=>cU (a:=⟨b,o,none⟩) (k b hS hlt);exact ⟨P,N,(hc _).trans h1,(hc _).trans h2,h3.keep k⟩
theorem nH {S:Nat->Prop} {w:World} {v:Value} {ts:List ax} (h:fQ S w v ts):∃p cap,v=.slice p ts.length cap/\ts.length<=cap:=by
 obtain ⟨p,cap,e,hn,_⟩:=h;exact ⟨p,cap,e,hn⟩
theorem fQ.nil (S:Nat->Prop) (w:World):fQ S w (.slice none 0 0) []:=⟨none,0,rfl,ah _,.inl rfl⟩
theorem oW {S:Nat->Prop} {w:World} {p:Option Addr} {n cap:Nat} {ts:List ax} (h:fQ S w (.slice p n cap) ts) {k:Nat} (hk:k<ts.length) :
  ∃b off pp pc np nc,p=some ⟨b,off,none⟩/\w.cell? ⟨b,off+k*2,none⟩=some (.slice pp (gt ts k).ps.length pc)/\w.cell? ⟨b,off+k*2+1,none⟩=some (.slice np (gt ts k).ns.length nc)/\aG S w (.agg #[.slice pp (gt ts k).ps.length pc,.slice np (gt ts k).ns.length nc]) (gt ts k):=by
 obtain ⟨q,c,e,_,h⟩:=h;injection e with e1;subst e1;rcases h with h | ⟨b,off,rfl,_,h⟩
 ·omega
 ·obtain ⟨P,N,h1,h2,h3⟩:=h k hk
  obtain ⟨P1,N1,e,hP,hN⟩:=h3;injection e with e;have e1:P=P1/\N=N1:=by simpa using e
  obtain ⟨rfl,rfl⟩:=e1;obtain ⟨pp,pc,rfl,_,_⟩:=aq.open hP;obtain ⟨np,nc,rfl,_,_⟩:=aq.open hN;exact ⟨b,off,pp,pc,np,nc,rfl,h1,h2,_,_,rfl,hP,hN⟩
abbrev tH:=(Value×Value)×ax
def Dz (x:tH):List Value:=[x.1.1,x.1.2]
def rF (es:List tH):List Value:=es.flatMap Dz
def Ee (es:List tH) (k:Nat):tH:=es.getD k ((undef,undef),⟨[],[]⟩)
theorem Th (es:List tH) (x:tH):rF (es++[x])=rF es++Dz x:=by unfold rF;rw [qq];simp
theorem ND:∀(es:List tH) (k:Nat),k<es.length->(rF es)[k*2]? = some (Ee es k).1.1/\(rF es)[k*2+1]? = some (Ee es k).1.2
 | [],k,h=>absurd h (aZ _)
 | x::es,0,_=>by simp [rF,Dz,Ee]
 | x::es,k+1,h=>by
  have ih:=ND es k (by simpa using h)
  have e:(k+1)*2=k*2+1+1:=by omega
  have e2:Ee (x::es) (k+1)=Ee es k:=by simp [Ee]
  have e3:rF (x::es)=x.1.1::x.1.2::rF es:=by simp [rF,Dz]
  rw [e2,e3,e]
  simp only [F2]
  exact ih
def qM (base:Nat) (w:World) (v:Value) (es:List tH):Prop :=
 w.ownsRow base 39 2 v es.length (rF es)/\∀x∈es,aG (fun b=>some b≠v.ownBlock) w (.agg #[x.1.1,x.1.2]) x.2
theorem qM.nil (base:Nat) (w:World):qM base w (.slice none 0 0) []:=⟨World.ownsRow_nil _ _ _ _,fun _ h=>by cases h⟩
theorem qM.up {base:Nat} {w w':World} {v:Value} {es:List tH} (h:qM base w v es) (hu:Up w w'):qM base w' v es :=
 ⟨Ny h.1 fun b hb=>bH hu b (sJ h.1 b hb).2,fun x hx=>(h.2 x hx).keep (hu.kept _)⟩
theorem qM.form {base:Nat} {w:World} {v:Value} {es:List tH} (h:qM base w v es):∃p c,v=.slice p es.length c:=by
 rcases h.1.2 with ⟨e,h0⟩ | ⟨g,cap,cur,e,_⟩
 ·exact ⟨none,0,by rw [e,h0]⟩
 ·exact ⟨_,_,e⟩
theorem aeZ {es:List tH} {k:Nat} (h:k<es.length):Ee es k∈es:=by simp [Ee,h]
theorem qM.trees {base:Nat} {w:World} {v:Value} {es:List tH} (h:qM base w v es):fQ Any w v (es.map (·.2)):=by
 obtain ⟨ho,hT⟩:=h;have hgt:∀k,k<es.length->gt (es.map (·.2)) k=(Ee es k).2:=fun k hk=>by simp [gt,Ee,hk]
 rcases ho.2 with ⟨e,h0⟩ | ⟨g,cap,cur,e,hg,hc,hn,hcm,hcs,ht⟩
 ·have Jl:es.length=0:=h0
  have:es=[]:=od Jl;subst this;subst e;exact fQ.nil _ _
 ·subst e
  refine ⟨_,cap,by rw [aD],by rw [aD];exact hn,.inr ⟨g,0,rfl,trivial,fun k hk=>?_⟩⟩;rw [aD] at hk;rw [hgt k hk];obtain ⟨c0,c1⟩:=ND es k hk;refine ⟨(Ee es k).1.1,(Ee es k).1.2,?_,?_,(hT _ (aeZ hk)).sub fun _ _ _=>trivial⟩
  ·rw [je,ho.cellAt (k*2) (by omega)];exact c0
  ·rw [je,ho.cellAt (k*2+1) (by omega)];exact c1
section
variable {P:Program} {ops:Array Oper} {rest:List Oper} {o:Oper} {a:Act} {Q:Exit->Act->World->Prop}
theorem Rq (W:World) (hgd:o.guard=none) (s x:Operand) (t:TypeId) (ho:o.op=.call { callee:=.builtin .append,args:=#[s,x],argTypes:=#[t,t] })
  (base:Nat) (z:Value) (bytes:Nat) (ht:P.underlying t=some (.slice 39)) (hinfo:(P.info? 39).map (fun i=>(i.zero,i.size,i.bytes))=some (some z,2,bytes))
  (hz1:z.cells.size=2) (lN:bytes<=64) {v:Value} {es:List tH} (hown:qM base W v es) (hs:a.eval s=v) (G:tH)
  (hx:a.eval x=.slice (some ⟨W.heap.size,0,none⟩) 1 1) (hu:aG (fun b=>some b≠v.ownBlock) W (.agg #[G.1.1,G.1.2]) G.2) (n:Nat) (ug:es.length=n) (hn:n<=1000000) (hbase:base<=W.heap.size)
  (h:∀g cap w',qM base w' (.slice (some ⟨g,0,none⟩) (n+1) cap) (es++[G])->W.grownBy w' v.ownBlock->Below base W w'->wpList P ops Q rest (a.put o.dst (.slice (some ⟨g,0,none⟩) (n+1) cap)) w') :
  wpList P ops Q (o::rest) a (W.alloc (.cells #[G.1.1,G.1.2] 39)):=by
 subst ug;obtain ⟨i,hi,hzz⟩:=jR.1 hinfo;simp only [kX] at hzz;obtain ⟨hz,hs1,hb⟩:=hzz;obtain ⟨hown,hrows⟩:=hown;have h1:G.1.1.oneCell'=true/\G.1.2.oneCell'=true:=by
  obtain ⟨P1,N1,e,hP,hN⟩:=hu;injection e with e;have e1:G.1.1=P1/\G.1.2=N1:=by simpa using e
  obtain ⟨p,c,e2,_⟩:=aq.open hP;obtain ⟨q,d,e3,_⟩:=aq.open hN;rw [e1.1,e1.2,e2,e3];exact ⟨rfl,rfl⟩
 refine wpList_append_lies _ hgd s x t ho base 39 i z 2 bytes ht hi hz hs1 hb hz1 (by omega) v es.length (rF es) hs (hown.alloc _) ⟨W.heap.size,0,none⟩ 1 1 (Dz G) hx rfl ?_ (fun q hq=>by
  unfold Dz at hq;rcases bA.1 hq with e | hq
  ·subst e;exact h1.1
  ·rw [cN.1 hq];exact h1.2) (by omega)
  (by unfold maxLen;omega) ?_ (by simp;omega) _ rfl fun g cap w' h2 h3 h4 _=>?_
 ·intro j u' hj
  match j with
  | 0 =>
   (obtain rfl:G.1.1=u':=by simpa [Dz] using hj);exact aS W _ _ 0
  | 1 =>
   (obtain rfl:G.1.2=u':=by simpa [Dz] using hj);exact aS W _ _ 1
  | j+2=>simp [Dz] at hj
 ·have:(es.length+1)*bytes<=(es.length+1)*64:=qO _ lN
  omega
 ·have hg:=lM h3
  have Hu:∀b:Nat,some b≠v.ownBlock->b<W.heap.size->some b≠(Value.slice (some ⟨g,0,none⟩) (es.length+1) cap).ownBlock:=fun b hb hlt e=>by
   simp only [Value.ownBlock,B3] at e;rcases h4 with h4 | h4
   ·exact hb (by rw [h4,e])
   ·rw [aQ] at h4;omega
  have hkeep:∀ {u':Value} {y':ax},aG (fun b=>some b≠v.ownBlock) W u' y'->aG (fun b=>some b≠(Value.slice (some ⟨g,0,none⟩) (es.length+1) cap).ownBlock) w' u' y':=fun hi'=>by obtain ⟨P1,N1,e,hP,hN⟩:=hi';have k:Kept (fun b=>some b≠v.ownBlock/\b<W.heap.size) W w':=fun b hb hlt=>hg.block b hlt hb.1;exact ⟨P1,N1,e,(af.keep (hP.sub fun b hb hlt=>⟨hb,hlt⟩) k).sub fun b hb _=>Hu b hb.1 hb.2,(aj.keep (hN.sub fun b hb hlt=>⟨hb,hlt⟩) k).sub fun b hb _=>Hu b hb.1 hb.2⟩
  refine h g cap w' ⟨by rw [bg,Th];exact h2,fun x hx=>?_⟩ hg (Below.grown (cM _ _) hg hbase fun k hk=>(sJ hown k hk).1);rcases ey.1 hx with hx | hx
  ·exact hkeep (hrows x hx)
  ·rw [cN.1 hx];exact hkeep hu
end
theorem Tryz.infoTree:(Tryz.prog.info? 39).map (fun i=>(i.zero,i.size,i.bytes))=some (some (.agg #[.slice none 0 0,.slice none 0 0]),2,48):=by kernel_rfl
end
section
open Go.ChangeShapes Go.WideShapes Go.ChangeAt Go.RowKit Go.Deep
def WA (l:List ax):Prop:=l.length<=9223372036854775807/\∀k,(gt l k).ps.length<=9223372036854775807/\(gt l k).ns.length<=9223372036854775807/\∀j,(gs (gt l k).ns j).size<=9223372036854775807
instance:Inhabited ax:=⟨⟨[],[]⟩⟩
section
variable {H:Type} {enc:TypeId×Value->H} {W:World}
theorem Ti {fuel:Nat} {v:Value} {x:DataW H×List MemPlace} (h:DataW.trod enc Tryz.prog W 0 (fun _=>true) true fuel 33 [v]=some x):∃l:List ax,fQ Any W v l/\WA l:=by
 rcases open_slice Tryz.underlying33 h with ⟨hcs,_⟩ | ⟨a,l,c,m,n,D,Pl,hcs,_,hl,hm,hmm,_,hx⟩
 ·obtain rfl:v=.slice none 0 0:=by simpa using hcs
  exact ⟨[],fQ.nil _ _,by simp,fun k=>by simp [gt,gs]⟩
 ·obtain rfl:v=.slice (some a) l c:=by simpa using hcs
  simp only [if_true] at hmm;have hC:Tryz.prog.cellsOf 39=2:=by kernel_rfl
  have hCI:Tryz.prog.cellsOf 26=1:=by kernel_rfl
  have hCS:Tryz.prog.cellsOf 22=1:=by kernel_rfl
  rw [hC] at hx;have hone:∀i,i<l->∃t:ax,(∃P N,W.cell? (a.add (i*2))=some P/\W.cell? (a.add (i*2+1))=some N/\aG Any W (.agg #[P,N]) t)/\t.ps.length<=9223372036854775807/\t.ns.length<=9223372036854775807/\∀j,(gs t.ns j).size<=9223372036854775807:=fun i hi=>by
   obtain ⟨cs',h1,h2⟩:=hx i (by omega);obtain ⟨_,hlen,hcell⟩:=World.cells?_some h1
   match cs',hlen with
   | [c0,c1],_ =>
    obtain ⟨y0,y1,n',_,_,t0,t1⟩:=trod_struct2 Tryz.underlying39 h2;(have t0':DataW.trod enc Tryz.prog W 0 (fun _=>true) true n' 26 [c0]=some y0:=by simpa [hCI] using t0);(have t1':DataW.trod enc Tryz.prog W 0 (fun _=>true) true n' 22 [c1]=some y1:=by simpa [hCS] using t1);obtain ⟨ps,hp,hpl⟩:=VC t0';obtain ⟨ns,hn,hnl,B7⟩:=Jv t1';have k0:=hcell 0 (by omega);have k1:=hcell 1 (by omega);rw [add_add] at k0 k1;exact ⟨⟨ps,ns⟩,⟨c0,c1,by simpa using k0,by simpa using k1,c0,c1,rfl,hp,hn⟩,hpl,hnl,B7⟩
  obtain ⟨f,hf⟩:=choose_lt hone;have hlen:((List.range l).map f).length=l:=by simp
  have uW:∀k,k<l->gt ((List.range l).map f) k=f k:=fun k hk=>by simp [gt,hk]
  refine ⟨(List.range l).map f,⟨some a,c,by rw [hlen],by rw [hlen];exact hl,?_⟩,by rw [hlen];exact yl (aB hl hm),fun k=>?_⟩
  ·by_cases h0:l=0
   ·exact .inl (by rw [hlen];exact h0)
   ·obtain ⟨b,off,spot⟩:=a
    (have hspot:spot=none:=by obtain ⟨P,N,h1,_⟩:=(hf 0 (by omega)).1;have:=World.cell?_spot h1;simpa [Addr.add] using this);subst hspot;refine .inr ⟨b,off,rfl,trivial,fun k hk=>?_⟩;rw [hlen] at hk;rw [uW k hk];obtain ⟨⟨P,N,h1,h2,h3⟩,_⟩:=hf k hk;simp only [add_plain] at h1 h2;exact ⟨P,N,h1,by rw [Nat.add_assoc];exact h2,h3⟩
  ·by_cases hk:k<l
   ·rw [uW k hk];exact (hf k hk).2
   ·have:gt ((List.range l).map f) k=⟨[],[]⟩:=by simp [gt,hk]
    rw [this];simp [gs]
structure CD (W:World) (v:Value) (amd:List ByteArray) (ame:List (List Int)) (ts:List ax) (sc:Int):Prop where
 ex:∃V0 V1 V2,v=.agg #[V0,V1,V2,.int .i64 sc]/\aj Any W V0 amd/\aT Any W V1 ame/\fQ Any W V2 ts
 n:amd.length<=9223372036854775807/\∀k,(gs amd k).size<=9223372036854775807
 s:ame.length<=9223372036854775807/\∀k,(gl ame k).length<=9223372036854775807
 t:WA ts
 sc:-9223372036854775808<=sc/\sc<=9223372036854775807
theorem Zm {v:Value} {d:DataW H} {p:List MemPlace} {base:Nat} (hv:Value.okWide Tryz.prog W .any base 69 v) (h:DataW.Trod enc Tryz.prog W 0 (fun _=>true) true 69 v d p) :
  ∃amd ame ts sc,CD W v amd ame ts sc:=by
 obtain ⟨c0,c1,c2,c3,y0,y1,y2,y3,m,rfl,_,_,h0,h1,h2,h3⟩:=Joins.open_agg4 Tryz.underlying69 (by kernel_rfl) (by kernel_rfl) hv h;obtain ⟨ns,hn,hnl,B7⟩:=Jv h0;obtain ⟨xs,hx,hxl,hxs⟩:=VD h1;obtain ⟨ts,ht,hts⟩:=Ti h2;obtain ⟨n3,e3,_,w3⟩:=DataW.trod_int Tryz.underlying3 h3;obtain rfl:c3=.int .i64 n3:=by simpa using e3
 exact ⟨ns,xs,ts,n3,⟨⟨c0,c1,c2,rfl,hn,hx,ht⟩,⟨hnl,B7⟩,⟨hxl,hxs⟩,hts,bounds_i64 w3⟩⟩
end
end
section
open Go.RowKit Go.Deep
def pQ (s:ByteArray):ax:=⟨[-1],[s]⟩
theorem ahc (w:World) (s:ByteArray):aG Any ((w.alloc (.cells #[.int .i64 (-1)] 3)).alloc (.cells #[.string s] 9)) (.agg #[.slice (some ⟨w.heap.size,0,none⟩) 1 1,.slice (some ⟨w.heap.size+1,0,none⟩) 1 1]) (pQ s):=by
 refine ⟨_,_,rfl,⟨_,1,rfl,ah _,.inr ⟨_,0,rfl,trivial,fun k hk=>?_⟩⟩,⟨_,1,rfl,ah _,.inr ⟨_,0,rfl,trivial,fun k hk=>?_⟩⟩⟩
 ·obtain rfl:k=0:=by have:(pQ s).ps.length=1:=rfl;omega
  refine (Up.alloc (w.alloc (.cells #[.int .i64 (-1)] 3)) _).cell ?_;have h:=ng w (Obj.cells #[.int .i64 (-1)] 3);simp only [World.cell?,h];rfl
 ·obtain rfl:k=0:=by have:(pQ s).ns.length=1:=rfl;omega
  have h:=ng (w.alloc (.cells #[.int .i64 (-1)] 3)) (Obj.cells #[.string s] 9);rw [aQ] at h;simp only [World.cell?,h];rfl
theorem ae0 (s:ByteArray):(aA (pQ s)==0)=bq s.data.toList:=by
 have h1:isIn (pQ s).ps 0=false:=by unfold isIn Gq pQ;simp
 have h2:cW (pQ s).ns 0=false:=by unfold cW;simp
 have h3:jB (pQ s).ps=true:=by unfold jB pQ;simp [oJ,gi]
 have h4:gs (pQ s).ns 0=s:=rfl;unfold aA;rw [if_neg (by simp [pQ]),if_neg (by simp [pQ]),if_neg (by simp [pQ]),if_pos h3];show (bf (mg (pQ s).ps (pQ s).ns) 1==0)=_;simp only [bf,if_true];unfold mg;rw [h1,h2,h4];cases bq s.data.toList<;>simp
end
section
open Go.RowKit Go.Deep Go.Sort
def orI (x y:Int):Int:=if x≠0 then x else y
theorem ajP (w:World) (b:Nat) (x y:Int) (h0:w.cell? ⟨b,0,none⟩=some (.int .i64 x)) (h1:w.cell? ⟨b,1,none⟩=some (.int .i64 y)) :
  Calls Tryz.prog 79 #[.slice (some ⟨b,0,none⟩) 2 2] w fun e w'=>e=.returned (.int .i64 (orI x y))/\w=w':=by
 have HO:Hid (orI x y=if x≠0 then x else y):=rfl;have H0:=aa h0;have H1:=aa h1;clear h0 h1;go_in;go_wp2
 go_loop [5,8] (fun _ i=>∃k:Nat,k<=2/\i=.int .i64 k/\Hid (0<k->x=0)/\Hid (1<k->y=0)) (fun _ i=>2 - (intOf i).toNat)
 case atStart=>exact ⟨0,aF _,rfl,fun h=>absurd h (Nat.lt_irrefl _),fun h=>absurd h (by omega)⟩
 case round =>
  obtain ⟨k,hk,rfl,hd,hd2⟩:=hrel;have c0:=H0.out;have c1:=H1.out;by_cases k0:k=0
  ·subst k0
   by_cases hx:x=0
   ·have HX:=aa hx
    subst hx;go_wp2
    go_round
    case rel=>exact ⟨1,by omega,by go_num,fun _=>(by first | rfl | trivial),fun h=>absurd h (by omega)⟩
    case measure=>simp [intOf]
   ·have HX:=aa hx
    (have d1:(x==0)=false:=by simpa using hx);(have d2:(x != 0)=true:=by simpa using hx);clear hx;go_wp2;go_ret;exact ⟨aC (by rw [HO.out,if_pos HX.out]),rfl⟩
  by_cases k1:k=1
  ·subst k1
   have HX:=aa (hd.out (by omega));by_cases hy:y=0
   ·subst hy
    go_wp2
    go_round
    case rel=>exact ⟨2,by omega,by go_num,fun _=>HX.out,fun _=>(by first | rfl | trivial)⟩
    case measure=>simp [intOf]
   ·have d1:(y==0)=false:=by simpa using hy
    (have d2:(y != 0)=true:=by simpa using hy);clear hy;go_wp2;go_ret;exact ⟨aC (by rw [HO.out,if_neg (fun e=>e HX.out)]),rfl⟩
  ·obtain rfl:k=2:=by omega
   have HX:=aa (hd.out (by omega));have HY:=aa (hd2.out (by omega));go_wp2;go_ret;exact ⟨aC (by rw [HO.out,if_neg (fun e=>e HX.out),HY.out]),rfl⟩
theorem orQ (a b:List Int):orI (sG (b.length:Int) (a.length:Int)) (cmpL a b)=kO a b:=by
 unfold orI sG kO;by_cases h1:b.length<a.length
 ·rw [if_pos (show (b.length:Int)<(a.length:Int) by omega),if_pos (by decide),if_pos h1]
 ·rw [if_neg (show ¬(b.length:Int)<(a.length:Int) by omega),if_neg h1]
  by_cases h2:a.length<b.length
  ·rw [if_pos (show (a.length:Int)<(b.length:Int) by omega),if_pos (by decide),if_pos h2]
  ·rw [if_neg (show ¬(a.length:Int)<(b.length:Int) by omega),if_neg h2,if_neg (fun e=>e rfl)]
theorem ahd (S T:Nat->Prop) (w:World) (v u:Value) (a b:List Int) (h:af S w v a) (h2:af T w u b) (hn:a.length<=1000000) (hm:b.length<=1000000) :
  Calls Tryz.prog 78 #[v,u] w fun e w'=>e=.returned (.int .i64 (kO a b))/\∃n os,w'=grow (w.drewN n) os:=by
 have HC:=aa (YY (b.length:Int) (a.length:Int) w);have HL:=aa (YZ S T w v u a b h h2 hn hm);have HQ:=aa (orQ a b);obtain ⟨p,cap,rfl,-,-⟩:=aq.open h;obtain ⟨q,qI,rfl,-,-⟩:=aq.open h2;have HOR:Hid (Calls Tryz.prog 79 #[.slice (some ⟨w.heap.size,0,none⟩) 2 2] (w.alloc (.cells #[.int .i64 (sG (b.length:Int) (a.length:Int)),.int .i64 (cmpL a b)] 3)) fun e w'=>e=.returned (.int .i64 (kO a b))/\w.alloc (.cells #[.int .i64 (sG (b.length:Int) (a.length:Int)),.int .i64 (cmpL a b)] 3)=w'):=by have h:=ajP (w.alloc (.cells #[.int .i64 (sG (b.length:Int) (a.length:Int)),.int .i64 (cmpL a b)] 3)) w.heap.size _ _ (iq w _ _ _) (jg w _ _ _);rw [HQ.out] at h;exact h
 have DY:Hid (∃n os,w.alloc (.cells #[.int .i64 (sG (b.length:Int) (a.length:Int)),.int .i64 (cmpL a b)] 3)=grow (w.drewN n) os):=⟨0,#[_],alloc_eq_grow w _⟩;clear h h2;go_in;go_wp2_with fail;refine HC.out.mono ?_;rintro e w' ⟨rfl,rfl⟩;go_wp2_with fail;refine HL.out.mono ?_;rintro e w' ⟨rfl,rfl⟩;go_wp2_with fail;refine HOR.out.mono ?_;rintro e w' ⟨rfl,rfl⟩;go_wp2;go_ret;exact ⟨rfl,DY.out⟩
end
end Go.Proofs.YthgabkgmkolobaaGreat
