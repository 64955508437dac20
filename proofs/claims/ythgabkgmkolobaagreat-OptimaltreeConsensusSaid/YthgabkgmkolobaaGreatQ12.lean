/- Rose trees: all parts of one; when its .. -/
import Derived.Test.YthgabkgmkolobaaGreatQ11
set_option maxRecDepth 100000
set_option maxHeartbeats 2000000
namespace Go.Proofs.YthgabkgmkolobaaGreat
section
mutual
def bh:RT->List RT
 | .node nm ks=>.node nm ks::dO ks
def dO:List RT->List RT
 | []=>[]
 | r::rs=>bh r++dO rs
end
mutual
theorem pG:∀r:RT,(bh r).length=aP r
 | .node _ ks=>by rw [bh,aP,aW,MB ks];omega
theorem MB:∀rs:List RT,(dO rs).length=aK rs
 | []=>rfl
 | r::rs=>by rw [dO,aK,bg,pG r,MB rs]
end
mutual
theorem vz:∀r:RT,eo r=(bh r).map RT.nm
 | .node nm ks=>by rw [bh,eo,dV,PC ks];rfl
theorem PC:∀rs:List RT,eu rs=(dO rs).map RT.nm
 | []=>rfl
 | r::rs=>by rw [dO,eu,cg,vz r,PC rs]
end
theorem pH (rs:List RT):dO rs=rs.flatMap bh:=by
 induction rs with
 | nil=>rfl
 | cons r rs ih=>rw [dO,gj,ih]
def AtR (t:ax) (r:RT) (n:Nat) (p:Int):Prop:=∃pre post,t.ps=pre++(kT r n p++post)/\pre.length=n/\p<n/\(∀x∈pre,x<(n:Int))/\(∀x∈post,x<(n:Int)\/((n+aP r:Nat):Int)<=x)
def PD (t:ax) (rs:List RT) (own m:Nat):Prop:=∃pre post,t.ps=pre++(fU rs own m++post)/\pre.length=m/\own<m/\(∀x∈pre,x<(m:Int))/\(∀x∈post,x<(own:Int)\/((m+aK rs:Nat):Int)<=x)
theorem AtR.kids {t:ax} {nm:ByteArray} {ks:List RT} {n:Nat} {p:Int} (h:AtR t (.node nm ks) n p):bL t.ps n=EW ks (n+1)/\PD t ks n (n+1):=by
 obtain ⟨pre,post,hps,hpl,hp,hpre,hpost⟩:=h;rw [aP] at hpost;rw [kT,cm] at hps;constructor
 ·rw [PA]
  ·rw [hps,y7,yq n pre 0 (fun x hx e=>by have:=hpre x hx;omega),di,kf,if_neg (by omega),y7,hpl,je,K4 n ks (n+1) (by omega),ri]
   rw [yq n post _ (fun x hx e=>by rcases hpost x hx with h1 | h1<;>omega),eG]
  ·intro i hi e
   rw [hps] at e;rcases oo i n with h1 | h1 | h1
   ·rw [Dc _ (by omega)] at e
    have:=hpre _ (sL (l:=pre) (k:=i) (by omega));omega
   ·subst h1
    have h2:=y8 pre (p::(fU ks i (i+1)++post)) 0;rw [hpl] at h2;have h2:gi (pre++p::(fU ks i (i+1)++post)) i=p:=h2;rw [h2] at e;omega
   ·exact h1
 ·refine ⟨pre++[p],post,by rw [hps,dS];rfl,by simp [hpl],by omega,fun x hx=>?_,fun x hx=>?_⟩
  ·rcases ey.1 hx with hx | hx
   ·have:=hpre x hx;omega
   ·have:x=p:=by simpa using hx
    omega
  ·rcases hpost x hx with h3 | h3
   ·exact .inl h3
   ·exact .inr (by omega)
theorem PD.cons {t:ax} {r:RT} {rs:List RT} {own m:Nat} (h:PD t (r::rs) own m):AtR t r m own/\PD t rs own (m+aP r):=by
 obtain ⟨pre,post,hps,hpl,hm,hpre,hpost⟩:=h;rw [aK] at hpost;rw [fU,dS] at hps;constructor
 ·refine ⟨pre,_,hps,hpl,by omega,hpre,fun x hx=>?_⟩
  rcases ey.1 hx with hx | hx
  ·rcases Ck rs own (m+aP r) x hx with h2 | ⟨h2,_⟩
   ·exact .inl (by omega)
   ·exact .inr h2
  ·rcases hpost x hx with h2 | h2
   ·exact .inl (by omega)
   ·exact .inr (by omega)
 ·refine ⟨pre++kT r m own,post,by rw [hps,dS],by rw [bg,rV,hpl],by omega,fun x hx=>?_,fun x hx=>?_⟩
  ·rcases ey.1 hx with hx | hx
   ·have:=hpre x hx;omega
   ·rcases PB r m own x hx with h3 | ⟨_,h3⟩<;>omega
  ·rcases hpost x hx with h3 | h3
   ·exact .inl h3
   ·exact .inr (by omega)
mutual
theorem TN {t:ax}:∀(r:RT) (n:Nat) (p:Int),AtR t r n p->∀(i:Nat) (s:RT),(bh r)[i]? = some s->bL t.ps (n+i)=EW s.kids (n+i+1)
 | .node nm ks,n,p,h,i,s,hs=>by
  rw [bh] at hs
  cases i with
  | zero =>
   have e:RT.node nm ks=s:=by simpa using hs
   subst e
   exact h.kids.1
  | succ i =>
   rw [F2] at hs
   have:=PE ks n (n+1) h.kids.2 i s hs
   rw [show n+(i+1)=n+1+i by omega];exact this
theorem PE {t:ax}:∀(rs:List RT) (own m:Nat),PD t rs own m->∀(i:Nat) (s:RT),(dO rs)[i]? = some s->bL t.ps (m+i)=EW s.kids (m+i+1)
 | [],_,_,_,i,s,hs=>by simp [dO] at hs
 | r::rs,own,m,h,i,s,hs=>by
  rw [dO] at hs
  by_cases hi:i<aP r
  ·rw [F0 (by rw [pG];exact hi)] at hs
   exact TN r m own h.cons.1 i s hs
  ·rw [Jc (by rw [pG];omega),pG] at hs
   have:=PE rs own (m+aP r) h.cons.2 (i - aP r) s hs
   rw [show m+aP r+(i - aP r)=m+i by omega] at this;exact this
end
theorem AtR.flat (r:RT):AtR (flat r) r 0 (-1):=⟨[],[],by simp [YthgabkgmkolobaaGreat.flat],rfl,by omega,fun x hx=>by simp at hx,fun x hx=>by simp at hx⟩
theorem X6 {r:RT} {i:Nat} {s:RT} (h:(bh r)[i]? = some s):bL (flat r).ps i=EW s.kids (i+1):=by
 have:=TN r 0 (-1) (AtR.flat r) i s h;simpa using this
mutual
theorem X7:∀(r:RT) (n:Nat) (p:Int) (j:Nat),0<j->j<aP r->(n:Int)<=gi (kT r n p) j/\gi (kT r n p) j<((n+j:Nat):Int)
 | .node nm ks,n,p,j,h0,hj=>by
  rw [aP] at hj
  obtain ⟨k,rfl⟩:∃k,j=k+1:=⟨j - 1,by omega⟩
  have h:=TP ks n (n+1) k (by omega) (by omega)
  have e:gi (kT (.node nm ks) n p) (k+1)=gi (fU ks n (n+1)) k:=by rw [kT];simp [gi]
  rw [e]
  exact ⟨h.1,by have:=h.2;omega⟩
theorem TP:∀(rs:List RT) (own n j:Nat),own<n->j<aK rs->(own:Int)<=gi (fU rs own n) j/\gi (fU rs own n) j<((n+j:Nat):Int)
 | [],_,_,_,_,h=>by simp [aK] at h
 | r::rs,own,n,j,ho,hj=>by
  rw [aK] at hj
  rw [fU]
  by_cases hr:j<aP r
  ·rw [Dc _ (by rw [rV];exact hr)]
   by_cases h0:j=0
   ·subst h0
    obtain ⟨nm,ks⟩:=r
    have e:gi (kT (.node nm ks) n own) 0=own:=by rw [kT];simp [gi]
    rw [e];exact ⟨by omega,by omega⟩
   ·have h:=X7 r n own j (by omega) hr
    exact ⟨by omega,h.2⟩
  ·have h:=TP rs own (n+aP r) (j - aP r) (by omega) (by omega)
   have e:=y8 (kT r n own) (fU rs own (n+aP r)) (j - aP r)
   rw [rV,show aP r+(j - aP r)=j by omega] at e
   rw [e]
   exact ⟨h.1,by have:=h.2;omega⟩
end
theorem PF (r:RT):jB (flat r).ps=true:=by
 refine Hj fun j hj=>?_;rw [vv] at hj;show oJ j (gi (kT r 0 (-1)) j)=true;unfold oJ;by_cases h0:j=0
 ·subst h0
  obtain ⟨nm,ks⟩:=r;rw [if_pos rfl,kT];rfl
 ·rw [if_neg h0]
  have h:=X7 r 0 (-1) j (by omega) hj;have h1:0<=gi (kT r 0 (-1)) j:=by have:=h.1;omega
  have h2:gi (kT r 0 (-1)) j<(j:Int):=by have:=h.2;omega
  simp [h1,h2]
def bM (r:RT):List ByteArray:=(eo r).filter fun s=>decide (s.size≠0)
structure jm (r:RT):Prop where
 y9:∀s∈bh r,s.kids≠[]->s.nm.size=0
 lf:∀s∈bh r,s.kids=[]->bq s.nm.data.toList=true
 nd:(bM r).Nodup
theorem gK {s:ByteArray} (h:bq s.data.toList=true):s.size≠0:=by
 intro e;have:s.data.toList=[]:=by apply od;simpa using e
 rw [this] at h
 revert h;decide
theorem uv {r:RT} (h:jm r) (hs:aP r<=64):aA (flat r)=0:=by
 unfold aA;rw [vv,Cl,if_neg (by have:=oT r;omega),if_neg (by omega),if_neg (by simp),if_pos (PF r)];refine cG fun i hi=>?_;have hi2:i<(bh r).length:=by rw [pG];exact hi
 obtain ⟨s,hsi⟩:∃s,(bh r)[i]? = some s:=⟨_,kQ hi2⟩;have hmem:s∈bh r:=Jg hsi;have hk:=X6 hsi;have hnm:gs (flat r).ns i=s.nm:=by show gs (eo r) i=_;rw [vz];simp [gs,hsi]
 have hin:=qR (PF r) i;unfold mg;rw [hnm];by_cases hks:s.kids=[]
 ·have h1:isIn (flat r).ps i=false:=by
   cases hb:isIn (flat r).ps i with
   | false=>rfl
   | true=>exact absurd (by rw [hk,hks];rfl) (hin.2 hb)
  rw [h1,if_neg (by simp),if_pos (h.lf s hmem hks)]
  have h2:cW (flat r).ns i=false:=by
   rw [rN];intro e
   obtain ⟨j,hj,e⟩:=dx.1 e
   have hj:j<i:=bu.1 hj
   have e:gs (eo r) j=gs (eo r) i:=of_decide_eq_true e
   have hpw:=List.pairwise_filter.1 h.nd
   have oL:=F8 r
   have h3:=mY.1 hpw j i (by omega) (by omega) hj
   have hgj:gs (eo r) j=(eo r)[j]'(by omega):=by simp [gs,show j<(eo r).length by omega]
   have hgi:gs (eo r) i=(eo r)[i]'(by omega):=by simp [gs,show i<(eo r).length by omega]
   rw [<- hgj,<- hgi,e] at h3
   have h4:gs (eo r) i=s.nm:=hnm
   have h5:=gK (h.lf s hmem hks)
   rw [h4] at h3
   exact h3 (by simpa using h5) (by simpa using h5) rfl
  rw [h2];rfl
 ·have h1:isIn (flat r).ps i=true:=hin.1 (by
   rw [hk]
   cases hq:s.kids with
   | nil=>exact absurd hq hks
   | cons a l=>simp [EW])
  rw [h1,if_pos rfl,if_pos (h.y9 s hmem hks)]
end
section
theorem MC (a:RT):∀l,(gD a l).Perm (a::l)
 | []=>mM _
 | b::l=>by
  rw [gD]
  split
  ·exact mM _
  ·exact ((MC a l).cons b).trans (List.Perm.swap a b l)
theorem sR:∀l:List RT,(fM l).Perm (l.map bJ)
 | []=>mM _
 | r::rs=>by
  rw [fM,dV]
  exact (MC _ _).trans ((sR rs).cons _)
theorem xU (r:RT):(bJ r).kids=fM r.kids:=by cases r;rfl
theorem za (r:RT):(bJ r).nm=r.nm:=by cases r;rfl
theorem uw {l:List RT}:fM l=[]↔l=[]:=by
 constructor
 ·intro h
  have:=(sR l).length_eq;rw [h,aD] at this;exact od this.symm
 ·rintro rfl;rfl
theorem VS {l l':List RT} (h:l.Perm l'):(dO l).Perm (dO l'):=by
 rw [pH,pH];exact h.flatMap_right _
mutual
theorem ny:∀r:RT,(bh (bJ r)).Perm ((bh r).map bJ)
 | .node nm ks=>by
  rw [bJ,bh,bh,dV]
  refine List.Perm.cons _ ?_
  exact (VS (sR ks)).trans (JG ks)
theorem JG:∀rs:List RT,(dO (rs.map bJ)).Perm ((dO rs).map bJ)
 | []=>mM _
 | r::rs=>by
  rw [dV,dO,dO,cg]
  exact (ny r).append (JG rs)
end
theorem JH (r:RT):aP (bJ r)=aP r:=by
 have:=(ny r).length_eq;rw [aD,pG,pG] at this;exact this
theorem aa4 (r:RT):(eo (bJ r)).Perm (eo r):=by
 rw [vz,vz];refine ((ny r).map RT.nm).trans ?_;rw [jA];have:(RT.nm ∘ bJ)=RT.nm:=funext za;rw [this]
theorem rW (r:RT):(bM (bJ r)).Perm (bM r):=(aa4 r).filter _
theorem jm.sort {r:RT} (h:jm r):jm (bJ r):=by
 refine ⟨fun s hs hk=>?_,fun s hs hk=>?_,(rW r).nodup_iff.2 h.nd⟩
 ·obtain ⟨q,hq,rfl⟩:=bI.1 ((ny r).mem_iff.1 hs)
  rw [xU] at hk;rw [za];exact h.y9 q hq (fun e=>hk (uw.2 e))
 ·obtain ⟨q,hq,rfl⟩:=bI.1 ((ny r).mem_iff.1 hs)
  rw [xU] at hk;rw [za];exact h.lf q hq (uw.1 hk)
def Dd:List RT->Prop
 | []=>True
 | [_]=>True
 | a::b::l=>eB (aU a) (aU b)<=0/\Dd (b::l)
theorem Dd.tail {a:RT} {l:List RT} (h:Dd (a::l)):Dd l:=by
 cases l with
 | nil=>trivial
 | cons b l=>exact h.2
theorem X8 (a:RT) (l:List RT):∃c l',gD a l=c::l'/\(c=a\/∃t,l=c::t):=by
 cases l with
 | nil=>exact ⟨a,[],rfl,.inl rfl⟩
 | cons b l =>
  rw [gD];split
  ·exact ⟨a,b::l,rfl,.inl rfl⟩
  ·exact ⟨b,gD a l,rfl,.inr ⟨l,rfl⟩⟩
theorem PG (a:RT):∀l,Dd l->Dd (gD a l)
 | [],_=>trivial
 | b::l,h=>by
  rw [gD]
  split
  ·rename_i h1;exact ⟨h1,h⟩
  ·rename_i h1
   have h2:=PG a l h.tail
   obtain ⟨c,l',e,hc⟩:=X8 a l
   rw [e] at h2 ⊢
   refine ⟨?_,h2⟩
   rcases hc with rfl | ⟨t,rfl⟩
   ·have:=lT (aU c) (aU b);omega
   ·exact h.1
theorem JI:∀l,Dd (fM l)
 | []=>trivial
 | r::rs=>by rw [fM];exact PG _ _ (JI rs)
theorem aev {a:RT} {l:List RT} (h:Dd (a::l)):gD a l=a::l:=by
 cases l with
 | nil=>rfl
 | cons b l=>rw [gD,if_pos h.1]
theorem JJ:∀l:List RT,Dd l->(∀r∈l,bJ r=r)->fM l=l
 | [],_,_=>rfl
 | r::rs,h,hf=>by rw [fM,JJ rs h.tail (fun q hq=>hf q (by simp [hq])),hf r (by simp)];exact aev h
mutual
theorem De:∀r:RT,bJ (bJ r)=bJ r
 | .node nm ks=>by
  rw [bJ,bJ]
  congr 1
  refine JJ _ (JI ks) (fun q hq=>?_)
  obtain ⟨s,hs,rfl⟩:=bI.1 ((sR ks).mem_iff.1 hq)
  exact GI ks s hs
theorem GI:∀(rs:List RT) (s:RT),s∈rs->bJ (bJ s)=bJ s
 | [],_,h=>by cases h
 | r::rs,s,h=>by
  by_cases e:s=r
  ·rw [e];exact De r
  ·exact GI rs s (by
    rcases bA.1 h with h | h
    ·exact absurd h e
    ·exact h)
end
section
variable {F:bW} {n:Nat} {rk:Nat->Nat}
theorem Ao (h:Wf F n rk):∀ {d i:Nat},i<n->rk i<=d->bh (bE F rk i)=(cI F rk i).map (bE F rk):=by
 intro d
 induction d with
 | zero =>
  intro i hi hd;have hk:F.kids i=[]:=by
   cases hk:F.kids i with
   | nil=>rfl
   | cons k l=>have:=(h.kid i hi k (by rw [hk];simp)).2;omega
  rw [dQ h hi,hk];have e:bE F rk i=.node (F.nm i) []:=by rw [fh h hi,hk];rfl
  rw [e,bh,List.flatMap_nil,dV,e];rfl
 | succ d ih =>
  intro i hi hd;rw [dQ h hi,dV,CS];have e:=fh h hi
  conv=>lhs;rw [e,bh,pH,CQ]
  rw [<- e];congr 1;refine jV fun k hk=>?_;have:=h.kid i hi k hk;exact ih this.1 (by omega)
theorem yt (h:Wf F n rk) {i:Nat} (hi:i<n):(bE F rk i).nm=F.nm i:=by rw [fh h hi];rfl
theorem Ap (h:Wf F n rk) {i:Nat} (hi:i<n):(bE F rk i).kids=(F.kids i).map (bE F rk):=by rw [fh h hi];rfl
end
theorem iO {t:ax} (h:aA t=0) {j:Nat} (hj:j∈cI (fA t) (dI t) 0):j<t.ps.length :=
 tO (ew h).wf (aH h).1 (ah _) ((fB (ew h).wf (aH h).1 (ah _)).1 hj)
theorem nM {t:ax} (h:aA t=0):bh (jE t)=(cI (fA t) (dI t) 0).map (bE (fA t) (dI t)):=Ao (ew h).wf (aH h).1 (ah _)
theorem MD {t:ax} (h:aA t=0):aP (jE t)<=64:=by
 rw [<- pG,nM h,aD];have h1:=vq (oy (ew h) (R:=t.ps.length) (fun i _=>Ci t i) (aH h).1 (ah _)) (fun x hx=>iO h hx);have:=(aH h).2.1;omega
theorem TQ {t:ax} (h:aA t=0):eo (jE t)=(cI (fA t) (dI t) 0).map (gs t.ns):=by
 rw [vz,nM h,jA];refine lz fun j hj=>?_;exact yt (ew h).wf (iO h hj)
theorem PI {ps:List Int} {ns:List ByteArray} {i:Nat} (h:mg ps ns i=0) (hi:isIn ps i=true):(gs ns i).size=0:=by
 unfold mg at h;rw [if_pos hi] at h;split at h
 ·assumption
 ·cases h
theorem X9 {ps:List Int} {ns:List ByteArray} {i:Nat} (h:mg ps ns i=0) (hi:isIn ps i=false):bq (gs ns i).data.toList=true/\cW ns i=false:=by
 unfold mg at h;rw [hi,if_neg (by simp)] at h;split at h
 ·rename_i h1
  refine ⟨h1,?_⟩;cases hs:cW ns i with
  | false=>rfl
  | true=>rw [hs] at h;cases h
 ·cases h
theorem rj {t:ax} (h:aA t=0):jm (jE t):=by
 obtain ⟨hp,hl,hn,hok,he⟩:=aH h;have hwf:=(ew h).wf;refine ⟨fun s hs hk=>?_,fun s hs hk=>?_,?_⟩
 ·rw [nM h] at hs
  obtain ⟨j,hj,rfl⟩:=bI.1 hs;have hjn:=iO h hj;rw [Ap hwf hjn] at hk;rw [yt hwf hjn];have:isIn t.ps j=true:=(qR hok j).1 (fun e=>hk (by rw [jW,e];rfl));exact PI (he j hjn) this
 ·rw [nM h] at hs
  obtain ⟨j,hj,rfl⟩:=bI.1 hs;have hjn:=iO h hj;rw [Ap hwf hjn] at hk;rw [yt hwf hjn];have:isIn t.ps j=false:=by
   cases hb:isIn t.ps j with
   | false=>rfl
   | true=>exact absurd (List.map_eq_nil_iff.1 hk) ((qR hok j).2 hb)
  exact (X9 (he j hjn) this).1
 ·unfold bM
  rw [TQ h,List.filter_map];have iF:=oy (ew h) (R:=t.ps.length) (fun i _=>Ci t i) hp (ah _);refine sI.2 (List.Pairwise.imp_of_mem ?_ (Jb _ iF));intro a b ha hb hne e;have ha':=gP.1 ha;have hb':=gP.1 hb;have Px:=iO h ha'.1;have Cm:=iO h hb'.1;have leaf:∀i,i<t.ps.length->(gs t.ns i).size≠0->(fA t).kids i=[]:=fun i hi hs=>by
   rw [jW];cases hk:bL t.ps i with
   | nil=>rfl
   | cons x l=>exact absurd (PI (he i hi) ((qR hok i).1 (by rw [hk];simp))) hs
  exact hne ((ew h).amd a b Px Cm (leaf a Px (by simpa using ha'.2)) (leaf b Cm (by simpa using hb'.2)) e)
theorem aew {t:ax} (h:aA t=0):aA (kW t)=0:=by
 rw [oQ h];exact uv (rj h).sort (by rw [JH];exact MD h)
theorem aa5 {t:ax} (h:aA t=0):jE (kW t)=bJ (jE t):=by rw [oQ h,vw]
end
section
section
variable {F G:bW} {n:Nat} {rk:Nat->Nat}
theorem ME (h:Wf F n rk) {i:Nat} (hi:i<n) (h0:rk i<=0):F.kids i=[]:=by
 cases hk:F.kids i with
 | nil=>rfl
 | cons k l=>have:=(h.kid i hi k (by rw [hk];simp)).2;omega
theorem aa6 (hF:Wf F n rk) (hG:Wf G n rk):∀ {d c:Nat},c<n->rk c<=d->(∀z,dz F rk c z=true->G.kids z=F.kids z)->∀z,dz G rk c z=dz F rk c z:=by
 intro d
 induction d with
 | zero =>
  intro c hc hd hz z;rw [l5 hF hc,l5 hG hc,ME hF hc hd,ME hG hc hd];rfl
 | succ d ih =>
  intro c hc hd hz z;rw [l5 hF hc,l5 hG hc,hz c (nw hF hc)];congr 1;rw [mW,dx,dx];have key:∀k∈F.kids c,dz G rk k z=dz F rk k z:=fun k hk=>by have hkk:=hF.kid c hc k hk;exact ih hkk.1 (by omega) (fun y hy=>hz y (tC hF hc hk hy)) z
  constructor
  ·rintro ⟨k,hk,e⟩;exact ⟨k,hk,by rw [<- key k hk];exact e⟩
  ·rintro ⟨k,hk,e⟩;exact ⟨k,hk,by rw [key k hk];exact e⟩
end
end
section
open Go.RowKit Go.Deep
theorem Tryz.mD:(Tryz.prog.info? 9).map (fun i=>(i.zero,i.size,i.bytes))=some (some (.string ⟨#[]⟩),1,16):=by kernel_rfl
structure GK (tb:Nat) (w W:World) (P N P' N':Value):Prop where
 os:W.os=w.os
 tape:W.tape=w.tape
 output:W.output=w.output
 size:w.heap.size<=W.heap.size
 block:∀b,b<w.heap.size->b≠tb->some b≠P.ownBlock->some b≠N.ownBlock->W.heap[b]? = w.heap[b]?
 jX:∀b,P'.ownBlock=some b->P.ownBlock=some b\/w.heap.size<=b
 jY:∀b,N'.ownBlock=some b->N.ownBlock=some b\/w.heap.size<=b
theorem GK.refl (tb:Nat) (w:World) (P N:Value):GK tb w w P N P N:=⟨rfl,rfl,rfl,ah _,fun _ _ _ _ _=>rfl,fun _ h=>.inl h,fun _ h=>.inl h⟩
theorem GK.trans {tb:Nat} {w W X:World} {P N P' N' P2 N2:Value} (h:GK tb w W P N P' N') (k:GK tb W X P' N' P2 N2):GK tb w X P N P2 N2 :=
 ⟨k.os.trans h.os,k.tape.trans h.tape,k.output.trans h.output,aB h.size k.size,fun b hb h1 h2 h3=>by
  rw [<- h.block b hb h1 h2 h3]
  refine k.block b (iI hb h.size) h1 (fun e=>?_) (fun e=>?_)
  ·rcases h.jX b e.symm with h4 | h4
   ·exact h2 h4.symm
   ·omega
  ·rcases h.jY b e.symm with h4 | h4
   ·exact h3 h4.symm
   ·omega,
  fun b hb=>by
   rcases k.jX b hb with h4 | h4
   ·exact h.jX b h4
   ·exact .inr (aB h.size h4),
  fun b hb=>by
   rcases k.jY b hb with h4 | h4
   ·exact h.jY b h4
   ·exact .inr (aB h.size h4)⟩
theorem GK.up {tb:Nat} {w W X:World} {P N P' N':Value} (h:GK tb w W P N P' N') (k:Up W X):GK tb w X P N P' N' :=
 ⟨k.os.trans h.os,k.tape.trans h.tape,k.output.trans h.output,aB h.size k.size,fun b hb h1 h2 h3=>(bH k b (iI hb h.size)).trans (h.block b hb h1 h2 h3),h.jX,h.jY⟩
theorem GK.F7 {tb:Nat} {w W:World} {P N:Value} (k:Up w W):GK tb w W P N P N:=(GK.refl tb w P N).up k
structure TL (B0:Nat) (W:World) (P N:Value) (ps:List Int) (ns:List ByteArray):Prop where
 cn:au B0 3 W P (ps.map (Value.int .i64))
 cD:au B0 9 W N (ns.map Value.string)
 apart:∀b,P.ownBlock=some b->N.ownBlock≠some b
theorem au.eH {base:Nat} {e:TypeId} {w w':World} {v:Value} {vs:List Value} (h:au base e w v vs) (k:∀b,v.ownBlock=some b->w'.heap[b]? = w.heap[b]?):au base e w' v vs:=by
 refine ⟨h.1,?_⟩;rcases h.2 with h0 | ⟨g,cap,cur,rfl,hg,hc,hr⟩
 ·exact .inl h0
 ·exact .inr ⟨g,cap,cur,rfl,hg,(k g rfl).trans hc,hr⟩
structure RS (tb B0:Nat) (w W:World) (P N Pv Nv:Value) (ps:List Int) (ns:List ByteArray):Prop where
 gk:GK tb w W P N Pv Nv
 tl:TL B0 W Pv Nv ps ns
 same:W.heap[tb]? = w.heap[tb]?
 lo:tb<B0/\B0<=w.heap.size
section
variable {tb B0:Nat} {w W W':World} {P N Pv Nv:Value} {ps:List Int} {ns:List ByteArray}
theorem RS.start (h:TL B0 w P N ps ns) (hl:tb<B0/\B0<=w.heap.size):RS tb B0 w w P N P N ps ns:=⟨GK.refl _ _ _ _,h,rfl,hl⟩
theorem TL.up (h:TL B0 W Pv Nv ps ns) (hu:Up W W'):TL B0 W' Pv Nv ps ns :=
 ⟨h.cn.eH fun b hb=>bH hu b (av h.cn hb).2,h.cD.eH fun b hb=>bH hu b (av h.cD hb).2,h.apart⟩
theorem RS.up (h:RS tb B0 w W P N Pv Nv ps ns) (hu:Up W W'):RS tb B0 w W' P N Pv Nv ps ns :=
 ⟨h.gk.up hu,h.tl.up hu,(bH hu tb (by have:=h.gk.size;have:=h.lo;omega)).trans h.same,h.lo⟩
theorem RS.vo (h:RS tb B0 w W P N Pv Nv ps ns) {g cap k:Nat} {u:Int} (ho:au B0 3 W' (.slice (some ⟨g,0,none⟩) k cap) (ps.map (Value.int .i64)++[.int .i64 u])) (hg:W.grownBy W' Pv.ownBlock) (gH:Pv.ownBlock=some g\/W.heap.size<=g) :
  RS tb B0 w W' P N (.slice (some ⟨g,0,none⟩) k cap) Nv (ps++[u]) ns:=by
 have hlo:=h.lo;have hsz:=h.gk.size;refine ⟨⟨hg.os.trans h.gk.os,hg.tape.trans h.gk.tape,hg.output.trans h.gk.output,aB hsz hg.size,fun b hb h1 h2 h3=>?_,fun b hb=>?_,h.gk.jY⟩,⟨by rw [cg];exact ho,h.tl.cD.eH fun b hb=>hg.block b (av h.tl.cD hb).2 (fun e=>h.tl.apart b e.symm hb),fun b hb hb2=>?_⟩,(hg.block tb (by omega) (fun e=>by have:=(av h.tl.cn e.symm).1;omega)).trans h.same,hlo⟩
 ·rw [<- h.gk.block b hb h1 h2 h3]
  refine hg.block b (by omega) fun e=>?_;rcases h.gk.jX b e.symm with h4 | h4
  ·exact h2 h4.symm
  ·omega
 ·injection hb with hb
  have hb:g=b:=hb;subst hb;rcases gH with h4 | h4
  ·exact h.gk.jX g h4
  ·exact .inr (by omega)
 ·injection hb with hb
  have hb:g=b:=hb;subst hb;rcases gH with h1 | h1
  ·exact h.tl.apart g h1 hb2
  ·have:=(av h.tl.cD hb2).2;omega
theorem RS.ur (h:RS tb B0 w W P N Pv Nv ps ns) {g cap k:Nat} {u:ByteArray} (ho:au B0 9 W' (.slice (some ⟨g,0,none⟩) k cap) (ns.map Value.string++[.string u])) (hg:W.grownBy W' Nv.ownBlock) (gH:Nv.ownBlock=some g\/W.heap.size<=g) :
  RS tb B0 w W' P N Pv (.slice (some ⟨g,0,none⟩) k cap) ps (ns++[u]):=by
 have hlo:=h.lo;have hsz:=h.gk.size;refine ⟨⟨hg.os.trans h.gk.os,hg.tape.trans h.gk.tape,hg.output.trans h.gk.output,aB hsz hg.size,fun b hb h1 h2 h3=>?_,h.gk.jX,fun b hb=>?_⟩,⟨h.tl.cn.eH fun b hb=>hg.block b (av h.tl.cn hb).2 (fun e=>h.tl.apart b hb e.symm),by rw [cg];exact ho,fun b hb hb2=>?_⟩,(hg.block tb (by omega) (fun e=>by have:=(av h.tl.cD e.symm).1;omega)).trans h.same,hlo⟩
 ·rw [<- h.gk.block b hb h1 h2 h3]
  refine hg.block b (by omega) fun e=>?_;rcases h.gk.jY b e.symm with h4 | h4
  ·exact h3 h4.symm
  ·omega
 ·injection hb with hb
  have hb:g=b:=hb;subst hb;rcases gH with h4 | h4
  ·exact h.gk.jY g h4
  ·exact .inr (by omega)
 ·injection hb2 with hb2
  have hb2:g=b:=hb2;subst hb2;rcases gH with h1 | h1
  ·exact h.tl.apart g hb h1
  ·have:=(av h.tl.cn hb).2;omega
end
structure GS (tb B0:Nat) (W:World) (P N:Value) (t:ax):Prop where
 box:W.heap[tb]? = some (Obj.cells #[P,N] 39 (0,0))
 tl:TL B0 W P N t.ps t.ns
 lo:tb<B0/\B0<=W.heap.size
theorem GS.cells {tb B0:Nat} {W:World} {P N:Value} {t:ax} (h:GS tb B0 W P N t):W.cell? ⟨tb,0,none⟩=some P/\W.cell? ⟨tb,1,none⟩=some N/\W.frozen? ⟨tb,0,none⟩=false/\W.frozen? ⟨tb,1,none⟩=false:=by
 refine ⟨?_,?_,?_,?_⟩<;>simp [World.cell?,World.frozen?,h.box]
theorem GS.up {tb B0:Nat} {W W':World} {P N:Value} {t:ax} (h:GS tb B0 W P N t) (hu:Up W W'):GS tb B0 W' P N t :=
 ⟨(bH hu tb (by have:=h.lo;omega)).trans h.box,h.tl.up hu,⟨h.lo.1,aB h.lo.2 hu.size⟩⟩
def ax.push (t:ax) (p:Int) (s:ByteArray):ax:=⟨t.ps++[p],t.ns++[s]⟩
theorem RS.cells {tb B0:Nat} {w W:World} {P N Pv Nv P0 N0:Value} {ps:List Int} {ns:List ByteArray} (h:RS tb B0 w W P N Pv Nv ps ns) (hb:w.heap[tb]? = some (Obj.cells #[P0,N0] 39 (0,0))) :
  W.cell? ⟨tb,0,none⟩=some P0/\W.cell? ⟨tb,1,none⟩=some N0:=by
 have h1:=h.same.trans hb;exact ⟨by simp [World.cell?,h1],by simp [World.cell?,h1]⟩
theorem RS.frozen {tb B0:Nat} {w W:World} {P N Pv Nv P0 N0:Value} {ps:List Int} {ns:List ByteArray} (h:RS tb B0 w W P N Pv Nv ps ns) (hb:w.heap[tb]? = some (Obj.cells #[P0,N0] 39 (0,0))) (o:Nat) :
  W.frozen? ⟨tb,o,none⟩=false:=by
 have h1:=h.same.trans hb;simp [World.frozen?,h1]
theorem RS.store {tb B0:Nat} {w W:World} {P N Pv Nv:Value} {t:ax} {z:Int} {nm:ByteArray} (h0:GS tb B0 w P N t) (h:RS tb B0 w W P N Pv Nv (t.ps++[z]) (t.ns++[nm])) :
  GS tb B0 ((W.setCell ⟨tb,0,none⟩ Pv).setCell ⟨tb,1,none⟩ Nv) Pv Nv (t.push z nm)/\GK tb w ((W.setCell ⟨tb,0,none⟩ Pv).setCell ⟨tb,1,none⟩ Nv) P N Pv Nv:=by
 have h1:=h.same.trans h0.box;have cA:∀b,b≠tb->((W.setCell ⟨tb,0,none⟩ Pv).setCell ⟨tb,1,none⟩ Nv).heap[b]? = W.heap[b]?:=fun b hb=>by rw [blk_setCell_other _ _ _ _ hb,blk_setCell_other _ _ _ _ hb]
 have hsz:((W.setCell ⟨tb,0,none⟩ Pv).setCell ⟨tb,1,none⟩ Nv).heap.size=W.heap.size:=by simp [World.size_setCell]
 refine ⟨⟨by simp [World.setCell,Array.getElem?_modify,h1],⟨h.tl.cn.eH fun b hb=>cA b ?_,h.tl.cD.eH fun b hb=>cA b ?_,h.tl.apart⟩,h.lo.1,by rw [hsz];exact aB h.lo.2 h.gk.size⟩,h.gk.os,h.gk.tape,h.gk.output,by rw [hsz];exact h.gk.size,fun b hb h2 h3 h4=>(cA b h2).trans (h.gk.block b hb h2 h3 h4),h.gk.jX,h.gk.jY⟩
 ·have:=(av h.tl.cn hb).1;have:=h.lo.1;omega
 ·have:=(av h.tl.cD hb).1;have:=h.lo.1;omega
end
section
open Go.RowKit Go.Deep
section
variable {P:Program} {ops:Array Oper} {rest:List Oper} {o:Oper} {a:Act} {Q:Exit->Act->World->Prop}
theorem vU (W:World) (hgd:o.guard=none) (s x:Operand) (t:TypeId) (ho:o.op=.call { callee:=.builtin .append,args:=#[s,x],argTypes:=#[t,t] })
  (base:Nat) (e:TypeId) (z:Value) (bytes:Nat) (ht:P.underlying t=some (.slice e)) (hinfo:(P.info? e).map (fun i=>(i.zero,i.size,i.bytes))=some (some z,1,bytes))
  (hz1:z.cells.size=1) (lN:bytes<=64) {v:Value} {vs:List Value} (hown:au base e W v vs) (hs:a.eval s=v) (u:Value)
  (hx:a.eval x=.slice (some ⟨W.heap.size,0,none⟩) 1 1) (h1:u.oneCell'=true) (k:Nat) (tJ:vs.length=k) (hn:k<=1000000) (hbase:base<=W.heap.size)
  (h:∀g cap w',au base e w' (.slice (some ⟨g,0,none⟩) (k+1) cap) (vs++[u])->W.grownBy w' v.ownBlock->(v.ownBlock=some g\/W.heap.size<=g)->wpList P ops Q rest (a.put o.dst (.slice (some ⟨g,0,none⟩) (k+1) cap)) w') :
  wpList P ops Q (o::rest) a (W.alloc (.cells #[u] e)):=by
 subst tJ;obtain ⟨i,hi,hzz⟩:=jR.1 hinfo;simp only [kX] at hzz;obtain ⟨hz,hs1,hb⟩:=hzz;refine wpList_append_lies _ hgd s x t ho base e i z 1 bytes ht hi hz hs1 hb hz1 (by omega) v vs.length vs hs (hown.alloc _) ⟨W.heap.size,0,none⟩ 1 1 [u] hx rfl (cell_one_new _ _ _) (by simpa using h1) (by omega)
  (by unfold maxLen;omega) ?_ (by simp;omega) _ rfl fun g cap w' h2 h3 h4 _=>h g cap w' ?_ (lM h3) (h4.imp id fun e=>by rw [e,aQ];omega)
 ·have:(vs.length+1)*bytes<=(vs.length+1)*64:=qO _ lN
  omega
 ·unfold au;rw [bg];exact h2
end
section
variable {n base:Nat} {A:Nat->Nat} {kv:Nat->Value} {F:bW} {w w' w2:World} {P:Nat->Bool} {rk:Nat->Nat}
theorem cE.agb {G:bW} (h:cE base n A kv F w) (e:∀j,j<n->G.nm j=F.nm j/\G.old j=F.old j/\G.kids j=F.kids j):cE base n A kv G w :=
 ⟨fun i hi=>by rw [(e i hi).1,(e i hi).2.1];exact h.node i hi,h.lo,h.inj,fun i hi=>by rw [(e i hi).2.2];exact h.own i hi,h.apart,h.alone,fun i hi=>by rw [(e i hi).2.2];exact h.kid i hi⟩
end
end
section
open Go.RowKit Go.Deep
def vN (vs:List Value) (k:Nat):Value:=vs.getD k undef
mutual
def fN (S:Nat->Prop) (w:World):RT->Value->Prop
 | .node nm ks,v=>∃b kv vs,v=.pointer (some ⟨b,0,none⟩)/\S b/\w.heap[b]? = some (.cells #[.string nm,kv] 254 (0,0))/\aq S w kv ks.length (vN vs)/\bw S w ks vs
def bw (S:Nat->Prop) (w:World):List RT->List Value->Prop
 | [],vs=>vs=[]
 | r::rs,vs=>∃u us,vs=u::us/\fN S w r u/\bw S w rs us
end
mutual
theorem fN.keep {S:Nat->Prop} {w w':World} (k:Kept S w w'):∀(r:RT) {v:Value},fN S w r v->fN S w' r v
 | .node nm ks,v,h=>by
  unfold fN at h ⊢
  obtain ⟨b,kv,vs,rfl,hS,hb,hk,hs⟩:=h
  exact ⟨b,kv,vs,rfl,hS,(k b hS (fq.1 hb).1).trans hb,hk.keep k,bw.keep k ks hs⟩
theorem bw.keep {S:Nat->Prop} {w w':World} (k:Kept S w w'):∀(rs:List RT) {vs:List Value},bw S w rs vs->bw S w' rs vs
 | [],_,h=>by unfold bw at h ⊢;exact h
 | r::rs,vs,h=>by
  unfold bw at h ⊢
  obtain ⟨u,us,rfl,h1,h2⟩:=h
  exact ⟨u,us,rfl,fN.keep k r h1,bw.keep k rs h2⟩
end
mutual
theorem fN.sub {S T:Nat->Prop} {w:World} (k:∀b,S b->b<w.heap.size->T b):∀(r:RT) {v:Value},fN S w r v->fN T w r v
 | .node nm ks,v,h=>by
  unfold fN at h ⊢
  obtain ⟨b,kv,vs,rfl,hS,hb,hk,hs⟩:=h
  exact ⟨b,kv,vs,rfl,k b hS (fq.1 hb).1,hb,hk.sub k,bw.sub k ks hs⟩
theorem bw.sub {S T:Nat->Prop} {w:World} (k:∀b,S b->b<w.heap.size->T b):∀(rs:List RT) {vs:List Value},bw S w rs vs->bw T w rs vs
 | [],_,h=>by unfold bw at h ⊢;exact h
 | r::rs,vs,h=>by
  unfold bw at h ⊢
  obtain ⟨u,us,rfl,h1,h2⟩:=h
  exact ⟨u,us,rfl,fN.sub k r h1,bw.sub k rs h2⟩
end
theorem bw.len {S:Nat->Prop} {w:World}:∀(rs:List RT) {vs:List Value},bw S w rs vs->vs.length=rs.length
 | [],_,h=>by unfold bw at h;subst h;rfl
 | r::rs,vs,h=>by
  unfold bw at h
  obtain ⟨u,us,rfl,_,h2⟩:=h
  rw [aW,aW,bw.len rs h2]
def gr (rs:List RT) (k:Nat):RT:=rs.getD k (.node ByteArray.empty [])
theorem bw.get {S:Nat->Prop} {w:World}:∀(rs:List RT) {vs:List Value},bw S w rs vs->∀k,k<rs.length->fN S w (gr rs k) (vN vs k)
 | [],_,_,k,hk=>absurd hk (aZ _)
 | r::rs,vs,h,k,hk=>by
  unfold bw at h
  obtain ⟨u,us,rfl,h1,h2⟩:=h
  cases k with
  | zero=>exact h1
  | succ k=>exact bw.get rs h2 k (by simpa using hk)
theorem bw.app {S:Nat->Prop} {w:World} {r:RT} {u:Value} (hr:fN S w r u):∀(rs:List RT) {vs:List Value},bw S w rs vs->bw S w (rs++[r]) (vs++[u])
 | [],vs,h=>by
  unfold bw at h;subst h
  show bw S w [r] [u]
  unfold bw
  exact ⟨u,[],rfl,hr,by unfold bw;rfl⟩
 | q::rs,vs,h=>by
  unfold bw at h
  obtain ⟨x,us,rfl,h1,h2⟩:=h
  show bw S w (q::(rs++[r])) (x::(us++[u]))
  unfold bw
  exact ⟨x,us++[u],rfl,h1,bw.app hr rs h2⟩
theorem fN.open {S:Nat->Prop} {w:World} {r:RT} {v:Value} (h:fN S w r v):∃b kp kc vs,v=.pointer (some ⟨b,0,none⟩)/\S b/\w.cell? ⟨b,0,none⟩=some (.string r.nm)/\w.cell? ⟨b,1,none⟩=some (.slice kp r.kids.length kc)/\aq S w (.slice kp r.kids.length kc) r.kids.length (vN vs)/\bw S w r.kids vs:=by
 cases r with
 | node nm ks =>
  unfold fN at h;obtain ⟨b,kv,vs,rfl,hS,hb,hk,hs⟩:=h;obtain ⟨kp,kc,rfl,_,_⟩:=aq.open hk;exact ⟨b,kp,kc,vs,rfl,hS,by simp [World.cell?,hb,RT.nm],by simp [World.cell?,hb,RT.kids],hk,hs⟩
theorem wF {p:Option Addr} {n cap:Nat} {S:Nat->Prop} {w:World} {vs:List Value} (h:aq S w (.slice p n cap) n (vN vs)) {k:Nat} (hk:k<n):∃b off,p=some ⟨b,off,none⟩/\w.cell? ⟨b,off+k,none⟩=some (vN vs k):=by
 obtain ⟨q,c,e,_,H⟩:=aq.open h;injection e with e1;subst e1;exact H k hk
structure sS (base B:Nat) (w:World) (nm:ByteArray) (kv:Value) (rs:List RT):Prop where
 node:w.heap[B]? = some (.cells #[.string nm,kv] 254 (0,0))
 lo:base<=B
 kids:∃vs,au (B+1) 210 w kv vs/\bw (fun b=>base<=b/\b≠B/\kv.ownBlock≠some b) w rs vs
theorem sS.lt {base B:Nat} {w:World} {nm:ByteArray} {kv:Value} {rs:List RT} (h:sS base B w nm kv rs):B<w.heap.size:=(fq.1 h.node).1
theorem sS.cells {base B:Nat} {w:World} {nm:ByteArray} {kv:Value} {rs:List RT} (h:sS base B w nm kv rs):w.cell? ⟨B,0,none⟩=some (.string nm)/\w.cell? ⟨B,1,none⟩=some kv/\w.frozen? ⟨B,0,none⟩=false/\w.frozen? ⟨B,1,none⟩=false:=by
 refine ⟨?_,?_,?_,?_⟩<;>simp [World.cell?,World.frozen?,h.node]
theorem sS.start (w:World) {base:Nat} (hb:base<=w.heap.size) (nm:ByteArray):sS base w.heap.size (w.alloc (.cells #[.string nm,.slice none 0 0] 254)) nm (.slice none 0 0) [] :=
 ⟨ng _ _,hb,[],au.nil _ _ _,by unfold bw;rfl⟩
theorem sS.up {base B:Nat} {w w':World} {nm:ByteArray} {kv:Value} {rs:List RT} (h:sS base B w nm kv rs) (hu:Up w w'):sS base B w' nm kv rs:=by
 obtain ⟨vs,ho,hr⟩:=h.kids;exact ⟨(bH hu B h.lt).trans h.node,h.lo,vs,ho.kept fun b _ hb=>bH hu b hb,bw.keep (hu.kept _) rs hr⟩
theorem sS.done {base B:Nat} {w:World} {nm:ByteArray} {kv:Value} {rs:List RT} (h:sS base B w nm kv rs):fN (fun b=>base<=b) w (.node nm rs) (.pointer (some ⟨B,0,none⟩)):=by
 obtain ⟨vs,ho,hr⟩:=h.kids;have hlen:=bw.len rs hr;unfold fN;have h1:=ho.uf;rw [hlen] at h1;exact ⟨B,kv,vs,rfl,h.lo,h.node,h1.sub fun b hb _=>by have:=h.lo;omega,bw.sub (fun b hb _=>hb.1) rs hr⟩
theorem sS.push {base B:Nat} {w W:World} {nm:ByteArray} {kv kv':Value} {rs:List RT} {r:RT} {u:Value} {lim:Nat} (h:sS base B w nm kv rs) (hr:fN (fun b=>lim<=b) w r u) (jC:base<=lim) (hl2:B<lim) (JK:∀b,kv.ownBlock=some b->b<lim)
  {vs:List Value} (hv:bw (fun b=>base<=b/\b≠B/\kv.ownBlock≠some b) w rs vs) (ho:au (B+1) 210 W kv' (vs++[u])) (hg:w.grownBy W kv.ownBlock) (gH:∀b,kv'.ownBlock=some b->kv.ownBlock=some b\/w.heap.size<=b) :
  sS base B (W.setCell ⟨B,1,none⟩ kv') nm kv' (rs++[r]):=by
 have hBl:=h.lt;have hBk:kv.ownBlock≠some B:=fun e=>by obtain ⟨vs0,OH,_⟩:=h.kids;have:=(av OH e).1;omega
 have aji:kv'.ownBlock≠some B:=fun e=>by
  rcases gH B e with h1 | h1
  ·exact hBk h1
  ·omega
 have cA:∀b,b≠B->(W.setCell ⟨B,1,none⟩ kv').heap[b]? = W.heap[b]?:=fun b hb=>blk_setCell_other _ _ _ _ hb;have hB:W.heap[B]? = w.heap[B]?:=hg.block B hBl (fun e=>hBk e.symm);have hkeep:∀b,b≠B->kv.ownBlock≠some b->b<w.heap.size->(W.setCell ⟨B,1,none⟩ kv').heap[b]? = w.heap[b]?:=fun b h1 h2 h3=>(cA b h1).trans (hg.block b h3 fun e=>h2 e.symm);refine ⟨?_,h.lo,vs++[u],ho.eH fun b hb=>cA b (fun e=>aji (by rw [hb,e])),?_⟩
 ·have hn:=hB.trans h.node
  simp [World.setCell,Array.getElem?_modify,hn]
 ·have k1:Kept (fun b=>base<=b/\b≠B/\kv.ownBlock≠some b) w (W.setCell ⟨B,1,none⟩ kv'):=fun b hb hl=>hkeep b hb.2.1 hb.2.2 hl
  have k2:Kept (fun b=>lim<=b) w (W.setCell ⟨B,1,none⟩ kv'):=fun b hb hl=>hkeep b (by have:lim<=b:=hb;omega) (fun e=>by have:=JK b e;have:lim<=b:=hb;omega) hl;have hsz:(W.setCell ⟨B,1,none⟩ kv').heap.size=W.heap.size:=by simp [World.size_setCell]
  have hold:∀b,b<w.heap.size->kv.ownBlock≠some b->kv'.ownBlock≠some b:=fun b h1 h2 e=>by
   rcases gH b e with h3 | h3
   ·exact h2 h3
   ·omega
  have h1:bw (fun b=>base<=b/\b≠B/\kv'.ownBlock≠some b) w rs vs:=bw.sub (fun b hb hl=>⟨hb.1,hb.2.1,hold b hl hb.2.2⟩) rs hv;have h2:fN (fun b=>base<=b/\b≠B/\kv'.ownBlock≠some b) w r u:=fN.sub (fun b hb hl=>⟨by have:lim<=b:=hb;omega,by have:lim<=b:=hb;omega,hold b hl fun e=>by have:=JK b e;have:lim<=b:=hb;omega⟩) r hr;have k3:Kept (fun b=>base<=b/\b≠B/\kv'.ownBlock≠some b/\kv.ownBlock≠some b) w (W.setCell ⟨B,1,none⟩ kv'):=fun b hb hl=>hkeep b hb.2.1 hb.2.2.2 hl;have h1':bw (fun b=>base<=b/\b≠B/\kv'.ownBlock≠some b/\kv.ownBlock≠some b) w rs vs:=bw.sub (fun b hb hl=>⟨hb.1,hb.2.1,hold b hl hb.2.2,hb.2.2⟩) rs hv;have Xt:fN (fun b=>base<=b/\b≠B/\kv'.ownBlock≠some b/\kv.ownBlock≠some b) w r u:=fN.sub (fun b hb hl=>⟨by have:lim<=b:=hb;omega,by have:lim<=b:=hb;omega,hold b hl fun e=>by have:=JK b e;have:lim<=b:=hb;omega,fun e=>by have:=JK b e;have:lim<=b:=hb;omega⟩) r hr;exact bw.sub (fun b hb _=>⟨hb.1,hb.2.1,hb.2.2.1⟩) _ (bw.app (fN.keep k3 r Xt) rs (bw.keep k3 rs h1'))
end
section
open Go.RowKit Go.Deep
def EX (a b:ByteArray):Bool:=Op.bytesLess a.toList b.toList
def nN (a b:ByteArray):ByteArray:=if (EX a b || a.toList==b.toList)=true then a else b
mutual
def fV:RT->ByteArray
 | .node nm []=>nm
 | .node _ (k::ks)=>lH (fV k) ks
def lH (s:ByteArray):List RT->ByteArray
 | []=>s
 | r::rs=>lH (nN s (fV r)) rs
end
theorem MF (s:ByteArray):∀(a b:List RT),lH s (a++b)=lH (lH s a) b
 | [],_=>by rw [lH];rfl
 | r::a,b=>by rw [cm,lH,lH];exact MF _ a b
theorem VT {s:ByteArray} {rs:List RT} {j:Nat} (h:j<rs.length):lH s (rs.take (j+1))=nN (lH s (rs.take j)) (fV (gr rs j)):=by
 have hg:gr rs j=rs[j]:=by simp [gr,h]
 rw [jQ h,MF,lH,lH,hg]
theorem S6 {P:Program} {w:World} (ts:Array TypeId) (t:TypeId) (x y:ByteArray):(Builtin.min_ ts t #[.string x,.string y]).run P w=.ok (.string (nN x y)) w:=by
 unfold nN EX;simp [Builtin.min_,Builtin.min2,Op.stringOp,asBool]
theorem Cn {ks:List RT} {j:Nat} (h:j<ks.length):aP (gr ks j)<=aK ks:=by
 induction ks generalizing j with
 | nil=>simp at h
 | cons k ks ih =>
  rw [aK]
  cases j with
  | zero=>show aP k<=_;omega
  | succ j =>
   have:=ih (j:=j) (by simpa using h)
   show aP (gr ks j)<=_
   omega
theorem xV:∀ks:List RT,ks.length<=aK ks
 | []=>ah _
 | k::ks=>by
  have:=xV ks
  have:=oT k
  rw [aK,aW];omega
theorem PJ (S:Nat->Prop):∀(d:Nat) (r:RT),aP r<=d->d<=1000000->∀(w:World) (v:Value),fN S w r v->Calls Tryz.prog 254 #[v] w fun e w'=>e=.returned (.string (fV r))/\w=w':=by
 intro d
 induction d with
 | zero=>intro r hr;have:=oT r;omega
 | succ d ih =>
 intro r hr hd w v hv;cases r with
 | node nm ks =>
  obtain ⟨b,kp,kc,vs,rfl,hS,c0,c1,hk,hs⟩:=hv.open;simp only [RT.nm,RT.kids] at c0 c1 hk hs;have jt:=xV ks;rw [aP] at hr;have oO:Hid (∀j,j<ks.length->Calls Tryz.prog 254 #[vN vs j] w fun e w'=>e=.returned (.string (fV (gr ks j)))/\w=w'):=fun j hj=>by have:=Cn hj;exact ih _ (by omega) (by omega) w _ (bw.get ks hs j hj)
  have HK:=aa hk;clear ih hv hS hs hk;cases ks with
  | nil =>
   clear hr;go_in;go_wp2;go_ret;exact ⟨rfl,rfl⟩
  | cons k0 rs =>
   obtain ⟨kb,ko,rfl,hc0⟩:=wF HK.out (show 0<(k0::rs).length by simp);(have d0:(((k0::rs).length:Int)==0)=false:=by simp;omega);(have hpos:(0:Int)<((k0::rs).length:Int):=by rw [aW];omega);(have HL:Hid (fV (.node nm (k0::rs))=lH (fV k0) rs):=by unfold Hid;rw [fV]);have H0:Hid (Calls Tryz.prog 254 #[vN vs 0] w fun e w'=>e=.returned (.string (fV k0))/\w=w'):=oO.out 0 (by simp);have dG:Hid ((k0::rs).length=rs.length+1):=aW;(have lQ:Hid ((k0::rs).length<=1000000):=by unfold Hid;omega);rw [mZ] at hc0;clear hr;generalize (k0::rs).length=n at *;go_in;go_wp2_with fail;refine H0.out.mono ?_;rintro e w' ⟨rfl,rfl⟩;go_wp2
   go_loop [3,4] (fun a i=>∃j:Nat,j<=rs.length/\i=.int .i64 (j+1:Nat)/\a=.string (lH (fV k0) (rs.take j))) (fun _ i=>n - (intOf i).toNat)
   case atStart=>exact ⟨0,aF _,rfl,by rw [List.take_zero,lH]⟩
   case round =>
    obtain ⟨j,hj,rfl,rfl⟩:=hrel;by_cases hlt:j<rs.length
    ·obtain ⟨kb2,ko2,e2,B5⟩:=wF HK.out (show j+1<n by have:=dG.out;omega)
     injection e2 with e2;injection e2 with e3 e4;subst e3;subst e4;have HJ:Hid (Calls Tryz.prog 254 #[vN vs (j+1)] w fun e w'=>e=.returned (.string (fV (gr rs j)))/\w=w'):=oO.out (j+1) (by have:=dG.out;omega);have HT:=aa (VT (s:=fV k0) hlt);(have i1:(0:Int)<=((j+1:Nat):Int):=by omega);(have i2:((j+1:Nat):Int)<(n:Int):=by have:=dG.out;omega);(have i3:((j+1:Nat):Int)<1000000:=by have:=dG.out;have:=lQ.out;omega);have aR:=aa hlt;have hmin:=fun ts t=>S6 (P:=Tryz.prog) (w:=w) ts t (lH (fV k0) (rs.take j)) (fV (gr rs j));generalize hm:j+1=m at *;clear hlt hj hc0;go_wp2_with fail;refine HJ.out.mono ?_;rintro e w' ⟨rfl,rfl⟩;go_wp2
     go_round
     case rel=>exact ⟨m,by have:=aR.out;omega,by go_num,by rw [HT.out]⟩
     case measure=>have:=aR.out;have:=dG.out;simp [intOf];omega
    ·obtain rfl:j=rs.length:=by omega
     (have d1:decide (((rs.length+1:Nat):Int)<(n:Int))=false:=by simp;have:=dG.out;omega);(have hnl:¬(((rs.length+1:Nat):Int)<(n:Int)):=by have:=dG.out;omega);have kH:=aa hnl;go_wp2;go_ret;exact ⟨by rw [HL.out];rfl,rfl⟩
end
section
def ax.app (t:ax) (r:RT) (p:Int):ax:=⟨t.ps++kT r t.ps.length p,t.ns++eo r⟩
def ax.apps (t:ax) (rs:List RT) (own:Nat):ax:=⟨t.ps++fU rs own t.ps.length,t.ns++eu rs⟩
theorem PK:∀(a b:List RT) (own n:Nat),fU (a++b) own n=fU a own n++fU b own (n+aK a)
 | [],_,_,_=>rfl
 | r::a,b,own,n=>by rw [cm,fU,fU,PK a b own (n+aP r),aK,dS,Nat.add_assoc]
theorem PL:∀(a b:List RT),eu (a++b)=eu a++eu b
 | [],_=>rfl
 | r::a,b=>by rw [cm,eu,eu,PL a b,dS]
theorem Ih (t:ax) (own:Nat):t.apps [] own=t:=by simp [ax.apps,fU,eu]
theorem Ya (t:ax) (a b:List RT) (own:Nat):(t.apps a own).apps b own=t.apps (a++b) own:=by
 unfold ax.apps;rw [PK,PL,dS,dS,bg,ri]
theorem Ii (t:ax) (a:List RT) (r:RT) (own:Nat):(t.apps a own).app r (own:Int)=t.apps (a++[r]) own:=by
 rw [<- Ya];simp [ax.apps,ax.app,fU,eu]
end
end Go.Proofs.YthgabkgmkolobaaGreat
