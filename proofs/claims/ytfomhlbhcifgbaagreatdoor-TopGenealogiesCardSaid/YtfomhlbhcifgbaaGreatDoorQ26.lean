/- Rose trees: all parts of one; when its numbering is a valid tree. Sorting rose trees .. -/
import Derived.Test.YtfomhlbhcifgbaaGreatDoorQ25
set_option maxRecDepth 100000
namespace Go.Proofs.YtfomhlbhcifgbaaGreatDoor
section
mutual
def cn:RT->List RT
 | .node nm ks=>.node nm ks::dL ks
def dL:List RT->List RT
 | []=>[]
 | r::rs=>cn r++dL rs
end
mutual
theorem lD:∀r:RT,(cn r).length=aX r
 | .node _ ks=>by rw [cn,aX,bB,Ee ks];omega
theorem Ee:∀rs:List RT,(dL rs).length=cM rs
 | []=>rfl
 | r::rs=>by rw [dL,cM,bG,lD r,Ee rs]
end
mutual
theorem o5:∀r:RT,dH r=(cn r).map RT.nm
 | .node nm ks=>by rw [cn,dH,cV,G2 ks];rfl
theorem G2:∀rs:List RT,eH rs=(dL rs).map RT.nm
 | []=>rfl
 | r::rs=>by rw [dL,eH,cm,o5 r,G2 rs]
end
theorem ou (rs:List RT):dL rs=rs.flatMap cn:=by
 induction rs with
 | nil=>rfl
 | cons r rs ih=>rw [dL,iI,ih]
def AtR (t:aA) (r:RT) (n:Nat) (p:Int):Prop:=∃pre post,t.ps=pre++(jk r n p++post)/\pre.length=n/\p<n/\(∀x∈pre,x<(n:Int))/\(∀x∈post,x<(n:Int)\/((n+aX r:Nat):Int)<=x)
def G4 (t:aA) (rs:List RT) (own m:Nat):Prop:=∃pre post,t.ps=pre++(fu rs own m++post)/\pre.length=m/\own<m/\(∀x∈pre,x<(m:Int))/\(∀x∈post,x<(own:Int)\/((m+cM rs:Nat):Int)<=x)
theorem AtR.kids {t:aA} {nm:ByteArray} {ks:List RT} {n:Nat} {p:Int} (h:AtR t (.node nm ks) n p):eX t.ps n=yw ks (n+1)/\G4 t ks n (n+1):=by
 obtain ⟨pre,post,hps,hpl,hp,hpre,hpost⟩:=h;rw [aX] at hpost;rw [jk,cw] at hps;constructor
 ·rw [G0]
  ·rw [hps,r9,q7 n pre 0 (fun x hx e=>by have:=hpre x hx;omega),dz,kf,if_neg (by omega),r9,hpl,jQ,CU n ks (n+1) (by omega),vS]
   rw [q7 n post _ (fun x hx e=>by rcases hpost x hx with h1 | h1<;>omega),gm]
  ·intro i hi e
   rw [hps] at e;rcases Nat.lt_trichotomy i n with h1 | h1 | h1
   ·rw [AJ _ (by omega)] at e
    have:=hpre _ (ur (l:=pre) (k:=i) (by omega));omega
   ·subst h1
    have h2:=AH pre (p::(fu ks i (i+1)++post)) 0;rw [hpl] at h2;have h2:gi (pre++p::(fu ks i (i+1)++post)) i=p:=h2;rw [h2] at e;omega
   ·exact h1
 ·refine ⟨pre++[p],post,by rw [hps,cU];rfl,by simp [hpl],by omega,fun x hx=>?_,fun x hx=>?_⟩
  ·rcases eD.1 hx with hx | hx
   ·have:=hpre x hx;omega
   ·have:x=p:=by simpa using hx
    omega
  ·rcases hpost x hx with h3 | h3
   ·exact .inl h3
   ·exact .inr (by omega)
theorem G4.cons {t:aA} {r:RT} {rs:List RT} {own m:Nat} (h:G4 t (r::rs) own m):AtR t r m own/\G4 t rs own (m+aX r):=by
 obtain ⟨pre,post,hps,hpl,hm,hpre,hpost⟩:=h;rw [cM] at hpost;rw [fu,cU] at hps;constructor
 ·refine ⟨pre,_,hps,hpl,by omega,hpre,fun x hx=>?_⟩
  rcases eD.1 hx with hx | hx
  ·rcases uL rs own (m+aX r) x hx with h2 | ⟨h2,_⟩
   ·exact .inl (by omega)
   ·exact .inr h2
  ·rcases hpost x hx with h2 | h2
   ·exact .inl (by omega)
   ·exact .inr (by omega)
 ·refine ⟨pre++jk r m own,post,by rw [hps,cU],by rw [bG,lW,hpl],by omega,fun x hx=>?_,fun x hx=>?_⟩
  ·rcases eD.1 hx with hx | hx
   ·have:=hpre x hx;omega
   ·rcases G1 r m own x hx with h3 | ⟨_,h3⟩<;>omega
  ·rcases hpost x hx with h3 | h3
   ·exact .inl h3
   ·exact .inr (by omega)
mutual
theorem J9 {t:aA}:∀(r:RT) (n:Nat) (p:Int),AtR t r n p->∀(i:Nat) (s:RT),(cn r)[i]? = some s->eX t.ps (n+i)=yw s.kids (n+i+1)
 | .node nm ks,n,p,h,i,s,hs=>by
  rw [cn] at hs
  cases i with
  | zero =>
   have e:RT.node nm ks=s:=by simpa using hs
   subst e
   exact h.kids.1
  | succ i =>
   rw [List.getElem?_cons_succ] at hs
   have:=G5 ks n (n+1) h.kids.2 i s hs
   rw [show n+(i+1)=n+1+i by omega];exact this
theorem G5 {t:aA}:∀(rs:List RT) (own m:Nat),G4 t rs own m->∀(i:Nat) (s:RT),(dL rs)[i]? = some s->eX t.ps (m+i)=yw s.kids (m+i+1)
 | [],_,_,_,i,s,hs=>by simp [dL] at hs
 | r::rs,own,m,h,i,s,hs=>by
  rw [dL] at hs
  by_cases hi:i<aX r
  ·rw [KP (by rw [lD];exact hi)] at hs
   exact J9 r m own h.cons.1 i s hs
  ·rw [List.getElem?_append_right (by rw [lD];omega),lD] at hs
   have:=G5 rs own (m+aX r) h.cons.2 (i - aX r) s hs
   rw [show m+aX r+(i - aX r)=m+i by omega] at this;exact this
end
theorem AtR.flat (r:RT):AtR (flat r) r 0 (-1):=⟨[],[],by simp [YtfomhlbhcifgbaaGreatDoor.flat],rfl,by omega,fun x hx=>by simp at hx,fun x hx=>by simp at hx⟩
theorem NK {r:RT} {i:Nat} {s:RT} (h:(cn r)[i]? = some s):eX (flat r).ps i=yw s.kids (i+1):=by
 have:=J9 r 0 (-1) (AtR.flat r) i s h;simpa using this
mutual
theorem NL:∀(r:RT) (n:Nat) (p:Int) (j:Nat),0<j->j<aX r->(n:Int)<=gi (jk r n p) j/\gi (jk r n p) j<((n+j:Nat):Int)
 | .node nm ks,n,p,j,h0,hj=>by
  rw [aX] at hj
  obtain ⟨k,rfl⟩:∃k,j=k+1:=⟨j - 1,by omega⟩
  have h:=Ka ks n (n+1) k (by omega) (by omega)
  have e:gi (jk (.node nm ks) n p) (k+1)=gi (fu ks n (n+1)) k:=by rw [jk];simp [gi]
  rw [e]
  exact ⟨h.1,by have:=h.2;omega⟩
theorem Ka:∀(rs:List RT) (own n j:Nat),own<n->j<cM rs->(own:Int)<=gi (fu rs own n) j/\gi (fu rs own n) j<((n+j:Nat):Int)
 | [],_,_,_,_,h=>by simp [cM] at h
 | r::rs,own,n,j,ho,hj=>by
  rw [cM] at hj
  rw [fu]
  by_cases hr:j<aX r
  ·rw [AJ _ (by rw [lW];exact hr)]
   by_cases h0:j=0
   ·subst h0
    obtain ⟨nm,ks⟩:=r
    have e:gi (jk (.node nm ks) n own) 0=own:=by rw [jk];simp [gi]
    rw [e];exact ⟨by omega,by omega⟩
   ·have h:=NL r n own j (by omega) hr
    exact ⟨by omega,h.2⟩
  ·have h:=Ka rs own (n+aX r) (j - aX r) (by omega) (by omega)
   have e:=AH (jk r n own) (fu rs own (n+aX r)) (j - aX r)
   rw [lW,show aX r+(j - aX r)=j by omega] at e
   rw [e]
   exact ⟨h.1,by have:=h.2;omega⟩
end
theorem G6 (r:RT):jt (flat r).ps=true:=by
 refine Fa fun j hj=>?_;rw [oZ] at hj;show nR j (gi (jk r 0 (-1)) j)=true;unfold nR;by_cases h0:j=0
 ·subst h0
  obtain ⟨nm,ks⟩:=r;rw [if_pos rfl,jk];rfl
 ·rw [if_neg h0]
  have h:=NL r 0 (-1) j (by omega) hj;have h1:0<=gi (jk r 0 (-1)) j:=by have:=h.1;omega
  have h2:gi (jk r 0 (-1)) j<(j:Int):=by have:=h.2;omega
  simp [h1,h2]
def gM (r:RT):List ByteArray:=(dH r).filter fun s=>decide (s.size≠0)
structure lX (r:RT):Prop where
 Kb:∀s∈cn r,s.kids≠[]->s.nm.size=0
 lf:∀s∈cn r,s.kids=[]->bD s.nm.data.toList=true
 nd:(gM r).Nodup
theorem vU {s:ByteArray} (h:bD s.data.toList=true):s.size≠0:=by
 intro e;have:s.data.toList=[]:=by apply nN;simpa using e
 rw [this] at h
 revert h;decide
theorem yx {r:RT} (h:lX r) (hs:aX r<=64):aF (flat r)=0:=by
 unfold aF;rw [oZ,y7,if_neg (by have:=Ed r;omega),if_neg (by omega),if_neg (by simp),if_pos (G6 r)];refine fT fun i hi=>?_;have hi2:i<(cn r).length:=by rw [lD];exact hi
 obtain ⟨s,hsi⟩:∃s,(cn r)[i]? = some s:=⟨_,kB hi2⟩;have hmem:s∈cn r:=A4 hsi;have hk:=NK hsi;have hnm:gs (flat r).ns i=s.nm:=by show gs (dH r) i=_;rw [o5];simp [gs,hsi]
 have hin:=pR (G6 r) i;unfold mj;rw [hnm];by_cases hks:s.kids=[]
 ·have h1:isIn (flat r).ps i=false:=by
   cases hb:isIn (flat r).ps i with
   | false=>rfl
   | true=>exact absurd (by rw [hk,hks];rfl) (hin.2 hb)
  rw [h1,if_neg (by simp),if_pos (h.lf s hmem hks)]
  have h2:fO (flat r).ns i=false:=by
   rw [ve];intro e
   obtain ⟨j,hj,e⟩:=cR.1 e
   have hj:j<i:=bX.1 hj
   have e:gs (dH r) j=gs (dH r) i:=of_decide_eq_true e
   have XK:=List.pairwise_filter.1 h.nd
   have Bk:=y6 r
   have h3:=vw.1 XK j i (by omega) (by omega) hj
   have hgj:gs (dH r) j=(dH r)[j]'(by omega):=by simp [gs,show j<(dH r).length by omega]
   have hgi:gs (dH r) i=(dH r)[i]'(by omega):=by simp [gs,show i<(dH r).length by omega]
   rw [<- hgj,<- hgi,e] at h3
   have h4:gs (dH r) i=s.nm:=hnm
   have h5:=vU (h.lf s hmem hks)
   rw [h4] at h3
   exact h3 (by simpa using h5) (by simpa using h5) rfl
  rw [h2];rfl
 ·have h1:isIn (flat r).ps i=true:=hin.1 (by
   rw [hk]
   cases hq:s.kids with
   | nil=>exact absurd hq hks
   | cons a l=>simp [yw])
  rw [h1,if_pos rfl,if_pos (h.Kb s hmem hks)]
end
section
theorem Ef (a:RT):∀l,(oW a l).Perm (a::l)
 | []=>qH _
 | b::l=>by
  rw [oW]
  split
  ·exact qH _
  ·exact ((Ef a l).cons b).trans (List.Perm.swap a b l)
theorem mH:∀l:List RT,(iV l).Perm (l.map cE)
 | []=>qH _
 | r::rs=>by
  rw [iV,cV]
  exact (Ef _ _).trans ((mH rs).cons _)
theorem vV (r:RT):(cE r).kids=iV r.kids:=by cases r;rfl
theorem vW (r:RT):(cE r).nm=r.nm:=by cases r;rfl
theorem qW {l:List RT}:iV l=[]↔l=[]:=by
 constructor
 ·intro h
  have:=(mH l).length_eq;rw [h,aD] at this;exact nN this.symm
 ·rintro rfl;rfl
theorem Lz {l l':List RT} (h:l.Perm l'):(dL l).Perm (dL l'):=by
 rw [ou,ou];exact h.flatMap_right _
mutual
theorem nG:∀r:RT,(cn (cE r)).Perm ((cn r).map cE)
 | .node nm ks=>by
  rw [cE,cn,cn,cV]
  refine List.Perm.cons _ ?_
  exact (Lz (mH ks)).trans (BN ks)
theorem BN:∀rs:List RT,(dL (rs.map cE)).Perm ((dL rs).map cE)
 | []=>qH _
 | r::rs=>by
  rw [cV,dL,dL,cm]
  exact (nG r).append (BN rs)
end
theorem LA (r:RT):aX (cE r)=aX r:=by
 have:=(nG r).length_eq;rw [aD,lD,lD] at this;exact this
theorem QZ (r:RT):(dH (cE r)).Perm (dH r):=by
 rw [o5,o5];refine ((nG r).map RT.nm).trans ?_;rw [jO];have:(RT.nm ∘ cE)=RT.nm:=funext vW;rw [this]
theorem vX (r:RT):(gM (cE r)).Perm (gM r):=(QZ r).filter _
theorem lX.sort {r:RT} (h:lX r):lX (cE r):=by
 refine ⟨fun s hs hk=>?_,fun s hs hk=>?_,(vX r).nodup_iff.2 h.nd⟩
 ·obtain ⟨q,hq,rfl⟩:=ek.1 ((nG r).mem_iff.1 hs)
  rw [vV] at hk;rw [vW];exact h.Kb q hq (fun e=>hk (qW.2 e))
 ·obtain ⟨q,hq,rfl⟩:=ek.1 ((nG r).mem_iff.1 hs)
  rw [vV] at hk;rw [vW];exact h.lf q hq (qW.1 hk)
def vY:List RT->Prop
 | []=>True
 | [_]=>True
 | a::b::l=>gL (gh a) (gh b)<=0/\vY (b::l)
theorem vY.tail {a:RT} {l:List RT} (h:vY (a::l)):vY l:=by
 cases l with
 | nil=>trivial
 | cons b l=>exact h.2
theorem NM (a:RT) (l:List RT):∃c l',oW a l=c::l'/\(c=a\/∃t,l=c::t):=by
 cases l with
 | nil=>exact ⟨a,[],rfl,.inl rfl⟩
 | cons b l =>
  rw [oW];split
  ·exact ⟨a,b::l,rfl,.inl rfl⟩
  ·exact ⟨b,oW a l,rfl,.inr ⟨l,rfl⟩⟩
theorem G7 (a:RT):∀l,vY l->vY (oW a l)
 | [],_=>trivial
 | b::l,h=>by
  rw [oW]
  split
  ·rename_i h1;exact ⟨h1,h⟩
  ·rename_i h1
   have h2:=G7 a l h.tail
   obtain ⟨c,l',e,hc⟩:=NM a l
   rw [e] at h2 ⊢
   refine ⟨?_,h2⟩
   rcases hc with rfl | ⟨t,rfl⟩
   ·have:=nu (gh c) (gh b);omega
   ·exact h.1
theorem BO:∀l,vY (iV l)
 | []=>trivial
 | r::rs=>by rw [iV];exact G7 _ _ (BO rs)
theorem UA {a:RT} {l:List RT} (h:vY (a::l)):oW a l=a::l:=by
 cases l with
 | nil=>rfl
 | cons b l=>rw [oW,if_pos h.1]
theorem BP:∀l:List RT,vY l->(∀r∈l,cE r=r)->iV l=l
 | [],_,_=>rfl
 | r::rs,h,hf=>by rw [iV,BP rs h.tail (fun q hq=>hf q (by simp [hq])),hf r (by simp)];exact UA h
mutual
theorem BQ:∀r:RT,cE (cE r)=cE r
 | .node nm ks=>by
  rw [cE,cE]
  congr 1
  refine BP _ (BO ks) (fun q hq=>?_)
  obtain ⟨s,hs,rfl⟩:=ek.1 ((mH ks).mem_iff.1 hq)
  exact zN ks s hs
theorem zN:∀(rs:List RT) (s:RT),s∈rs->cE (cE s)=cE s
 | [],_,h=>by cases h
 | r::rs,s,h=>by
  by_cases e:s=r
  ·rw [e];exact BQ r
  ·exact zN rs s (by
    rcases bQ.1 h with h | h
    ·exact absurd h e
    ·exact h)
end
section
variable {F:aW} {n:Nat} {rk:Nat->Nat}
theorem tC (h:Wf F n rk):∀ {d i:Nat},i<n->rk i<=d->cn (bh F rk i)=(bW F rk i).map (bh F rk):=by
 intro d
 induction d with
 | zero =>
  intro i hi hd;have hk:F.kids i=[]:=by
   cases hk:F.kids i with
   | nil=>rfl
   | cons k l=>have:=(h.kid i hi k (by rw [hk];simp)).2;omega
  rw [cu h hi,hk];have e:bh F rk i=.node (F.nm i) []:=by rw [ey h hi,hk];rfl
  rw [e,cn,List.flatMap_nil,cV,e];rfl
 | succ d ih =>
  intro i hi hd;rw [cu h hi,cV,vu];have e:=ey h hi
  conv=>lhs;rw [e,cn,ou,List.flatMap_map]
  rw [<- e];congr 1;refine gW fun k hk=>?_;have:=h.kid i hi k hk;exact ih this.1 (by omega)
theorem uM (h:Wf F n rk) {i:Nat} (hi:i<n):(bh F rk i).nm=F.nm i:=by rw [ey h hi];rfl
theorem yy (h:Wf F n rk) {i:Nat} (hi:i<n):(bh F rk i).kids=(F.kids i).map (bh F rk):=by rw [ey h hi];rfl
end
theorem jG {t:aA} (h:aF t=0) {j:Nat} (hj:j∈bW (k9 t) (fF t) 0):j<t.ps.length :=
 oT (fB h).wf (aG h).1 (aj _) ((ew (fB h).wf (aG h).1 (aj _)).1 hj)
theorem AK {t:aA} (h:aF t=0):cn (nE t)=(bW (k9 t) (fF t) 0).map (bh (k9 t) (fF t)):=tC (fB h).wf (aG h).1 (aj _)
theorem Kc {t:aA} (h:aF t=0):dH (nE t)=(bW (k9 t) (fF t) 0).map (gs t.ns):=by
 rw [o5,AK h,jO];refine iK fun j hj=>?_;exact uM (fB h).wf (jG h hj)
theorem G8 {ps:List Int} {ns:List ByteArray} {i:Nat} (h:mj ps ns i=0) (hi:isIn ps i=true):(gs ns i).size=0:=by
 unfold mj at h;rw [if_pos hi] at h;split at h
 ·assumption
 ·cases h
theorem NN {ps:List Int} {ns:List ByteArray} {i:Nat} (h:mj ps ns i=0) (hi:isIn ps i=false):bD (gs ns i).data.toList=true/\fO ns i=false:=by
 unfold mj at h;rw [hi,if_neg (by simp)] at h;split at h
 ·rename_i h1
  refine ⟨h1,?_⟩;cases hs:fO ns i with
  | false=>rfl
  | true=>rw [hs] at h;cases h
 ·cases h
theorem Q0 {t:aA} (h:aF t=0):lX (nE t):=by
 obtain ⟨hp,hl,hn,hok,he⟩:=aG h;have hwf:=(fB h).wf;refine ⟨fun s hs hk=>?_,fun s hs hk=>?_,?_⟩
 ·rw [AK h] at hs
  obtain ⟨j,hj,rfl⟩:=ek.1 hs;have hjn:=jG h hj;rw [yy hwf hjn] at hk;rw [uM hwf hjn];have:isIn t.ps j=true:=(pR hok j).1 (fun e=>hk (by rw [oU,e];rfl));exact G8 (he j hjn) this
 ·rw [AK h] at hs
  obtain ⟨j,hj,rfl⟩:=ek.1 hs;have hjn:=jG h hj;rw [yy hwf hjn] at hk;rw [uM hwf hjn];have:isIn t.ps j=false:=by
   cases hb:isIn t.ps j with
   | false=>rfl
   | true=>exact absurd (List.map_eq_nil_iff.1 hk) ((pR hok j).2 hb)
  exact (NN (he j hjn) this).1
 ·unfold gM
  rw [Kc h,List.filter_map];have iR:=lB (fB h) (R:=t.ps.length) (fun i _=>yq t i) hp (aj _);refine List.pairwise_map.2 (List.Pairwise.imp_of_mem ?_ (List.Pairwise.filter _ iR));intro a b ha hb hne e;have ha':=nO.1 ha;have hb':=nO.1 hb;have NH:=jG h ha'.1;have NP:=jG h hb'.1;have leaf:∀i,i<t.ps.length->(gs t.ns i).size≠0->(k9 t).kids i=[]:=fun i hi hs=>by
   rw [oU];cases hk:eX t.ps i with
   | nil=>rfl
   | cons x l=>exact absurd (G8 (he i hi) ((pR hok i).1 (by rw [hk];simp))) hs
  exact hne ((fB h).acF a b NH NP (leaf a NH (by simpa using ha'.2)) (leaf b NP (by simpa using hb'.2)) e)
end
section
def lY (ps:List Int) (n:Nat):Nat->Nat->Nat
 | 0,k=>k
 | d+1,k=>if n<k then lY ps n d (gi ps k).toNat else k
def qw (ps:List Int) (n i:Nat):Bool:=decide (lY ps n i i=n)
theorem vZ {ps:List Int} (h:jt ps=true) {k:Nat} (hk:k<ps.length) (h0:0<k):0<=gi ps k/\gi ps k<k:=by
 have h1:=Cu h hk;unfold nR at h1;rw [if_neg (by omega)] at h1;simpa using h1
theorem LB {ps:List Int} (hp:jt ps=true) (n:Nat):∀ {d e k:Nat},k<ps.length->k<=d->k<=e->lY ps n d k=lY ps n e k:=by
 intro d
 induction d with
 | zero =>
  intro e k hl h1 h2;obtain rfl:k=0:=by omega
  cases e with
  | zero=>rfl
  | succ e=>simp [lY]
 | succ d ih =>
  intro e k hl h1 h2;cases e with
  | zero =>
   (obtain rfl:k=0:=by omega);simp [lY]
  | succ e =>
   rw [lY,lY];split
   ·rename_i hnk
    have:=vZ hp hl (by omega);exact ih (by omega) (by omega) (by omega)
   ·rfl
theorem LC {ps:List Int} (hp:jt ps=true) {n k:Nat} (hk:k<ps.length) (hn:n<k):lY ps n k k=lY ps n (gi ps k).toNat (gi ps k).toNat:=by
 have h1:=vZ hp hk (by omega);obtain ⟨m,rfl⟩:∃m,k=m+1:=⟨k - 1,by omega⟩;rw [lY,if_pos hn];exact LB hp n (by omega) (by omega) (aj _)
theorem wh {ps:List Int} {n k:Nat} (hn:¬n<k):lY ps n k k=k:=by
 cases k with
 | zero=>rfl
 | succ k=>rw [lY,if_neg hn]

theorem G9 {ps:List Int} (i:Nat):qw ps i i=true:=by unfold qw;rw [wh (by omega)];simp
theorem He {ps:List Int} (_:jt ps=true) {i:Nat}:∀ {j:Nat},j<ps.length->qw ps i j=true->i<=j:=by
 intro j
 induction j using Nat.strongRecOn with
 | ind j ih =>
  intro hj h;by_cases e:i<j
  ·omega
  ·unfold qw at h
   rw [wh e] at h;(have:j=i:=by simpa using h);omega
theorem wj {ps:List Int} (hp:jt ps=true) {i j:Nat} (hj:j<ps.length) (hi:i<j):qw ps i j=qw ps i (gi ps j).toNat:=by
 unfold qw;rw [LC hp hj hi]
theorem UB {ps:List Int} (hp:jt ps=true) {i:Nat}:∀ {j:Nat},j<ps.length->(qw ps i j=true↔j=i\/∃c,c<ps.length/\i<c/\gi ps c=(i:Int)/\qw ps c j=true):=by
 intro j
 induction j using Nat.strongRecOn with
 | ind j ih =>
  intro hj;by_cases e:i<j
  ·have hpar:=vZ hp hj (by omega)
   have Hf:((gi ps j).toNat:Int)=gi ps j:=Int.toNat_of_nonneg hpar.1;(have hpl:(gi ps j).toNat<j:=by omega);rw [wj hp hj e,ih _ hpl (by omega)];constructor
   ·rintro (h | ⟨c,h1,h2,h3,h4⟩)
    ·exact .inr ⟨j,hj,e,by omega,G9 j⟩
    ·have:=He hp (show (gi ps j).toNat<ps.length by omega) h4
     exact .inr ⟨c,h1,h2,h3,by rw [wj hp hj (by omega)];exact h4⟩
   ·rintro (h | ⟨c,h1,h2,h3,h4⟩)
    ·omega
    ·have Mo:=He hp hj h4
     by_cases ec:c=j
     ·subst ec;left;omega
     ·right
      exact ⟨c,h1,h2,h3,by rw [wj hp hj (by omega)] at h4;exact h4⟩
  ·unfold qw
   rw [wh e];constructor
   ·intro h;left;simpa using h
   ·rintro (h | ⟨c,h1,h2,h3,h4⟩)
    ·simpa using h
    ·have:=He hp hj h4;omega
end
section
section
variable {F G:aW} {n:Nat} {rk:Nat->Nat}
theorem Eg (h:Wf F n rk) {i:Nat} (hi:i<n) (h0:rk i<=0):F.kids i=[]:=by
 cases hk:F.kids i with
 | nil=>rfl
 | cons k l=>have:=(h.kid i hi k (by rw [hk];simp)).2;omega
theorem Q1 (hF:Wf F n rk) (hG:Wf G n rk):∀ {d c:Nat},c<n->rk c<=d->(∀z,bY F rk c z=true->G.kids z=F.kids z)->∀z,bY G rk c z=bY F rk c z:=by
 intro d
 induction d with
 | zero =>
  intro c hc hd hz z;rw [gV hF hc,gV hG hc,Eg hF hc hd,Eg hG hc hd];rfl
 | succ d ih =>
  intro c hc hd hz z;rw [gV hF hc,gV hG hc,hz c (iU hF hc)];congr 1;rw [nM,cR,cR];have key:∀k∈F.kids c,bY G rk k z=bY F rk k z:=fun k hk=>by have hkk:=hF.kid c hc k hk;exact ih hkk.1 (by omega) (fun y hy=>hz y (ng hF hc hk hy)) z
  constructor
  ·rintro ⟨k,hk,e⟩;exact ⟨k,hk,by rw [<- key k hk];exact e⟩
  ·rintro ⟨k,hk,e⟩;exact ⟨k,hk,by rw [key k hk];exact e⟩
def alD (F:aW) (P:Nat->Bool):Nat->Nat->Bool
 | 0,i=>P i
 | d+1,i=>if F.kids i=[] then P i else (F.kids i).any (alD F P d)
def al (F:aW) (P:Nat->Bool) (rk:Nat->Nat) (i:Nat):Bool:=alD F P (rk i) i
end
end
section
def Hg (s:RT):Prop:=(s.kids≠[]->s.nm.size=0)/\(s.kids=[]->bD s.nm.data.toList=true)/\s.kids.length≠1
def o6 (l:List ByteArray):List ByteArray:=l.filter fun s=>decide (s.size≠0)
theorem Hh (a b:List ByteArray):o6 (a++b)=o6 a++o6 b:=o8 _ _
theorem BR {nm:ByteArray} {ks:List RT} (h:nm.size=0):gM (.node nm ks)=ks.flatMap gM:=by
 have key:∀ks:List RT,o6 (eH ks)=ks.flatMap gM:=by
  intro ks
  induction ks with
  | nil=>rfl
  | cons r rs ih=>rw [eH,Hh,ih,iI];rfl
 show o6 (dH _)=_;rw [dH,<- key];unfold o6;rw [List.filter_cons_of_neg (by simp [h])]
theorem LD {nm:ByteArray} (h:nm.size≠0):gM (.node nm [])=[nm]:=by
 show List.filter _ (dH _)=_;rw [dH,eH,List.filter_cons_of_pos (by simpa using h)];rfl
end
section
theorem Jn {l:List (ByteArray×Value)} {k j:ByteArray} {v:Value}:(rU l k v).lookup j=if j=k then some v else l.lookup j:=by
 unfold rU;split
 ·rename_i h
  have h0:l.lookup k=none:=by simpa using h
  rw [List.lookup_append];by_cases e:j=k
  ·subst e;rw [if_pos rfl,h0];simp [List.lookup,oM]
  ·rw [if_neg e]
   (have:List.lookup j [(k,v)]=none:=by simp [List.lookup,qQ e]);rw [this];simp
 ·rename_i h
  have h0:(l.lookup k).isSome:=by
   cases hl:l.lookup k with
   | none=>rw [hl] at h;exact absurd rfl h
   | some x=>rfl
  clear h
  induction l with
  | nil=>cases h0
  | cons y l ih =>
   obtain ⟨y1,y2⟩:=y;rw [cV];by_cases e1:y1=k
   ·subst e1
    rw [if_pos rfl,dJ];by_cases e:j=y1
    ·subst e;rw [oM,if_pos rfl]
    ·rw [qQ e,if_neg e,dJ,qQ e]
     have hm:∀l:List (ByteArray×Value),List.lookup j (l.map fun x=>if x.1=y1 then (y1,v) else x)=List.lookup j l:=by
      intro l
      induction l with
      | nil=>rfl
      | cons z l ihl =>
       obtain ⟨z1,z2⟩:=z;rw [cV];by_cases ez:z1=y1
       ·subst ez;rw [if_pos rfl,dJ,qQ e,dJ,qQ e];exact ihl
       ·rw [if_neg ez,dJ,dJ,ihl]
     exact hm l
   ·rw [if_neg e1,dJ,dJ]
    rw [dJ,qQ (fun h=>e1 h.symm)] at h0;by_cases e:j=y1
    ·subst e;rw [oM,if_neg e1]
    ·rw [qQ e];exact ih h0
end
end Go.Proofs.YtfomhlbhcifgbaaGreatDoor
