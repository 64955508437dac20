/- Rose trees: all parts of one; when its numbering is a valid tree. Sorting rose trees .. -/
import Derived.Lib.SliceRun
import Derived.Test.YthgabkgmkolobaaGreatQ10
set_option maxRecDepth 100000
namespace Go.Proofs.YthgabkgmkolobaaGreat
section
mutual
def bH:RT->List RT
 | .node nm ks=>.node nm ks::eZ ks
def eZ:List RT->List RT
 | []=>[]
 | r::rs=>bH r++eZ rs
end
mutual
theorem rH:∀r:RT,(bH r).length=aU r
 | .node _ ks=>by rw [bH,aU,aT,QJ ks];omega
theorem QJ:∀rs:List RT,(eZ rs).length=bE rs
 | []=>rfl
 | r::rs=>by rw [eZ,bE,aZ,rH r,QJ rs]
end
mutual
theorem wk:∀r:RT,gJ r=(bH r).map RT.nm
 | .node nm ks=>by rw [bH,gJ,cK,TX ks];rfl
theorem TX:∀rs:List RT,gZ rs=(eZ rs).map RT.nm
 | []=>rfl
 | r::rs=>by rw [eZ,gZ,cg,wk r,TX rs]
end
theorem tP (rs:List RT):eZ rs=rs.flatMap bH:=by
 induction rs with
 | nil=>rfl
 | cons r rs ih=>rw [eZ,gU,ih]
def AtR (t:az) (r:RT) (n:Nat) (p:Int):Prop:=∃pre post,t.ps=pre++(mY r n p++post)/\pre.length=n/\p<n/\(∀x∈pre,x<(n:Int))/\(∀x∈post,x<(n:Int)\/((n+aU r:Nat):Int)<=x)
def TY (t:az) (rs:List RT) (own m:Nat):Prop:=∃pre post,t.ps=pre++(iE rs own m++post)/\pre.length=m/\own<m/\(∀x∈pre,x<(m:Int))/\(∀x∈post,x<(own:Int)\/((m+bE rs:Nat):Int)<=x)
theorem AtR.kids {t:az} {nm:ByteArray} {ks:List RT} {n:Nat} {p:Int} (h:AtR t (.node nm ks) n p):bq t.ps n=Iq ks (n+1)/\TY t ks n (n+1):=by
 obtain ⟨pre,post,hps,hpl,hp,hpre,hpost⟩:=h;rw [aU] at hpost;rw [mY,cr] at hps;constructor
 ·rw [TV]
  ·rw [hps,BQ,AY n pre 0 (fun x hx e=>by have:=hpre x hx;omega),cH,kf,if_neg (by omega),BQ,hpl,mg,Pc n ks (n+1) (by omega),xY]
   rw [AY n post _ (fun x hx e=>by rcases hpost x hx with h1 | h1<;>omega),gN]
  ·intro i hi e
   rw [hps] at e;rcases rY i n with h1 | h1 | h1
   ·rw [FL _ (by omega)] at e
    have:=hpre _ (mq (l:=pre) (k:=i) (by omega));omega
   ·subst h1
    have h2:=BR pre (p::(iE ks i (i+1)++post)) 0;rw [hpl] at h2;have h2:gi (pre++p::(iE ks i (i+1)++post)) i=p:=h2;rw [h2] at e;omega
   ·exact h1
 ·refine ⟨pre++[p],post,by rw [hps,dN];rfl,by simp [hpl],by omega,fun x hx=>?_,fun x hx=>?_⟩
  ·rcases dV.1 hx with hx | hx
   ·have:=hpre x hx;omega
   ·have:x=p:=by simpa using hx
    omega
  ·rcases hpost x hx with h3 | h3
   ·exact .inl h3
   ·exact .inr (by omega)
theorem TY.cons {t:az} {r:RT} {rs:List RT} {own m:Nat} (h:TY t (r::rs) own m):AtR t r m own/\TY t rs own (m+aU r):=by
 obtain ⟨pre,post,hps,hpl,hm,hpre,hpost⟩:=h;rw [bE] at hpost;rw [iE,dN] at hps;constructor
 ·refine ⟨pre,_,hps,hpl,by omega,hpre,fun x hx=>?_⟩
  rcases dV.1 hx with hx | hx
  ·rcases EC rs own (m+aU r) x hx with h2 | ⟨h2,_⟩
   ·exact .inl (by omega)
   ·exact .inr h2
  ·rcases hpost x hx with h2 | h2
   ·exact .inl (by omega)
   ·exact .inr (by omega)
 ·refine ⟨pre++mY r m own,post,by rw [hps,dN],by rw [aZ,tO,hpl],by omega,fun x hx=>?_,fun x hx=>?_⟩
  ·rcases dV.1 hx with hx | hx
   ·have:=hpre x hx;omega
   ·rcases TW r m own x hx with h3 | ⟨_,h3⟩<;>omega
  ·rcases hpost x hx with h3 | h3
   ·exact .inl h3
   ·exact .inr (by omega)
mutual
theorem YI {t:az}:∀(r:RT) (n:Nat) (p:Int),AtR t r n p->∀(i:Nat) (s:RT),(bH r)[i]? = some s->bq t.ps (n+i)=Iq s.kids (n+i+1)
 | .node nm ks,n,p,h,i,s,hs=>by
  rw [bH] at hs
  cases i with
  | zero =>
   have e:RT.node nm ks=s:=by simpa using hs
   subst e
   exact h.kids.1
  | succ i =>
   rw [List.getElem?_cons_succ] at hs
   have:=TZ ks n (n+1) h.kids.2 i s hs
   rw [show n+(i+1)=n+1+i by omega];exact this
theorem TZ {t:az}:∀(rs:List RT) (own m:Nat),TY t rs own m->∀(i:Nat) (s:RT),(eZ rs)[i]? = some s->bq t.ps (m+i)=Iq s.kids (m+i+1)
 | [],_,_,_,i,s,hs=>by simp [eZ] at hs
 | r::rs,own,m,h,i,s,hs=>by
  rw [eZ] at hs
  by_cases hi:i<aU r
  ·rw [M3 (by rw [rH];exact hi)] at hs
   exact YI r m own h.cons.1 i s hs
  ·rw [SV (by rw [rH];omega),rH] at hs
   have:=TZ rs own (m+aU r) h.cons.2 (i - aU r) s hs
   rw [show m+aU r+(i - aU r)=m+i by omega] at this;exact this
end
theorem AtR.flat (r:RT):AtR (flat r) r 0 (-1):=⟨[],[],by simp [YthgabkgmkolobaaGreat.flat],rfl,by omega,fun x hx=>by simp at hx,fun x hx=>by simp at hx⟩
theorem kids_flat {r:RT} {i:Nat} {s:RT} (h:(bH r)[i]? = some s):bq (flat r).ps i=Iq s.kids (i+1):=by
 have:=YI r 0 (-1) (AtR.flat r) i s h;simpa using this
mutual
theorem psR_gi:∀(r:RT) (n:Nat) (p:Int) (j:Nat),0<j->j<aU r->(n:Int)<=gi (mY r n p) j/\gi (mY r n p) j<((n+j:Nat):Int)
 | .node nm ks,n,p,j,h0,hj=>by
  rw [aU] at hj
  obtain ⟨k,rfl⟩:∃k,j=k+1:=⟨j - 1,by omega⟩
  have h:=YJ ks n (n+1) k (by omega) (by omega)
  have e:gi (mY (.node nm ks) n p) (k+1)=gi (iE ks n (n+1)) k:=by rw [mY];simp [gi]
  rw [e]
  exact ⟨h.1,by have:=h.2;omega⟩
theorem YJ:∀(rs:List RT) (own n j:Nat),own<n->j<bE rs->(own:Int)<=gi (iE rs own n) j/\gi (iE rs own n) j<((n+j:Nat):Int)
 | [],_,_,_,_,h=>by simp [bE] at h
 | r::rs,own,n,j,ho,hj=>by
  rw [bE] at hj
  rw [iE]
  by_cases hr:j<aU r
  ·rw [FL _ (by rw [tO];exact hr)]
   by_cases h0:j=0
   ·subst h0
    obtain ⟨nm,ks⟩:=r
    have e:gi (mY (.node nm ks) n own) 0=own:=by rw [mY];simp [gi]
    rw [e];exact ⟨by omega,by omega⟩
   ·have h:=psR_gi r n own j (by omega) hr
    exact ⟨by omega,h.2⟩
  ·have h:=YJ rs own (n+aU r) (j - aU r) (by omega) (by omega)
   have e:=BR (mY r n own) (iE rs own (n+aU r)) (j - aU r)
   rw [tO,show aU r+(j - aU r)=j by omega] at e
   rw [e]
   exact ⟨h.1,by have:=h.2;omega⟩
end
theorem T3 (r:RT):k8 (flat r).ps=true:=by
 refine Lx fun j hj=>?_;rw [wj] at hj;show qq j (gi (mY r 0 (-1)) j)=true;unfold qq;by_cases h0:j=0
 ·subst h0
  obtain ⟨nm,ks⟩:=r;rw [if_pos rfl,mY];rfl
 ·rw [if_neg h0]
  have h:=psR_gi r 0 (-1) j (by omega) hj;have h1:0<=gi (mY r 0 (-1)) j:=by have:=h.1;omega
  have h2:gi (mY r 0 (-1)) j<(j:Int):=by have:=h.2;omega
  simp [h1,h2]
def dx (r:RT):List ByteArray:=(gJ r).filter fun s=>decide (s.size≠0)
structure iq (r:RT):Prop where
 wm:∀s∈bH r,s.kids≠[]->s.nm.size=0
 lf:∀s∈bH r,s.kids=[]->b7 s.nm.data.toList=true
 nd:(dx r).Nodup
theorem jR {s:ByteArray} (h:b7 s.data.toList=true):s.size≠0:=by
 intro e;have:s.data.toList=[]:=by apply oJ;simpa using e
 rw [this] at h
 revert h;decide
theorem BS {r:RT} (h:iq r) (hs:aU r<=64):aH (flat r)=0:=by
 unfold aH;rw [wj,AZ,if_neg (by have:=mA r;omega),if_neg (by omega),if_neg (by simp),if_pos (T3 r)];refine cR fun i hi=>?_;have hi2:i<(bH r).length:=by rw [rH];exact hi
 obtain ⟨s,hsi⟩:∃s,(bH r)[i]? = some s:=⟨_,iQ hi2⟩;have hmem:s∈bH r:=M5 hsi;have hk:=kids_flat hsi;have hnm:gs (flat r).ns i=s.nm:=by show gs (gJ r) i=_;rw [wk];simp [gs,hsi]
 have hin:=sY (T3 r) i;unfold oZ;rw [hnm];by_cases hks:s.kids=[]
 ·have h1:isIn (flat r).ps i=false:=by
   cases hb:isIn (flat r).ps i with
   | false=>rfl
   | true=>exact absurd (by rw [hk,hks];rfl) (hin.2 hb)
  rw [h1,if_neg (by simp),if_pos (h.lf s hmem hks)]
  have h2:fk (flat r).ns i=false:=by
   rw [uZ];intro e
   obtain ⟨j,hj,e⟩:=eO.1 e
   have hj:j<i:=bh.1 hj
   have e:gs (gJ r) j=gs (gJ r) i:=of_decide_eq_true e
   have hpw:=List.pairwise_filter.1 h.nd
   have jv:=JZ r
   have h3:=nS.1 hpw j i (by omega) (by omega) hj
   have hgj:gs (gJ r) j=(gJ r)[j]'(by omega):=by simp [gs,show j<(gJ r).length by omega]
   have zR:gs (gJ r) i=(gJ r)[i]'(by omega):=by simp [gs,show i<(gJ r).length by omega]
   rw [<- hgj,<- zR,e] at h3
   have h4:gs (gJ r) i=s.nm:=hnm
   have h5:=jR (h.lf s hmem hks)
   rw [h4] at h3
   exact h3 (by simpa using h5) (by simpa using h5) rfl
  rw [h2];rfl
 ·have h1:isIn (flat r).ps i=true:=hin.1 (by
   rw [hk]
   cases hq:s.kids with
   | nil=>exact absurd hq hks
   | cons a l=>simp [Iq])
  rw [h1,if_pos rfl,if_pos (h.wm s hmem hks)]
end
section
theorem Ir (a:RT):∀l,(iF a l).Perm (a::l)
 | []=>k9 _
 | b::l=>by
  rw [iF]
  split
  ·exact k9 _
  ·exact ((Ir a l).cons b).trans (List.Perm.swap a b l)
theorem sg:∀l:List RT,(fU l).Perm (l.map cn)
 | []=>k9 _
 | r::rs=>by
  rw [fU,cK]
  exact (Ir _ _).trans ((sg rs).cons _)
theorem xd (r:RT):(cn r).kids=fU r.kids:=by cases r;rfl
theorem BU (r:RT):(cn r).nm=r.nm:=by cases r;rfl
theorem rI {l:List RT}:fU l=[]↔l=[]:=by
 constructor
 ·intro h
  have:=(sg l).length_eq;rw [h,aG] at this;exact oJ this.symm
 ·rintro rfl;rfl
theorem subRs_perm {l l':List RT} (h:l.Perm l'):(eZ l).Perm (eZ l'):=by
 rw [tP,tP];exact h.flatMap_right _
mutual
theorem nG:∀r:RT,(bH (cn r)).Perm ((bH r).map cn)
 | .node nm ks=>by
  rw [cn,bH,bH,cK]
  refine List.Perm.cons _ ?_
  exact (subRs_perm (sg ks)).trans (Ny ks)
theorem Ny:∀rs:List RT,(eZ (rs.map cn)).Perm ((eZ rs).map cn)
 | []=>k9 _
 | r::rs=>by
  rw [cK,eZ,eZ,cg]
  exact (nG r).append (Ny rs)
end
theorem Nz (r:RT):aU (cn r)=aU r:=by
 have:=(nG r).length_eq;rw [aG,rH,rH] at this;exact this
theorem nsR_sort (r:RT):(gJ (cn r)).Perm (gJ r):=by
 rw [wk,wk];refine ((nG r).map RT.nm).trans ?_;rw [jO];have:(RT.nm ∘ cn)=RT.nm:=funext BU;rw [this]
theorem tQ (r:RT):(dx (cn r)).Perm (dx r):=(nsR_sort r).filter _
theorem iq.sort {r:RT} (h:iq r):iq (cn r):=by
 refine ⟨fun s hs hk=>?_,fun s hs hk=>?_,(tQ r).nodup_iff.2 h.nd⟩
 ·obtain ⟨q,hq,rfl⟩:=cm.1 ((nG r).mem_iff.1 hs)
  rw [xd] at hk;rw [BU];exact h.wm q hq (fun e=>hk (rI.2 e))
 ·obtain ⟨q,hq,rfl⟩:=cm.1 ((nG r).mem_iff.1 hs)
  rw [xd] at hk;rw [BU];exact h.lf q hq (rI.1 hk)
def FN:List RT->Prop
 | []=>True
 | [_]=>True
 | a::b::l=>fG (bw a) (bw b)<=0/\FN (b::l)
theorem FN.tail {a:RT} {l:List RT} (h:FN (a::l)):FN l:=by
 cases l with
 | nil=>trivial
 | cons b l=>exact h.2
theorem insR_head (a:RT) (l:List RT):∃c l',iF a l=c::l'/\(c=a\/∃t,l=c::t):=by
 cases l with
 | nil=>exact ⟨a,[],rfl,.inl rfl⟩
 | cons b l =>
  rw [iF];split
  ·exact ⟨a,b::l,rfl,.inl rfl⟩
  ·exact ⟨b,iF a l,rfl,.inr ⟨l,rfl⟩⟩
theorem T4 (a:RT):∀l,FN l->FN (iF a l)
 | [],_=>trivial
 | b::l,h=>by
  rw [iF]
  split
  ·rename_i h1;exact ⟨h1,h⟩
  ·rename_i h1
   have h2:=T4 a l h.tail
   obtain ⟨c,l',e,hc⟩:=insR_head a l
   rw [e] at h2 ⊢
   refine ⟨?_,h2⟩
   rcases hc with rfl | ⟨t,rfl⟩
   ·have:=nC (bw c) (bw b);omega
   ·exact h.1
theorem NA:∀l,FN (fU l)
 | []=>trivial
 | r::rs=>by rw [fU];exact T4 _ _ (NA rs)
theorem insR_le {a:RT} {l:List RT} (h:FN (a::l)):iF a l=a::l:=by
 cases l with
 | nil=>rfl
 | cons b l=>rw [iF,if_pos h.1]
theorem NB:∀l:List RT,FN l->(∀r∈l,cn r=r)->fU l=l
 | [],_,_=>rfl
 | r::rs,h,hf=>by rw [fU,NB rs h.tail (fun q hq=>hf q (by simp [hq])),hf r (by simp)];exact insR_le h
mutual
theorem FO:∀r:RT,cn (cn r)=cn r
 | .node nm ks=>by
  rw [cn,cn]
  congr 1
  refine NB _ (NA ks) (fun q hq=>?_)
  obtain ⟨s,hs,rfl⟩:=cm.1 ((sg ks).mem_iff.1 hq)
  exact KJ ks s hs
theorem KJ:∀(rs:List RT) (s:RT),s∈rs->cn (cn s)=cn s
 | [],_,h=>by cases h
 | r::rs,s,h=>by
  by_cases e:s=r
  ·rw [e];exact FO r
  ·exact KJ rs s (by
    rcases aW.1 h with h | h
    ·exact absurd h e
    ·exact h)
end
section
variable {F:ct} {n:Nat} {rk:Nat->Nat}
theorem CY (h:Wf F n rk):∀ {d i:Nat},i<n->rk i<=d->bH (bB F rk i)=(dw F rk i).map (bB F rk):=by
 intro d
 induction d with
 | zero =>
  intro i hi hd;have hk:F.kids i=[]:=by
   cases hk:F.kids i with
   | nil=>rfl
   | cons k l=>have:=(h.kid i hi k (by rw [hk];simp)).2;omega
  rw [fh h hi,hk];have e:bB F rk i=.node (F.nm i) []:=by rw [fO h hi,hk];rfl
  rw [e,bH,List.flatMap_nil,cK,e];rfl
 | succ d ih =>
  intro i hi hd;rw [fh h hi,cK,CN];have e:=fO h hi
  conv=>lhs;rw [e,bH,tP,Fu]
  rw [<- e];congr 1;refine nO fun k hk=>?_;have:=h.kid i hi k hk;exact ih this.1 (by omega)
theorem A2 (h:Wf F n rk) {i:Nat} (hi:i<n):(bB F rk i).nm=F.nm i:=by rw [fO h hi];rfl
theorem CZ (h:Wf F n rk) {i:Nat} (hi:i<n):(bB F rk i).kids=(F.kids i).map (bB F rk):=by rw [fO h hi];rfl
end
theorem jH {t:az} (h:aH t=0) {j:Nat} (hj:j∈dw (fJ t) (dU t) 0):j<t.ps.length :=
 vZ (eu h).wf (aF h).1 (af _) ((gO (eu h).wf (aF h).1 (af _)).1 hj)
theorem oo {t:az} (h:aH t=0):bH (iZ t)=(dw (fJ t) (dU t) 0).map (bB (fJ t) (dU t)):=CY (eu h).wf (aF h).1 (af _)
theorem Iu {t:az} (h:aH t=0):aU (iZ t)<=64:=by
 rw [<- rH,oo h,aG];have h1:=xX (qI (eu h) (R:=t.ps.length) (fun i _=>EB t i) (aF h).1 (af _)) (fun x hx=>jH h hx);have:=(aF h).2.1;omega
theorem YK {t:az} (h:aH t=0):gJ (iZ t)=(dw (fJ t) (dU t) 0).map (gs t.ns):=by
 rw [wk,oo h,jO];refine lU fun j hj=>?_;exact A2 (eu h).wf (jH h hj)
theorem T5 {ps:List Int} {ns:List ByteArray} {i:Nat} (h:oZ ps ns i=0) (hi:isIn ps i=true):(gs ns i).size=0:=by
 unfold oZ at h;rw [if_pos hi] at h;split at h
 ·assumption
 ·cases h
theorem QK {ps:List Int} {ns:List ByteArray} {i:Nat} (h:oZ ps ns i=0) (hi:isIn ps i=false):b7 (gs ns i).data.toList=true/\fk ns i=false:=by
 unfold oZ at h;rw [hi,if_neg (by simp)] at h;split at h
 ·rename_i h1
  refine ⟨h1,?_⟩;cases hs:fk ns i with
  | false=>rfl
  | true=>rw [hs] at h;cases h
 ·cases h
theorem ou {t:az} (h:aH t=0):iq (iZ t):=by
 obtain ⟨hp,hl,hn,hok,he⟩:=aF h;have hwf:=(eu h).wf;refine ⟨fun s hs hk=>?_,fun s hs hk=>?_,?_⟩
 ·rw [oo h] at hs
  obtain ⟨j,hj,rfl⟩:=cm.1 hs;have hjn:=jH h hj;rw [CZ hwf hjn] at hk;rw [A2 hwf hjn];have:isIn t.ps j=true:=(sY hok j).1 (fun e=>hk (by rw [iY,e];rfl));exact T5 (he j hjn) this
 ·rw [oo h] at hs
  obtain ⟨j,hj,rfl⟩:=cm.1 hs;have hjn:=jH h hj;rw [CZ hwf hjn] at hk;rw [A2 hwf hjn];have:isIn t.ps j=false:=by
   cases hb:isIn t.ps j with
   | false=>rfl
   | true=>exact absurd (List.map_eq_nil_iff.1 hk) ((sY hok j).2 hb)
  exact (QK (he j hjn) this).1
 ·unfold dx
  rw [YK h,List.filter_map];have fe:=qI (eu h) (R:=t.ps.length) (fun i _=>EB t i) hp (af _);refine uD.2 (List.Pairwise.imp_of_mem ?_ (Fq _ fe));intro a b ha hb hne e;have ha':=fL.1 ha;have hb':=fL.1 hb;have TR:=jH h ha'.1;have xe:=jH h hb'.1;have leaf:∀i,i<t.ps.length->(gs t.ns i).size≠0->(fJ t).kids i=[]:=fun i hi hs=>by
   rw [iY];cases hk:bq t.ps i with
   | nil=>rfl
   | cons x l=>exact absurd (T5 (he i hi) ((sY hok i).1 (by rw [hk];simp))) hs
  exact hne ((eu h).aac a b TR xe (leaf a TR (by simpa using ha'.2)) (leaf b xe (by simpa using hb'.2)) e)
end
section
section
variable {F G:ct} {n:Nat} {rk:Nat->Nat}
theorem QL (h:Wf F n rk) {i:Nat} (hi:i<n) (h0:rk i<=0):F.kids i=[]:=by
 cases hk:F.kids i with
 | nil=>rfl
 | cons k l=>have:=(h.kid i hi k (by rw [hk];simp)).2;omega
theorem sub_cong (hF:Wf F n rk) (hG:Wf G n rk):∀ {d c:Nat},c<n->rk c<=d->(∀z,ep F rk c z=true->G.kids z=F.kids z)->∀z,ep G rk c z=ep F rk c z:=by
 intro d
 induction d with
 | zero =>
  intro c hc hd hz z;rw [nN hF hc,nN hG hc,QL hF hc hd,QL hG hc hd];rfl
 | succ d ih =>
  intro c hc hd hz z;rw [nN hF hc,nN hG hc,hz c (pV hF hc)];congr 1;rw [lR,eO,eO];have key:∀k∈F.kids c,ep G rk k z=ep F rk k z:=fun k hk=>by have hkk:=hF.kid c hc k hk;exact ih hkk.1 (by omega) (fun y hy=>hz y (vD hF hc hk hy)) z
  constructor
  ·rintro ⟨k,hk,e⟩;exact ⟨k,hk,by rw [<- key k hk];exact e⟩
  ·rintro ⟨k,hk,e⟩;exact ⟨k,hk,by rw [key k hk];exact e⟩
end
end
section
open Go.RowKit Go.Deep
theorem Tryz.kR:(Tryz.prog.info? 9).map (fun i=>(i.zero,i.size,i.bytes))=some (some (.string ⟨#[]⟩),1,16):=by kernel_rfl
structure GK (tb:Nat) (w W:World) (P N P' N':Value):Prop where
 os:W.os=w.os
 tape:W.tape=w.tape
 output:W.output=w.output
 size:w.heap.size<=W.heap.size
 block:∀b,b<w.heap.size->b≠tb->some b≠P.ownBlock->some b≠N.ownBlock->W.heap[b]? = w.heap[b]?
 rJ:∀b,P'.ownBlock=some b->P.ownBlock=some b\/w.heap.size<=b
 rK:∀b,N'.ownBlock=some b->N.ownBlock=some b\/w.heap.size<=b
theorem GK.refl (tb:Nat) (w:World) (P N:Value):GK tb w w P N P N:=⟨rfl,rfl,rfl,af _,fun _ _ _ _ _=>rfl,fun _ h=>.inl h,fun _ h=>.inl h⟩
theorem GK.trans {tb:Nat} {w W X:World} {P N P' N' P2 N2:Value} (h:GK tb w W P N P' N') (k:GK tb W X P' N' P2 N2):GK tb w X P N P2 N2 :=
 ⟨k.os.trans h.os,k.tape.trans h.tape,k.output.trans h.output,aJ h.size k.size,fun b hb h1 h2 h3=>by
  rw [<- h.block b hb h1 h2 h3]
  refine k.block b (js hb h.size) h1 (fun e=>?_) (fun e=>?_)
  ·rcases h.rJ b e.symm with h4 | h4
   ·exact h2 h4.symm
   ·omega
  ·rcases h.rK b e.symm with h4 | h4
   ·exact h3 h4.symm
   ·omega,
  fun b hb=>by
   rcases k.rJ b hb with h4 | h4
   ·exact h.rJ b h4
   ·exact .inr (aJ h.size h4),
  fun b hb=>by
   rcases k.rK b hb with h4 | h4
   ·exact h.rK b h4
   ·exact .inr (aJ h.size h4)⟩
theorem GK.up {tb:Nat} {w W X:World} {P N P' N':Value} (h:GK tb w W P N P' N') (k:Up W X):GK tb w X P N P' N' :=
 ⟨k.os.trans h.os,k.tape.trans h.tape,k.output.trans h.output,aJ h.size k.size,fun b hb h1 h2 h3=>(bI k b (js hb h.size)).trans (h.block b hb h1 h2 h3),h.rJ,h.rK⟩
structure TL (B0:Nat) (W:World) (P N:Value) (ps:List Int) (ns:List ByteArray):Prop where
 dJ:ax B0 3 W P (ps.map (Value.int .i64))
 eH:ax B0 9 W N (ns.map Value.string)
 apart:∀b,P.ownBlock=some b->N.ownBlock≠some b
theorem ax.fM {base:Nat} {e:TypeId} {w w':World} {v:Value} {vs:List Value} (h:ax base e w v vs) (k:∀b,v.ownBlock=some b->w'.heap[b]? = w.heap[b]?):ax base e w' v vs:=by
 refine ⟨h.1,?_⟩;rcases h.2 with h0 | ⟨g,cap,cur,rfl,hg,hc,hr⟩
 ·exact .inl h0
 ·exact .inr ⟨g,cap,cur,rfl,hg,(k g rfl).trans hc,hr⟩
section
variable {tb B0:Nat} {w W W':World} {P N Pv Nv:Value} {ps:List Int} {ns:List ByteArray}
theorem TL.up (h:TL B0 W Pv Nv ps ns) (hu:Up W W'):TL B0 W' Pv Nv ps ns :=
 ⟨h.dJ.fM fun b hb=>bI hu b (av h.dJ hb).2,h.eH.fM fun b hb=>bI hu b (av h.eH hb).2,h.apart⟩
end
def az.push (t:az) (p:Int) (s:ByteArray):az:=⟨t.ps++[p],t.ns++[s]⟩
end
section
open Go.RowKit Go.Deep
section
variable {P:Program} {ops:Array Oper} {rest:List Oper} {o:Oper} {a:Act} {Q:Exit->Act->World->Prop}
theorem jI (W:World) (hgd:o.guard=none) (s x:Operand) (t:TypeId) (ho:o.op=.call { callee:=.builtin .append,args:=#[s,x],argTypes:=#[t,t] })
  (base:Nat) (e:TypeId) (z:Value) (bytes:Nat) (ht:P.underlying t=some (.slice e)) (hinfo:(P.info? e).map (fun i=>(i.zero,i.size,i.bytes))=some (some z,1,bytes))
  (hz1:z.cells.size=1) (qE:bytes<=64) {v:Value} {vs:List Value} (hown:ax base e W v vs) (hs:a.eval s=v) (u:Value)
  (hx:a.eval x=.slice (some ⟨W.heap.size,0,none⟩) 1 1) (h1:u.oneCell'=true) (k:Nat) (uM:vs.length=k) (hn:k<=1000000) (hbase:base<=W.heap.size)
  (h:∀g cap w',ax base e w' (.slice (some ⟨g,0,none⟩) (k+1) cap) (vs++[u])->W.grownBy w' v.ownBlock->(v.ownBlock=some g\/W.heap.size<=g)->wpList P ops Q rest (a.put o.dst (.slice (some ⟨g,0,none⟩) (k+1) cap)) w') :
  wpList P ops Q (o::rest) a (W.alloc (.cells #[u] e)):=by
 subst uM;obtain ⟨i,hi,hzz⟩:=mh.1 hinfo;simp only [mj] at hzz;obtain ⟨hz,hs1,hb⟩:=hzz;refine wpList_append_lies _ hgd s x t ho base e i z 1 bytes ht hi hz hs1 hb hz1 (by omega) v vs.length vs hs (hown.alloc _) ⟨W.heap.size,0,none⟩ 1 1 [u] hx rfl (cell_one_new _ _ _) (by simpa using h1) (by omega)
  (by unfold maxLen;omega) ?_ (by simp;omega) _ rfl fun g cap w' h2 h3 h4 _=>h g cap w' ?_ (nB h3) (h4.imp id fun e=>by rw [e,aQ];omega)
 ·have:(vs.length+1)*bytes<=(vs.length+1)*64:=sW _ qE
  omega
 ·unfold ax;rw [aZ];exact h2
end
section
variable {n base:Nat} {A:Nat->Nat} {kv:Nat->Value} {F:ct} {w w' w2:World} {P:Nat->Bool} {rk:Nat->Nat}
theorem cU.congr2 {G:ct} (h:cU base n A kv F w) (e:∀j,j<n->G.nm j=F.nm j/\G.old j=F.old j/\G.kids j=F.kids j):cU base n A kv G w :=
 ⟨fun i hi=>by rw [(e i hi).1,(e i hi).2.1];exact h.node i hi,h.lo,h.inj,fun i hi=>by rw [(e i hi).2.2];exact h.own i hi,h.apart,h.alone,fun i hi=>by rw [(e i hi).2.2];exact h.kid i hi⟩
end
end
section
open Go.RowKit Go.Deep
theorem QM {base:Nat} {e:TypeId} {w:World} {g n cap:Nat} {xs:List Value} (h:ax base e w (.slice (some ⟨g,0,none⟩) n cap) xs) {m:Nat} (hm:m<=n):ax base e w (.slice (some ⟨g,0,none⟩) m cap) (xs.take m):=by
 obtain ⟨h1,h2⟩:=h;rcases h2 with ⟨e1,_⟩ | ⟨g2,fS,cur,e1,hg,hc,hn,hcm,hcs,ht⟩
 ·cases e1
 ·injection e1 with a1 a2 a3
  injection a1 with a1;injection a1 with a1;subst a1;subst a3;have hnx:n=xs.length:=a2;have hl:(xs.take m).length=m:=by rw [gV];omega
  refine ⟨by rw [Nat.mul_one],.inr ⟨g,cap,cur,by rw [hl],hg,hc,by omega,hcm,hcs,?_⟩⟩;rw [hl,Nat.mul_one,<- ht,List.take_take];congr 1;omega
theorem wu {base:Nat} {e:TypeId} {w:World} {g n cap:Nat} {xs:List Value} (h:ax base e w (.slice (some ⟨g,0,none⟩) n cap) xs) {j:Nat} {u:Value} (hj:xs[j]? = some u):w.cell? ⟨g,j,none⟩=some u/\w.frozen? ⟨g,j,none⟩=false:=by
 have hl:=(pF.1 hj).1;obtain ⟨g2,fS,e1,_,_,hc,hf,_⟩:=h.set hl;injection e1 with a1;injection a1 with a1;injection a1 with a1;subst a1;refine ⟨?_,hf⟩;rw [hc];congr 1;rw [kD,hj];rfl
end
section
def iG (p:Int->Bool) (n:Nat):List Int:=((List.range n).map fun (i:Nat)=>(i:Int)).filter p
theorem vF {p:Int->Bool} {n:Nat} {x:Int}:x∈iG p n↔0<=x/\x<n/\p x=true:=by
 unfold iG;rw [fL,cm];constructor
 ·rintro ⟨⟨i,hi,rfl⟩,h2⟩
  have:=bh.1 hi;exact ⟨by omega,by omega,h2⟩
 ·rintro ⟨h0,h1,h2⟩
  obtain ⟨i,rfl⟩:=pE h0;exact ⟨⟨i,bh.2 (by omega),rfl⟩,h2⟩
end
section
inductive BT (α:Type) where
 | leaf (x:α)
 | node (a b:BT α)
namespace BT
def map {α β:Type} (f:α->β):BT α->BT β
 | leaf x=>leaf (f x)
 | node a b=>node (map f a) (map f b)
def eR {α:Type}:BT α->List α
 | leaf x=>[x]
 | node a b=>eR a++eR b
inductive GQ {α:Type}:BT α->BT α->Prop
 | leaf (x:α):GQ (leaf x) (leaf x)
 | node {a a' b b':BT α}:GQ a a'->GQ b b'->GQ (node a b) (node a' b')
 | swap {a a' b b':BT α}:GQ a a'->GQ b b'->GQ (node a b) (node b' a')
end BT
section
variable {α β:Type} [Inhabited α] [Inhabited β]
def cG (p:Nat->Bool) (L:List α) (n:Nat):List α:=((List.range n).filter p).map fun i=>L.getD i default
theorem pX (p:Nat->Bool) (L:List α) (n:Nat):cG p L (n+1)=cG p L n++if p n then [L.getD n default] else []:=by
 unfold cG;rw [rX,vg,cg];congr 1;cases h:p n<;>simp [h]
theorem Iw (f:α->β) (p:Nat->Bool) (L:List α):∀ {n:Nat},n<=L.length->cG p (L.map f) n=(cG p L n).map f
 | 0,_=>rfl
 | n+1,h=>by
  rw [pX,pX,cg,Iw f p L (by omega)]
  congr 1
  split
  ·have:n<L.length:=h
   simp [this]
  ·rfl
theorem yI (p:Nat->Bool) (L:List α):∀ {n:Nat},n<=L.length->(cG p L n++cG (fun i=>!p i) L n).Perm (L.take n)
 | 0,_=>by simp [cG]
 | n+1,h=>by
  have hn:n<L.length:=h
  have ih:=yI p L (n:=n) (by omega)
  rw [pX,pX,jY hn]
  have hg:L.getD n default=L[n]:=by simp [hn]
  rw [hg]
  cases hp:p n
  ·simp only [Bool.false_eq_true,if_false,gN,Bool.not_false,if_true]
   rw [<- dN]
   exact ih.append_right _
  ·simp only [if_true,Bool.not_true,Bool.false_eq_true,if_false,gN]
   refine List.Perm.trans ?_ (ih.append_right _)
   rw [dN,dN]
   exact List.Perm.append_left _ Bi
theorem zb {p:Nat->Bool} {L:List α} {n:Nat} {x:α}:x∈cG p L n↔∃i,i<n/\p i=true/\L.getD i default=x:=by
 unfold cG;rw [cm];constructor
 ·rintro ⟨i,hi,h⟩
  rw [fL,bh] at hi;exact ⟨i,hi.1,hi.2,h⟩
 ·rintro ⟨i,h1,h2,h3⟩
  exact ⟨i,fL.2 ⟨bh.2 h1,h2⟩,h3⟩
theorem yJ {p q:Nat->Bool} {L:List α} {n:Nat} (h:∀i,i<n->p i=q i):cG p L n=cG q L n:=by
 unfold cG;congr 1;exact List.filter_congr fun i hi=>h i (bh.1 hi)
theorem qY (p:Nat->Bool) (L:List α) (n:Nat):(cG p L n).length<=n:=by
 unfold cG;rw [aG];exact aJ (pG _ _) (by simp)
def rt:Nat->List α->List (BT α)
 | 0,_=>[]
 | _+1,[]=>[]
 | _+1,[x]=>[.leaf x]
 | d+1,x::y::L=>(List.range' 1 (2 ^ (y::L).length - 1)).flatMap fun bits =>
   (rt d (x::cG (fun i=>!bits.testBit i) (y::L) (y::L).length)).flatMap fun a =>
    (rt d (cG (fun i=>bits.testBit i) (y::L) (y::L).length)).map fun b=>.node a b
def rf:Nat->List α->List (BT α)
 | 0,_=>[]
 | _+1,[]=>[]
 | _+1,[x]=>[.leaf x]
 | d+1,x::y::L=>(List.range (2 ^ (y::L).length - 1)).flatMap fun bits =>
   (rf d (x::cG (fun i=>bits.testBit i) (y::L) (y::L).length)).flatMap fun a =>
    (rf d (cG (fun i=>!bits.testBit i) (y::L) (y::L).length)).map fun b=>.node a b
theorem zF {γ δ:Type} {f g:γ->List δ}:∀ {l:List γ},(∀a∈l,(f a).Perm (g a))->(l.flatMap f).Perm (l.flatMap g)
 | [],_=>by simp
 | a::l,h=>by
  rw [gU,gU]
  exact (h a (by simp)).append (zF fun b hb=>h b (by simp [hb]))
theorem GR {γ δ:Type} {f:γ->List δ} {l l':List γ} (h:l.Perm l'):(l.flatMap f).Perm (l'.flatMap f):=by
 induction h with
 | nil=>exact k9 _
 | cons x _ ih=>rw [gU,gU];exact ih.append_left _
 | swap x y l =>
  simp only [gU]
  rw [<- dN,<- dN]
  exact Bi.append_right _
 | trans _ _ h1 h2=>exact h1.trans h2
theorem range_rev (m:Nat):(List.range' 1 (m - 1)).Perm ((List.range (m - 1)).map fun k=>m - 1 - k):=by
 have h:(List.range' 1 (m - 1))=((List.range (m - 1)).map fun k=>m - 1 - k).reverse:=by
  apply wM
  ·simp
  ·intro i h1 h2
   simp at h1;simp;omega
 rw [h];exact List.reverse_perm _
theorem rt_rf:∀(d:Nat) (L:List α),(rt d L).Perm (rf d L)
 | 0,_=>k9 _
 | _+1,[]=>k9 _
 | _+1,[x]=>k9 _
 | d+1,x::y::L=>by
  rw [rt,rf]
  refine List.Perm.trans (GR (range_rev _)) ?_
  rw [Fu]
  refine zF fun k hk=>?_
  have hk:=bh.1 hk
  generalize hn:(y::L).length=n at *
  have e1:∀i,i<n->(2 ^ n - 1 - k).testBit i=!k.testBit i:=fun i hi=>by
   have:=Nat.testBit_two_pow_sub_succ (x:=k) (n:=n) (by omega) i
   rw [show 2 ^ n - 1 - k=2 ^ n - (k+1) by omega,this]
   simp [hi]
  rw [yJ (p:=fun i=>!(2 ^ n - 1 - k).testBit i) (q:=fun i=>k.testBit i) fun i hi=>by rw [e1 i hi,Bool.not_not],yJ (p:=fun i=>(2 ^ n - 1 - k).testBit i) (q:=fun i=>!k.testBit i) e1]
  refine List.Perm.trans (GR (rt_rf d _)) (zF fun a _=>(rt_rf d _).map _)
theorem NC (f:α->β):∀(d:Nat) (L:List α),rt d (L.map f)=(rt d L).map (BT.map f)
 | 0,_=>rfl
 | _+1,[]=>rfl
 | _+1,[x]=>rfl
 | d+1,x::y::L=>by
  rw [cK,cK,rt,rt,CN]
  have hl:(f y::L.map f).length=(y::L).length:=by simp
  rw [hl]
  congr 1
  funext bits
  have e:f y::L.map f=(y::L).map f:=rfl
  rw [e,Iw f _ _ (af _),Iw f _ _ (af _),<- cK,NC f d,NC f d,CN,Fu]
  congr 1
  funext a
  rw [jO,jO]
  rfl
theorem Iy:∀(d:Nat) (L:List α),∀r∈rt d L,r.eR.Perm L
 | 0,_=>fun r h=>by cases h
 | _+1,[]=>fun r h=>by cases h
 | _+1,[x]=>fun r h=>by rw [rt,dP] at h;rw [h];exact k9 _
 | d+1,x::y::L=>fun r h=>by
  rw [rt,jP] at h
  obtain ⟨bits,hb,h⟩:=h
  rw [jP] at h
  obtain ⟨a,ha,h⟩:=h
  obtain ⟨b,hb2,rfl⟩:=cm.1 h
  have h1:=Iy d _ a ha
  have h2:=Iy d _ b hb2
  have h3:=yI (fun i=>bits.testBit i) (y::L) (af _)
  rw [gh] at h3
  rw [BT.eR]
  refine (h1.append h2).trans ?_
  rw [cr]
  exact (Bi.trans h3).cons _
end
end
section
open Go.RowKit Go.Deep
def vN (vs:List Value) (k:Nat):Value:=vs.getD k undef
mutual
def fP (S:Nat->Prop) (w:World):RT->Value->Prop
 | .node nm ks,v=>∃b kv vs,v=.pointer (some ⟨b,0,none⟩)/\S b/\w.heap[b]? = some (.cells #[.string nm,kv] 254 (0,0))/\ay S w kv ks.length (vN vs)/\bF S w ks vs
def bF (S:Nat->Prop) (w:World):List RT->List Value->Prop
 | [],vs=>vs=[]
 | r::rs,vs=>∃u us,vs=u::us/\fP S w r u/\bF S w rs us
end
mutual
theorem fP.keep {S:Nat->Prop} {w w':World} (k:Kept S w w'):∀(r:RT) {v:Value},fP S w r v->fP S w' r v
 | .node nm ks,v,h=>by
  unfold fP at h ⊢
  obtain ⟨b,kv,vs,rfl,hS,hb,hk,hs⟩:=h
  exact ⟨b,kv,vs,rfl,hS,(k b hS (fR.1 hb).1).trans hb,hk.keep k,bF.keep k ks hs⟩
theorem bF.keep {S:Nat->Prop} {w w':World} (k:Kept S w w'):∀(rs:List RT) {vs:List Value},bF S w rs vs->bF S w' rs vs
 | [],_,h=>by unfold bF at h ⊢;exact h
 | r::rs,vs,h=>by
  unfold bF at h ⊢
  obtain ⟨u,us,rfl,h1,h2⟩:=h
  exact ⟨u,us,rfl,fP.keep k r h1,bF.keep k rs h2⟩
end
mutual
theorem fP.sub {S T:Nat->Prop} {w:World} (k:∀b,S b->b<w.heap.size->T b):∀(r:RT) {v:Value},fP S w r v->fP T w r v
 | .node nm ks,v,h=>by
  unfold fP at h ⊢
  obtain ⟨b,kv,vs,rfl,hS,hb,hk,hs⟩:=h
  exact ⟨b,kv,vs,rfl,k b hS (fR.1 hb).1,hb,hk.sub k,bF.sub k ks hs⟩
theorem bF.sub {S T:Nat->Prop} {w:World} (k:∀b,S b->b<w.heap.size->T b):∀(rs:List RT) {vs:List Value},bF S w rs vs->bF T w rs vs
 | [],_,h=>by unfold bF at h ⊢;exact h
 | r::rs,vs,h=>by
  unfold bF at h ⊢
  obtain ⟨u,us,rfl,h1,h2⟩:=h
  exact ⟨u,us,rfl,fP.sub k r h1,bF.sub k rs h2⟩
end
theorem bF.len {S:Nat->Prop} {w:World}:∀(rs:List RT) {vs:List Value},bF S w rs vs->vs.length=rs.length
 | [],_,h=>by unfold bF at h;subst h;rfl
 | r::rs,vs,h=>by
  unfold bF at h
  obtain ⟨u,us,rfl,_,h2⟩:=h
  rw [aT,aT,bF.len rs h2]
def gr (rs:List RT) (k:Nat):RT:=rs.getD k (.node ByteArray.empty [])
theorem bF.get {S:Nat->Prop} {w:World}:∀(rs:List RT) {vs:List Value},bF S w rs vs->∀k,k<rs.length->fP S w (gr rs k) (vN vs k)
 | [],_,_,k,hk=>absurd hk (bG _)
 | r::rs,vs,h,k,hk=>by
  unfold bF at h
  obtain ⟨u,us,rfl,h1,h2⟩:=h
  cases k with
  | zero=>exact h1
  | succ k=>exact bF.get rs h2 k (by simpa using hk)
theorem bF.app {S:Nat->Prop} {w:World} {r:RT} {u:Value} (hr:fP S w r u):∀(rs:List RT) {vs:List Value},bF S w rs vs->bF S w (rs++[r]) (vs++[u])
 | [],vs,h=>by
  unfold bF at h;subst h
  show bF S w [r] [u]
  unfold bF
  exact ⟨u,[],rfl,hr,by unfold bF;rfl⟩
 | q::rs,vs,h=>by
  unfold bF at h
  obtain ⟨x,us,rfl,h1,h2⟩:=h
  show bF S w (q::(rs++[r])) (x::(us++[u]))
  unfold bF
  exact ⟨x,us++[u],rfl,h1,bF.app hr rs h2⟩
theorem fP.open {S:Nat->Prop} {w:World} {r:RT} {v:Value} (h:fP S w r v):∃b kp kc vs,v=.pointer (some ⟨b,0,none⟩)/\S b/\w.cell? ⟨b,0,none⟩=some (.string r.nm)/\w.cell? ⟨b,1,none⟩=some (.slice kp r.kids.length kc)/\ay S w (.slice kp r.kids.length kc) r.kids.length (vN vs)/\bF S w r.kids vs:=by
 cases r with
 | node nm ks =>
  unfold fP at h;obtain ⟨b,kv,vs,rfl,hS,hb,hk,hs⟩:=h;obtain ⟨kp,kc,rfl,_,_⟩:=ay.open hk;exact ⟨b,kp,kc,vs,rfl,hS,by simp [World.cell?,hb,RT.nm],by simp [World.cell?,hb,RT.kids],hk,hs⟩
theorem xg {p:Option Addr} {n cap:Nat} {S:Nat->Prop} {w:World} {vs:List Value} (h:ay S w (.slice p n cap) n (vN vs)) {k:Nat} (hk:k<n):∃b off,p=some ⟨b,off,none⟩/\w.cell? ⟨b,off+k,none⟩=some (vN vs k):=by
 obtain ⟨q,c,e,_,H⟩:=ay.open h;injection e with e1;subst e1;exact H k hk
structure sM (base B:Nat) (w:World) (nm:ByteArray) (kv:Value) (rs:List RT):Prop where
 node:w.heap[B]? = some (.cells #[.string nm,kv] 254 (0,0))
 lo:base<=B
 kids:∃vs,ax (B+1) 210 w kv vs/\bF (fun b=>base<=b/\b≠B/\kv.ownBlock≠some b) w rs vs
theorem sM.lt {base B:Nat} {w:World} {nm:ByteArray} {kv:Value} {rs:List RT} (h:sM base B w nm kv rs):B<w.heap.size:=(fR.1 h.node).1
theorem sM.cells {base B:Nat} {w:World} {nm:ByteArray} {kv:Value} {rs:List RT} (h:sM base B w nm kv rs):w.cell? ⟨B,0,none⟩=some (.string nm)/\w.cell? ⟨B,1,none⟩=some kv/\w.frozen? ⟨B,0,none⟩=false/\w.frozen? ⟨B,1,none⟩=false:=by
 refine ⟨?_,?_,?_,?_⟩<;>simp [World.cell?,World.frozen?,h.node]
theorem sM.start (w:World) {base:Nat} (hb:base<=w.heap.size) (nm:ByteArray):sM base w.heap.size (w.alloc (.cells #[.string nm,.slice none 0 0] 254)) nm (.slice none 0 0) [] :=
 ⟨mV _ _,hb,[],ax.nil _ _ _,by unfold bF;rfl⟩
theorem sM.up {base B:Nat} {w w':World} {nm:ByteArray} {kv:Value} {rs:List RT} (h:sM base B w nm kv rs) (hu:Up w w'):sM base B w' nm kv rs:=by
 obtain ⟨vs,ho,hr⟩:=h.kids;exact ⟨(bI hu B h.lt).trans h.node,h.lo,vs,ho.kept fun b _ hb=>bI hu b hb,bF.keep (hu.kept _) rs hr⟩
theorem sM.done {base B:Nat} {w:World} {nm:ByteArray} {kv:Value} {rs:List RT} (h:sM base B w nm kv rs):fP (fun b=>base<=b) w (.node nm rs) (.pointer (some ⟨B,0,none⟩)):=by
 obtain ⟨vs,ho,hr⟩:=h.kids;have hlen:=bF.len rs hr;unfold fP;have h1:=ho.vz;rw [hlen] at h1;exact ⟨B,kv,vs,rfl,h.lo,h.node,h1.sub fun b hb _=>by have:=h.lo;omega,bF.sub (fun b hb _=>hb.1) rs hr⟩
theorem sM.push {base B:Nat} {w W:World} {nm:ByteArray} {kv kv':Value} {rs:List RT} {r:RT} {u:Value} {lim:Nat} (h:sM base B w nm kv rs) (hr:fP (fun b=>lim<=b) w r u) (kI:base<=lim) (hl2:B<lim) (GU:∀b,kv.ownBlock=some b->b<lim)
  {vs:List Value} (hv:bF (fun b=>base<=b/\b≠B/\kv.ownBlock≠some b) w rs vs) (ho:ax (B+1) 210 W kv' (vs++[u])) (hg:w.grownBy W kv.ownBlock) (dD:∀b,kv'.ownBlock=some b->kv.ownBlock=some b\/w.heap.size<=b) :
  sM base B (W.setCell ⟨B,1,none⟩ kv') nm kv' (rs++[r]):=by
 have hBl:=h.lt;have hBk:kv.ownBlock≠some B:=fun e=>by obtain ⟨YL,Kv,_⟩:=h.kids;have:=(av Kv e).1;omega
 have hBk':kv'.ownBlock≠some B:=fun e=>by
  rcases dD B e with h1 | h1
  ·exact hBk h1
  ·omega
 have dR:∀b,b≠B->(W.setCell ⟨B,1,none⟩ kv').heap[b]? = W.heap[b]?:=fun b hb=>blk_setCell_other _ _ _ _ hb;have hB:W.heap[B]? = w.heap[B]?:=hg.block B hBl (fun e=>hBk e.symm);have hkeep:∀b,b≠B->kv.ownBlock≠some b->b<w.heap.size->(W.setCell ⟨B,1,none⟩ kv').heap[b]? = w.heap[b]?:=fun b h1 h2 h3=>(dR b h1).trans (hg.block b h3 fun e=>h2 e.symm);refine ⟨?_,h.lo,vs++[u],ho.fM fun b hb=>dR b (fun e=>hBk' (by rw [hb,e])),?_⟩
 ·have hn:=hB.trans h.node
  simp [World.setCell,Array.getElem?_modify,hn]
 ·have k1:Kept (fun b=>base<=b/\b≠B/\kv.ownBlock≠some b) w (W.setCell ⟨B,1,none⟩ kv'):=fun b hb hl=>hkeep b hb.2.1 hb.2.2 hl
  have k2:Kept (fun b=>lim<=b) w (W.setCell ⟨B,1,none⟩ kv'):=fun b hb hl=>hkeep b (by have:lim<=b:=hb;omega) (fun e=>by have:=GU b e;have:lim<=b:=hb;omega) hl;have hsz:(W.setCell ⟨B,1,none⟩ kv').heap.size=W.heap.size:=by simp [World.size_setCell]
  have hold:∀b,b<w.heap.size->kv.ownBlock≠some b->kv'.ownBlock≠some b:=fun b h1 h2 e=>by
   rcases dD b e with h3 | h3
   ·exact h2 h3
   ·omega
  have h1:bF (fun b=>base<=b/\b≠B/\kv'.ownBlock≠some b) w rs vs:=bF.sub (fun b hb hl=>⟨hb.1,hb.2.1,hold b hl hb.2.2⟩) rs hv;have h2:fP (fun b=>base<=b/\b≠B/\kv'.ownBlock≠some b) w r u:=fP.sub (fun b hb hl=>⟨by have:lim<=b:=hb;omega,by have:lim<=b:=hb;omega,hold b hl fun e=>by have:=GU b e;have:lim<=b:=hb;omega⟩) r hr;have k3:Kept (fun b=>base<=b/\b≠B/\kv'.ownBlock≠some b/\kv.ownBlock≠some b) w (W.setCell ⟨B,1,none⟩ kv'):=fun b hb hl=>hkeep b hb.2.1 hb.2.2.2 hl
  have h1':bF (fun b=>base<=b/\b≠B/\kv'.ownBlock≠some b/\kv.ownBlock≠some b) w rs vs:=bF.sub (fun b hb hl=>⟨hb.1,hb.2.1,hold b hl hb.2.2,hb.2.2⟩) rs hv;have Qf:fP (fun b=>base<=b/\b≠B/\kv'.ownBlock≠some b/\kv.ownBlock≠some b) w r u:=fP.sub (fun b hb hl=>⟨by have:lim<=b:=hb;omega,by have:lim<=b:=hb;omega,hold b hl fun e=>by have:=GU b e;have:lim<=b:=hb;omega,fun e=>by have:=GU b e;have:lim<=b:=hb;omega⟩) r hr;exact bF.sub (fun b hb _=>⟨hb.1,hb.2.1,hb.2.2.1⟩) _ (bF.app (fP.keep k3 r Qf) rs (bF.keep k3 rs h1'))
end
end Go.Proofs.YthgabkgmkolobaaGreat
