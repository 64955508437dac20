/- Two rose trees without one-child nodes .. -/
import Derived.Lib.IndexAny
import Derived.Shelf.Strings.BuilderK
import Derived.Ground.NamesProg
import Derived.Ground.Names2Prog
import Derived.Test.YthgabkgmkolobaaGreatQ16
set_option maxRecDepth 100000
set_option maxHeartbeats 2000000
namespace Go.Proofs.YthgabkgmkolobaaGreat
section
structure mR (r:RT):Prop where
 nd:(bM r).Nodup
 pt:∀s∈bh r,rz s
theorem mR.good {r:RT} (h:mR r):jm r:=⟨fun s hs hk=>(h.pt s hs).1 hk,fun s hs hk=>(h.pt s hs).2.1 hk,h.nd⟩
theorem mR.sub {r s:RT} (h:mR r) (hs:s∈bh r):mR s:=⟨(dR hs).nodup h.nd,fun q hq=>h.pt q (kD r hs hq)⟩
theorem mR.first {r:RT} (h:mR r):aU r∈bM r:=xZ r h.good.lf
theorem oA {nm:ByteArray} {ks:List RT} {k:RT} (hk:k∈ks):k∈bh (.node nm ks):=by
 rw [bh];exact mX _ (E6 hk k (dm k))
theorem mR.adN {nm:ByteArray} {ks:List RT} (h:mR (.node nm ks)) (h0:ks≠[]):bM (.node nm ks)=ks.flatMap bM :=
 iX ((h.pt _ (dm _)).1 h0)
theorem mR.apart {nm:ByteArray} {ks:List RT} (h:mR (.node nm ks)) {i j:Nat} (hi:i<ks.length) (hj:j<ks.length) {x:ByteArray} (h1:x∈bM ks[i]) (h2:x∈bM ks[j]):i=j:=by
 have h0:ks≠[]:=fun e=>by subst e;simp at hi
 have hn:=h.nd;rw [h.adN h0,Aa,BR] at hn;have hp:=mY.1 hn.2;rcases oo i j with c | c | c
 ·exact absurd rfl (hp i j hi hj c x h1 x h2)
 ·exact c
 ·exact absurd rfl (hp j i hj hi c x h2 x h1)
theorem mR.Iq {nm:ByteArray} {ks:List RT} (h:mR (.node nm ks)) {k k':RT} (hk:k∈ks) (hk':k'∈ks) {x:ByteArray} (h1:x∈bM k) (h2:x∈bM k'):k=k':=by
 obtain ⟨i,hi,rfl⟩:=rQ hk;obtain ⟨j,hj,rfl⟩:=rQ hk';have:=h.apart hi hj h1 h2;subst this;rfl
theorem mR.lacks {nm:ByteArray} {ks:List RT} (h:mR (.node nm ks)) {k:RT} (hk:k∈ks):∃x∈bM (.node nm ks),x∉bM k:=by
 have h0:ks≠[]:=fun e=>by subst e;simp at hk
 have h1:ks.length≠1:=(h.pt _ (dm _)).2.2;have h2:2<=ks.length:=by have:=List.length_pos_of_mem hk;omega
 obtain ⟨i,hi,rfl⟩:=rQ hk;obtain ⟨j,hj,hij⟩:∃j,j<ks.length/\i≠j:=by
  by_cases c:i=0
  ·exact ⟨1,by omega,by omega⟩
  ·exact ⟨0,by omega,c⟩
 have hf:=(h.sub (oA (jy hj))).first;refine ⟨aU ks[j],?_,fun q=>hij (h.apart hi hj q hf)⟩;rw [h.adN h0];exact iA.2 ⟨_,jy hj,hf⟩
theorem mR.two {nm:ByteArray} {ks:List RT} (h:mR (.node nm ks)) (h0:ks≠[]) (y:ByteArray):∃x∈bM (.node nm ks),x≠y:=by
 obtain ⟨k,hk⟩:=CP _ h0;obtain ⟨x,hx,hn⟩:=h.lacks hk;have hf:=(h.sub (oA hk)).first;by_cases c:x=y
 ·subst c
  refine ⟨aU k,(dR (oA hk)).subset hf,fun e=>hn ?_⟩;rw [<- e];exact hf
 ·exact ⟨x,hx,c⟩
def x4 (r s:RT):Prop:=∀x,x∈bM r↔x∈bM s
def x5 (r1 r2:RT):Prop:=∀s∈bh r1,∃u∈bh r2,x4 s u
theorem abn {r1 r2:RT} (h1:x5 r1 r2) (h2:x5 r2 r1):x4 r1 r2:=by
 obtain ⟨u,hu,e⟩:=h1 r1 (dm _);obtain ⟨v,hv,f⟩:=h2 r2 (dm _);exact fun x=>⟨fun hx=>(dR hu).subset ((e x).1 hx),fun hx=>(dR hv).subset ((f x).1 hx)⟩
theorem zk {u:RT} {ks:List RT} (h:u∈dO ks):∃k∈ks,u∈bh k:=by
 rw [pH] at h;obtain ⟨k,hk,hu⟩:=iA.1 h;exact ⟨k,hk,hu⟩
theorem Ga {n1 n2:ByteArray} {k1 k2:List RT} (o1:mR (.node n1 k1)) (h1:x5 (.node n1 k1) (.node n2 k2)) (hs:x4 (.node n1 k1) (.node n2 k2)) {k:RT} (hk:k∈k1) {s:RT} (hsk:s∈bh k) :
  ∃q∈k2,∃u∈bh q,x4 s u:=by
 obtain ⟨u,hu,e⟩:=h1 s (kD _ (oA hk) hsk);rw [bh,bA] at hu;rcases hu with rfl | hu
 ·obtain ⟨x,hx,hn⟩:=o1.lacks hk
  exact absurd ((dR hsk).subset ((e x).2 ((hs x).1 hx))) hn
 ·obtain ⟨q,hq,hu⟩:=zk hu
  exact ⟨q,hq,u,hu,e⟩
theorem abo {a b:List RT} (h:a.Perm b):(a.map aU).Nodup->a.foldr gD []=b.foldr gD []:=by
 induction h with
 | nil=>intro _;rfl
 | cons x _ ih=>intro hn;rw [List.foldr_cons,List.foldr_cons,ih (by rw [dV,qu] at hn;exact hn.2)]
 | swap x y l =>
  intro hn
  simp only [List.foldr_cons]
  rw [dV,qu,dV] at hn
  exact E5 (fun e=>hn.1 (by rw [e];simp)) _
 | trans p _ ih1 ih2=>intro hn;rw [ih1 hn,ih2 ((p.map _).nodup_iff.1 hn)]
theorem BA:∀l:List RT,fM l=(l.map bJ).foldr gD []
 | []=>by rw [fM];rfl
 | r::l=>by rw [fM,BA l];rfl
theorem Qi {a b:ByteArray} (ha:a.size=0) (hb:b.size=0):a=b:=by
 apply ByteArray.ext;apply Array.ext
 ·show a.size=b.size;omega
 ·intro i hi _;have:i<a.size:=hi;omega
theorem E7:∀(d:Nat) (r1 r2:RT),aP r1<=d->mR r1->mR r2->x5 r1 r2->x5 r2 r1->bJ r1=bJ r2
 | 0,r1,_,hd,_,_,_,_=>by have:=oT r1;omega
 | d+1,.node n1 k1,.node n2 k2,hd,o1,o2,h1,h2=>by
  have hs:=abn h1 h2
  have hs':x4 (.node n2 k2) (.node n1 k1):=fun x=>(hs x).symm
  by_cases e1:k1=[]
  ·subst e1
   have hz1:=gK ((o1.pt _ (dm _)).2.1 rfl)
   have l1:bM (.node n1 [])=[n1]:=nA hz1
   by_cases e2:k2=[]
   ·subst e2
    have hz2:=gK ((o2.pt _ (dm _)).2.1 rfl)
    have l2:bM (.node n2 [])=[n2]:=nA hz2
    have:=(hs n1).1 (by rw [l1];simp)
    rw [l2,cN] at this
    rw [this]
   ·obtain ⟨x,hx,hn⟩:=o2.two e2 n1
    have:=(hs x).2 hx
    rw [l1,cN] at this
    exact absurd this hn
  ·by_cases e2:k2=[]
   ·subst e2
    have hz2:=gK ((o2.pt _ (dm _)).2.1 rfl)
    have l2:bM (.node n2 [])=[n2]:=nA hz2
    obtain ⟨x,hx,hn⟩:=o1.two e1 n2
    have:=(hs x).1 hx
    rw [l2,cN] at this
    exact absurd this hn
   ·have hz1:=(o1.pt _ (dm _)).1 e1
    have hz2:n2.size=0:=(o2.pt _ (dm _)).1 e2
    have agq:∀k∈k1,mR k:=fun k hk=>o1.sub (oA hk)
    have ags:∀k∈k2,mR k:=fun k hk=>o2.sub (oA hk)
    -- children match
    have key:∀ {n1 n2:ByteArray} {k1 k2:List RT},mR (.node n1 k1)->mR (.node n2 k2)->x5 (.node n1 k1) (.node n2 k2)->x5 (.node n2 k2) (.node n1 k1)->x4 (.node n1 k1) (.node n2 k2)->x4 (.node n2 k2) (.node n1 k1) ->
      ∀k∈k1,∃q∈k2,x4 k q/\x5 k q/\x5 q k:=by
     intro n1 n2 k1 k2 o1 o2 h1 h2 hs hs' k hk
     obtain ⟨q,hq,u,hu,e⟩:=Ga o1 h1 hs hk (dm k)
     obtain ⟨k',hk',u',Az,e'⟩:=Ga o2 h2 hs' hq (dm q)
     have hf:=(o1.sub (oA hk)).first
     have hfq:aU k∈bM q:=(dR hu).subset ((e _).1 hf)
     have hkk:k=k':=o1.Iq hk hk' hf ((dR Az).subset ((e' _).1 hfq))
     subst hkk
     have hsame:x4 k q:=fun x=>⟨fun hx=>(dR hu).subset ((e x).1 hx),fun hx=>(dR Az).subset ((e' x).1 hx)⟩
     refine ⟨q,hq,hsame,fun s hsk=>?_,fun s TZ=>?_⟩
     ·obtain ⟨q2,j8,v,hv,ev⟩:=Ga o1 h1 hs hk hsk
      have hfs:=((o1.sub (oA hk)).sub hsk).first
      have:=o2.Iq hq j8 ((hsame _).1 ((dR hsk).subset hfs)) ((dR hv).subset ((ev _).1 hfs))
      subst this
      exact ⟨v,hv,ev⟩
     ·obtain ⟨q2,j8,v,hv,ev⟩:=Ga o2 h2 hs' hq TZ
      have hfs:=((o2.sub (oA hq)).sub TZ).first
      have:=o1.Iq hk j8 ((hsame _).2 ((dR TZ).subset hfs)) ((dR hv).subset ((ev _).1 hfs))
      subst this
      exact ⟨v,hv,ev⟩
    have hsz:∀k∈k1,aP k<=d:=fun k hk=>by
     rw [aP] at hd
     have:∀l:List RT,k∈l->aP k<=aK l:=fun l=>by
      induction l with
      | nil=>intro h;cases h
      | cons a l ih =>
       intro h
       rw [aK]
       rcases bA.1 h with rfl | h
       ·omega
       ·have:=ih h;omega
     have:=this k1 hk
     omega
    have m1:∀k∈k1,∃q∈k2,bJ k=bJ q:=fun k hk=>by
     obtain ⟨q,hq,_,f1,f2⟩:=key o1 o2 h1 h2 hs hs' k hk
     exact ⟨q,hq,E7 d k q (hsz k hk) (agq k hk) (ags q hq) f1 f2⟩
    have m2:∀q∈k2,∃k∈k1,bJ q=bJ k:=fun q hq=>by
     obtain ⟨k,hk,_,f1,f2⟩:=key o2 o1 h2 h1 hs' hs q hq
     exact ⟨k,hk,(E7 d k q (hsz k hk) (agq k hk) (ags q hq) f2 f1).symm⟩
    have d1:((k1.map bJ).map aU).Nodup:=by rw [jA];exact Ip o1.good _ (dm _)
    have d2:((k2.map bJ).map aU).Nodup:=by rw [jA];exact Ip o2.good _ (dm _)
    have nd:∀ {l:List RT},(l.map aU).Nodup->l.Nodup:=fun {l} h=>by
     unfold List.Nodup at h ⊢
     rw [sI] at h
     exact h.imp fun h e=>h (by rw [e])
    have hp:(k1.map bJ).Perm (k2.map bJ):=(Eo (nd d1) (nd d2)).2 fun x=>by
     constructor
     ·intro hx
      obtain ⟨k,hk,rfl⟩:=bI.1 hx
      obtain ⟨q,hq,e⟩:=m1 k hk
      exact bI.2 ⟨q,hq,e.symm⟩
     ·intro hx
      obtain ⟨q,hq,rfl⟩:=bI.1 hx
      obtain ⟨k,hk,e⟩:=m2 q hq
      exact bI.2 ⟨k,hk,e.symm⟩
    rw [bJ,bJ,BA,BA,abo hp d1,Qi (a:=n1) (b:=n2) hz1 hz2]
end
section
theorem abp {nm:ByteArray} {ks:List RT} {k:RT} (h:k∈ks):aP k<aP (.node nm ks):=by
 rw [aP];have:∀l:List RT,k∈l->aP k<=aK l:=fun l=>by
  induction l with
  | nil=>intro h;cases h
  | cons a l ih =>
   intro h;rw [aK];rcases bA.1 h with rfl | h
   ·omega
   ·have:=ih h;omega
 have:=this ks h;omega
section
variable {F:bW} {n:Nat} {rk:Nat->Nat}
theorem E8 (h:Wf F n rk) {i z:Nat} (hi:i<n) (hs:dz F rk i z=true):bE F rk z∈bh (bE F rk i):=by
 rw [Ao h hi (ah _)];exact bI.2 ⟨z,(fB h hi (ah _)).2 hs,rfl⟩
theorem JT (h:Wf F n rk):∀(d i:Nat),rk i<=d->i<n->jm (bE F rk i)->(cI F rk i).Nodup
 | d,i,hd,hi,hg=>by
  rw [dQ h hi,qu]
  have hsub:∀k∈F.kids i,bE F rk k∈bh (bE F rk i):=fun k hk=>E8 h hi (tC h hi hk (nw h (h.kid i hi k hk).1))
  have Gu:∀k∈F.kids i,jm (bE F rk k):=fun k hk=>⟨fun s hs=>hg.y9 s (kD _ (hsub k hk) hs),fun s hs=>hg.lf s (kD _ (hsub k hk) hs),(dR (hsub k hk)).nodup hg.nd⟩
  refine ⟨fun hm=>?_,?_⟩
  ·obtain ⟨k,hk,hm⟩:=iA.1 hm
   have hkk:=h.kid i hi k hk
   have:=tM h hkk.1 ((fB h hkk.1 (ah _)).1 hm)
   omega
  ·by_cases h0:F.kids i=[]
   ·rw [h0];simp
   ·have iF:=hg.nd
    rw [fh h hi,iX (by have:=hg.y9 _ (dm _);rw [yt h hi,Ap h hi] at this;exact this (fun e=>h0 (List.map_eq_nil_iff.1 e))),CQ,Aa,BR] at iF
    rw [Aa,BR]
    refine ⟨fun k hk=>?_,?_⟩
    ·have hkk:=h.kid i hi k hk
     cases d with
     | zero=>omega
     | succ d=>exact JT h d k (by omega) hkk.1 (Gu k hk)
    ·refine iF.2.imp_of_mem ?_
     intro a b ha hb hab x hx y hy e
     subst e
     have hka:=h.kid i hi a ha
     have hkb:=h.kid i hi b hb
     have h1:=E8 h hka.1 ((fB h hka.1 (ah _)).1 hx)
     have h2:=E8 h hkb.1 ((fB h hkb.1 (ah _)).1 hy)
     have hf:=xZ (bE F rk x) fun s hs=>(Gu a ha).lf s (kD _ h1 hs)
     exact hab _ ((dR h1).subset hf) _ ((dR h2).subset hf) rfl
end
end
section
section
variable {F:bW} {n:Nat} {rk:Nat->Nat}
theorem abq (h:Wf F n rk):∀ {d i:Nat} (p:Option Nat) (np:Int) (s:DR),i<n->rk i<=d->(cI F rk i).Nodup->p≠some i->s.mp.lookup p=some np->(∀j∈cI F rk i,s.mp.lookup (some j)=none) ->
  Ov s ((gT F rk i p).foldl (uo F) s) (kT (bE F rk i) s.ps.length np) (eo (bE F rk i)) (cI F rk i):=by
 intro d
 induction d with
 | zero =>
  intro i p np s hi hd agt hp hl hn;have hk:F.kids i=[]:=by
   cases hk:F.kids i with
   | nil=>rfl
   | cons k l=>have:=(h.kid i hi k (by rw [hk];simp)).2;omega
  rw [kS h hi,fh h hi,dQ h hi,hk];have hni:=hn i (by rw [dQ h hi];simp);refine ⟨?_,?_,fun k hk2=>gq _ (hk2 i (by simp))⟩
  ·show s.ps++[((qY s.mp (some i) _).lookup p).getD 0]=_
   rw [gq _ hp,hl];rfl
  ·rfl
 | succ d ih =>
  intro i p np s hi hd agt hp hl hn;rw [kS h hi,fh h hi,dQ h hi];have hni:=hn i (by rw [dQ h hi];simp);have iF:=agt;rw [dQ h hi,qu] at iF;have key:∀(l:List Nat),(∀k∈l,k∈F.kids i)->(l.flatMap fun k=>cI F rk k).Nodup->(∀k∈l,i∉cI F rk k)->∀(s2:DR) (own:Nat),s2.mp.lookup (some i)=some (own:Int)->(∀k∈l,∀j∈cI F rk k,s2.mp.lookup (some j)=none) ->
    Ov s2 ((l.flatMap fun k=>gT F rk k (some i)).foldl (uo F) s2) (fU (l.map (bE F rk)) own s2.ps.length) (eu (l.map (bE F rk))) (l.flatMap fun k=>cI F rk k):=by
   intro l
   induction l with
   | nil=>intro _ _ _ s2 own _ _;exact ⟨by simp [fU],by simp [eu],fun _ _=>rfl⟩
   | cons c l ihl =>
    intro hin hdl hil s2 own ho hno
    have hcc:=h.kid i hi c (hin c (by simp))
    rw [gj,List.foldl_append,gj]
    rw [gj,ua] at hdl
    have h1:=ih (some i) (own:Int) s2 hcc.1 (by omega) hdl.1 (fun e=>by
     injection e with e
     have:=hcc.2;rw [e] at this;omega) ho (hno c (by simp))
    have h2:=ihl (fun k hk=>hin k (by simp [hk])) hdl.2.1 (fun k hk=>hil k (by simp [hk])) ((gT F rk c (some i)).foldl (uo F) s2) own
     ((h1.old (some i) (fun j hj e=>by injection e with e;subst e;exact hil c (by simp) hj)).trans ho)
     (fun k hk j hj=>(h1.old (some j) (fun j2 hj2 e=>by
      injection e with e;subst e
      exact hdl.2.2 j hj2 j (iA.2 ⟨k,hk,hj⟩) rfl)).trans (hno k (by simp [hk]) j hj))
    refine ⟨?_,?_,fun k hk=>?_⟩
    ·rw [h2.ps,h1.ps,dV,fU,dS,bg,rV]
    ·rw [h2.ns,h1.ns,dV,eu,dS]
    ·rw [h2.old k (fun j hj=>hk j (by simp [hj])),h1.old k (fun j hj=>hk j (by simp [hj]))]
  have hin:∀k∈F.kids i,i∉cI F rk k:=fun k hk hm=>iF.1 (iA.2 ⟨k,hk,hm⟩)
  have h3:=key (F.kids i) (fun k hk=>hk) iF.2 hin (uo F s (i,p)) s.ps.length (Am _ hni) (fun k hk j hj=>by
   show (qY s.mp (some i) _).lookup (some j)=none;rw [gq _ (fun e=>by injection e with e;subst e;exact hin k hk hj)]
   exact hn j (by rw [dQ h hi];exact mX _ (iA.2 ⟨k,hk,hj⟩)))
  have hps:(uo F s (i,p)).ps=s.ps++[np]:=by show s.ps++[((qY s.mp (some i) _).lookup p).getD 0]=_;rw [gq _ hp,hl];rfl
  rw [List.foldl_cons];refine ⟨?_,?_,fun k hk=>?_⟩
  ·rw [h3.ps,hps,kT,dS,bg];rfl
  ·rw [h3.ns]
   show (s.ns++[F.nm i])++_=_;rw [eo,dS];rfl
  ·rw [h3.old k (fun j hj=>hk j (by simp [hj]))]
   exact gq _ (hk i (by simp))
theorem S8 (h:Wf F n rk) {i:Nat} (hi:i<n) (iF:(cI F rk i).Nodup):kC F rk i=flat (bE F rk i):=by
 have h1:=abq h (d:=rk i) none (-1) K1 hi (ah _) iF (fun e=>by cases e) rfl (fun j _=>rfl);unfold kC flat eV;rw [h1.ps,h1.ns];rfl
end
end
section
def eY:List UInt8:=[40,41,44,59]
def abr:List (List RT)->List (List RT)
 | Z::Y::st=>(Y++[.node ByteArray.empty Z])::st
 | st=>st
def agu (r:RT):List (List RT)->List (List RT)
 | Z::st=>(Z++[r])::st
 | []=>[]
def Yo:List (List RT)->RT
 | (r::_)::_=>r
 | _=>.node ByteArray.empty []
def pz:Nat->List UInt8->List (List RT)->Bool->Option RT
 | 0,_,_,_=>none
 | _+1,[],_,_=>none
 | f+1,c::s,st,dn =>
  if c=40 then (if dn=true then none else pz f s ([]::st) false)
  else if c=41 then (if dn=false\/st.length=1 then none else pz f s (abr st) true)
  else if c=44 then (if dn=false\/st.length=1 then none else pz f s st false)
  else if c=59 then (if dn=false\/st.length≠1\/s≠[] then none else some (Yo st))
  else if dn=true then none
  else if Lib.indexAny (c::s) eY<0 then none
  else pz f ((c::s).drop (Lib.indexAny (c::s) eY).toNat) (agu (.node ⟨((c::s).take (Lib.indexAny (c::s) eY).toNat).toArray⟩ []) st) true
def tQ (s:List UInt8):Option RT:=pz (s.length+1) s [[]] false
section
variable {F G:bW} {n m:Nat} {rk:Nat->Nat}
theorem JU (hF:Wf F n rk) (hG:Wf G m rk):∀(d c:Nat),rk c<=d->c<n->c<m->(∀z,dz F rk c z=true->G.kids z=F.kids z/\G.nm z=F.nm z)->bE G rk c=bE F rk c
 | d,c,hd,hc,hm,hz=>by
  obtain ⟨h1,h2⟩:=hz c (nw hF hc)
  rw [fh hF hc,fh hG hm,h1,h2]
  congr 1
  refine lz fun k hk=>?_
  have hkk:=hF.kid c hc k hk
  have hkm:=(hG.kid c hm k (by rw [h1];exact hk)).1
  cases d with
  | zero=>omega
  | succ d=>exact JU hF hG d k (by omega) hkk.1 hkm fun z hs=>hz z (tC hF hc hk hs)
def Yp (F:bW):bW:=⟨fun i=>⟨Array.replicate i 0⟩,F.old,F.kids⟩
theorem Yq (hF:Wf F n rk) (one:∀p q k,p<n->q<n->k∈F.kids p->k∈F.kids q->p=q) (nd:∀i,i<n->(F.kids i).Nodup):yZ (Yp F) n rk :=
 ⟨⟨fun i hi k hk=>hF.kid i hi k hk⟩,one,nd,fun a b _ _ _ _ e=>by
  have e:(⟨Array.replicate a 0⟩:ByteArray)=⟨Array.replicate b 0⟩:=e
  have:=congrArg (fun s:ByteArray=>s.data.size) e
  simpa using this⟩
theorem Yr (hF:Wf F n rk) {c:Nat} (hc:c<n) (z:Nat):dz (Yp F) rk c z=dz F rk c z :=
 aa6 (G:=Yp F) hF ⟨fun i hi k hk=>hF.kid i hi k hk⟩ hc (ah _) (fun _ _=>rfl) z
theorem Qj (hF:Wf F n rk):∀(d c:Nat),rk c<=d->c<n->cI (Yp F) rk c=cI F rk c
 | d,c,hd,hc=>by
  have hU:Wf (Yp F) n rk:=⟨fun i hi k hk=>hF.kid i hi k hk⟩
  rw [dQ hF hc,dQ hU hc]
  congr 1
  refine jV fun k hk=>?_
  have hkk:=hF.kid c hc k hk
  cases d with
  | zero=>omega
  | succ d=>exact Qj hF d k (by omega) hkk.1
theorem abt (hF:Wf F n rk) (one:∀p q k,p<n->q<n->k∈F.kids p->k∈F.kids q->p=q) (nd:∀i,i<n->(F.kids i).Nodup) {R:Nat} (hR:∀i,i<n->rk i<=R) {i x y j:Nat} (hi:i<n) (hx:x∈F.kids i) (hy:y∈F.kids i) (h1:dz F rk x j=true) (h2:dz F rk y j=true):x=y :=
 Ic (Yq hF one nd) hR hi hx hy (by rw [Yr hF (hF.kid i hi x hx).1];exact h1) (by rw [Yr hF (hF.kid i hi y hy).1];exact h2)
theorem MQ (hF:Wf F n rk) (one:∀p q k,p<n->q<n->k∈F.kids p->k∈F.kids q->p=q) (nd:∀i,i<n->(F.kids i).Nodup) {R:Nat} (hR:∀i,i<n->rk i<=R) {i:Nat} (hi:i<n):(cI F rk i).Nodup:=by
 rw [<- Qj hF (rk i) i (ah _) hi];exact oy (Yq hF one nd) hR hi (ah _)
end
def sW (z:Nat):Nat:=2000 - z
def Dh (F:bW):Option Nat->List Nat->List (List RT)->Prop
 | nx,o::os,Z::st=>(F.nm o).size=0/\(∃ks,F.kids o=ks++nx.toList/\ks.map (bE F sW)=Z)/\Dh F (some o) os st
 | _,[],[]=>True
 | _,_,_=>False
structure qF (F:bW) (n:Nat) (op:List Nat) (st:List (List RT)):Prop where
 big:n<=2000
 kid:∀i,i<n->∀k∈F.kids i,i<k/\k<n
 one:∀p q k,p<n->q<n->k∈F.kids p->k∈F.kids q->p=q
 nd:∀i,i<n->(F.kids i).Nodup
 zip:Dh F none op st
 opn:∀o∈op,o<n
 ne:op≠[]
section
variable {F:bW} {n:Nat} {op:List Nat} {st:List (List RT)}
theorem qF.wf (h:qF F n op st):Wf F n sW:=⟨fun i hi k hk=>by obtain ⟨h1,h2⟩:=h.kid i hi k hk;have:=h.big;exact ⟨h2,by unfold sW;omega⟩⟩
theorem Qk (i:Nat):sW i<=2000:=Nat.sub_le _ _
theorem Dh.len {F:bW}:∀ {nx:Option Nat} {op:List Nat} {st:List (List RT)},Dh F nx op st->op.length=st.length
 | _,[],[],_=>rfl
 | _,_::os,_::st,h=>by rw [aW,aW,h.2.2.len]
 | _,[],_::_,h=>h.elim
 | _,_::_,[],h=>h.elim
def nP (F:bW) (n o:Nat) (nm:ByteArray):bW:=⟨upd F.nm n nm,upd F.old n 0,upd (upd F.kids n []) o (F.kids o++[n])⟩
theorem vW {F:bW} {n o:Nat} {nm:ByteArray}:(nP F n o nm).kids o=F.kids o++[n]:=upd_same _ _ _
theorem vX {F:bW} {n o:Nat} {nm:ByteArray} (h:o<n):(nP F n o nm).kids n=[]:=by
 show upd _ o _ n=[];rw [upd_ne _ _ (by omega),upd_same]
theorem AA {F:bW} {n o:Nat} {nm:ByteArray} {z:Nat} (h:z≠o) (h2:z≠n):(nP F n o nm).kids z=F.kids z:=by
 show upd _ o _ z=_;rw [upd_ne _ _ h,upd_ne _ _ h2]
theorem Gc {F:bW} {n o:Nat} {nm:ByteArray} {z:Nat} (h2:z≠n):(nP F n o nm).nm z=F.nm z:=upd_ne _ _ h2
theorem zl {F:bW} {n o:Nat} {nm:ByteArray} (hk:∀i,i<n->∀k∈F.kids i,i<k/\k<n) (ho:o<n) {i k:Nat} (hi:i<n+1) (hm:k∈(nP F n o nm).kids i):(i<n/\k∈F.kids i)\/(i=o/\k=n):=by
 by_cases e:i=o
 ·subst e
  rw [vW] at hm;rcases ey.1 hm with h1 | h1
  ·exact .inl ⟨ho,h1⟩
  ·exact .inr ⟨rfl,by simpa using h1⟩
 ·by_cases e2:i=n
  ·subst e2;rw [vX ho] at hm;cases hm
  ·rw [AA e e2] at hm;exact .inl ⟨by omega,hm⟩
theorem T3 (h:qF F n op st) {o:Nat} (ho:o<n) (nm:ByteArray) (hb:n<2000):Wf (nP F n o nm) (n+1) sW:=⟨fun i hi k hm=>by
 unfold sW
 rcases zl h.kid ho hi hm with ⟨h1,h2⟩ | ⟨h1,h2⟩
 ·have:=h.kid i h1 k h2;omega
 ·omega⟩
theorem MR (h:qF F n op st) {o:Nat} (ho:o<n) (nm:ByteArray) (hb:n<2000) {c:Nat} (hc:c<n) (hs:dz F sW c o=false):bE (nP F n o nm) sW c=bE F sW c :=
 JU h.wf (T3 h ho nm hb) _ c (ah _) hc (by omega) fun z hz=>by
  have hzn:=tO h.wf hc (ah _) hz
  have hne:z≠o:=fun e=>by rw [e,hs] at hz;cases hz
  exact ⟨AA hne (by omega),Gc (by omega)⟩
theorem Ql (h:qF F n op st) {o:Nat} (ho:o<n) (nm:ByteArray) (hb:n<2000):∀ {y:Nat} {os:List Nat} {zs:List (List RT)},(∀p∈os,p<n)->y<n->dz F sW y o=true->Dh F (some y) os zs->Dh (nP F n o nm) (some y) os zs
 | _,[],[],_,_,_,_=>trivial
 | y,p::os,Z::zs,hp,hy,hs,hz=>by
  obtain ⟨h1,⟨ks,h2,h3⟩,h4⟩:=hz
  have Qm:=hp p (by simp)
  have hyk:y∈F.kids p:=by rw [h2];simp
  have hpy:=(h.kid p Qm y hyk).1
  have zm:=tC h.wf Qm hyk hs
  have hne:p≠o:=fun e=>by
   subst e
   have:=tM h.wf hy hs
   have hb2:=h.big
   unfold sW at this
   omega
  refine ⟨by rw [Gc (by omega)];exact h1,⟨ks,by rw [AA hne (by omega)];exact h2,?_⟩,Ql h ho nm hb (fun q hq=>hp q (by simp [hq])) Qm zm h4⟩
  rw [<- h3]
  refine lz fun c hc=>?_
  have Es:c∈F.kids p:=by rw [h2];simp [hc]
  have fG:=(h.kid p Qm c Es).2
  refine MR h ho nm hb fG ?_
  cases hsc:dz F sW c o with
  | false=>rfl
  | true =>
   exfalso
   have e:=abt h.wf h.one h.nd (fun i _=>Qk i) Qm Es hyk hsc hs
   subst e
   have iF:=h.nd p Qm
   rw [h2] at iF
   have:=(ua.1 iF).2.2 c hc c (by simp)
   exact this rfl
 | _,[],_::_,_,_,_,hz=>hz.elim
 | _,_::_,[],_,_,_,hz=>hz.elim
end
section
variable {F:bW} {n:Nat} {o:Nat} {os:List Nat} {Z:List RT} {st:List (List RT)}
theorem qF.on (h:qF F n (o::os) st):o<n:=h.opn o (by simp)
theorem qF.size (h:qF F n (o::os) (Z::st)):(F.nm o).size=0/\(F.kids o).map (bE F sW)=Z:=by
 obtain ⟨h1,⟨ks,h2,h3⟩,_⟩:=h.zip;refine ⟨h1,?_⟩;rw [h2];simpa using h3
theorem MS (h:qF F n (o::os) (Z::st)) (nm:ByteArray) (hb:n<2000) :
  (∀i,i<n+1->∀k∈(nP F n o nm).kids i,i<k/\k<n+1)/\(∀p q k,p<n+1->q<n+1->k∈(nP F n o nm).kids p->k∈(nP F n o nm).kids q->p=q)/\(∀i,i<n+1->((nP F n o nm).kids i).Nodup) /\
  Dh (nP F n o nm) (some o) os st/\(∀c∈F.kids o,bE (nP F n o nm) sW c=bE F sW c)/\bE (nP F n o nm) sW n=.node nm []:=by
 have ho:=h.on;refine ⟨fun i hi k hk=>?_,fun p q k hp hq h1 h2=>?_,fun i hi=>?_,Ql h ho nm hb (fun p hp=>h.opn p (by simp [hp])) ho (nw h.wf ho) h.zip.2.2,fun c hc=>?_,?_⟩
 ·rcases zl h.kid ho hi hk with ⟨h1,h2⟩ | ⟨h1,h2⟩
  ·have:=h.kid i h1 k h2;omega
  ·omega
 ·rcases zl h.kid ho hp h1 with ⟨a1,a2⟩ | ⟨a1,a2⟩
  ·rcases zl h.kid ho hq h2 with ⟨b1,b2⟩ | ⟨b1,b2⟩
   ·exact h.one p q k a1 b1 a2 b2
   ·have:=(h.kid p a1 k a2).2;omega
  ·rcases zl h.kid ho hq h2 with ⟨b1,b2⟩ | ⟨b1,b2⟩
   ·have:=(h.kid q b1 k b2).2;omega
   ·omega
 ·by_cases e:i=o
  ·subst e
   rw [vW,ua];refine ⟨h.nd i ho,by simp,fun a ha b hb e=>?_⟩;(have hb:b=n:=by simpa using hb);have:=(h.kid i ho a ha).2;omega
  ·by_cases e2:i=n
   ·subst e2;rw [vX ho];exact List.nodup_nil
   ·rw [AA e e2];exact h.nd i (by omega)
 ·have fG:=h.kid o ho c hc
  refine MR h ho nm hb fG.2 ?_;cases hs:dz F sW c o with
  | false=>rfl
  | true =>
   have:=tM h.wf fG.2 hs;have hb2:=h.big;unfold sW at this;omega
 ·rw [fh (T3 h ho nm hb) (wu n),vX ho]
  show RT.node (upd F.nm n nm n) []=_;rw [upd_same]
theorem qF.leaf (h:qF F n (o::os) (Z::st)) (nm:ByteArray) (hb:n<2000):qF (nP F n o nm) (n+1) (o::os) ((Z++[.node nm []])::st):=by
 obtain ⟨a1,a2,a3,a4,a5,a6⟩:=MS h nm hb;have ho:=h.on;refine ⟨by omega,a1,a2,a3,⟨by rw [Gc (by omega)];exact h.size.1,⟨_,(eG _).symm,?_⟩,a4⟩,fun p hp=>by have:=h.opn p hp;omega,by simp⟩;rw [vW,cg,dV,List.map_nil,a6];congr 1;rw [<- h.size.2];exact lz a5
theorem qF.open (h:qF F n (o::os) (Z::st)) (hb:n<2000):qF (nP F n o ByteArray.empty) (n+1) (n::o::os) ([]::Z::st):=by
 obtain ⟨a1,a2,a3,a4,a5,a6⟩:=MS h ByteArray.empty hb;have ho:=h.on;refine ⟨by omega,a1,a2,a3,⟨?_,⟨[],by rw [vX ho];rfl,rfl⟩,by rw [Gc (by omega)];exact h.size.1,⟨F.kids o,vW,?_⟩,a4⟩,fun p hp=>?_,by simp⟩
 ·show (upd F.nm n ByteArray.empty n).size=0
  rw [upd_same];rfl
 ·rw [<- h.size.2]
  exact lz a5
 ·rcases bA.1 hp with e | e
  ·omega
  ·have:=h.opn p e;omega
theorem qF.pop {q:Nat} {Y:List RT} (h:qF F n (o::q::os) (Z::Y::st)):qF F n (q::os) ((Y++[.node ByteArray.empty Z])::st):=by
 obtain ⟨h1,⟨ks,h2,h3⟩,h4,⟨ks2,h5,h6⟩,h7⟩:=h.zip;have ho:=h.on;refine ⟨h.big,h.kid,h.one,h.nd,⟨h4,⟨ks2++[o],by rw [h5];simp,?_⟩,h7⟩,fun p hp=>h.opn p (by simp at hp ⊢;rcases hp with e | e<;>simp [e]),by simp⟩;rw [cg,h6,dV,List.map_nil,fh h.wf ho];have hn:F.nm o=ByteArray.empty:=ByteArray.ext (Array.eq_empty_of_size_eq_zero h1);rw [hn,h.size.2]
theorem qF.done {r:RT} {Y:List RT} (h:qF F n [o] [r::Y]):∃c ks,F.kids o=c::ks/\c<n/\kC F sW c=flat r:=by
 obtain ⟨_,h2⟩:=h.size;have ho:=h.on;cases hk:F.kids o with
 | nil=>rw [hk] at h2;cases h2
 | cons c ks =>
  rw [hk,dV] at h2;injection h2 with h2 h3;have fG:=(h.kid o ho c (by rw [hk];simp)).2;exact ⟨c,ks,rfl,fG,by rw [S8 h.wf fG (MQ h.wf h.one h.nd (fun i _=>Qk i) fG),h2]⟩
theorem qF.len (h:qF F n (o::os) (Z::st)):(o::os).length=st.length+1:=by rw [h.zip.len];rfl
end
end
end Go.Proofs.YthgabkgmkolobaaGreat
namespace Go.Proofs
open Go.Shelf
def Tryz.bldG_ren:Go.Shelf.Ren:=⟨fun | 169=>94 | n=>n,fun | 70=>115 | 9=>9 | 0=>0 | 72=>117 | 37=>77 | 127=>164 | 3=>3 | 5=>5 | n=>n,fun | n=>n⟩
theorem Tryz.bldG:Go.Proofs.Lays.n169 Tryz.prog Tryz.bldG_ren:={
 mixed:=by kernel_rfl
 f169:=Tryz.func94.trans (congrArg some (by kernel_rfl))
 t0:=Tryz.underlying0
 a0:=Tryz.isAgg0
 z0:=Tryz.sizeOf0
 v0:=Tryz.zeroValue0
 t3:=Tryz.underlying3
 a3:=Tryz.isAgg3
 z3:=Tryz.sizeOf3
 v3:=Tryz.zeroValue3
 t9:=Tryz.underlying9
 a9:=Tryz.isAgg9
 z9:=Tryz.sizeOf9
 v9:=Tryz.zeroValue9
 t37:=Tryz.underlying77
 a37:=Tryz.isAgg77
 z37:=Tryz.sizeOf77
 v37:=Tryz.zeroValue77
 t70:=Tryz.underlying115
 a70:=Tryz.isAgg115
 z70:=Tryz.sizeOf115
 v70:=Tryz.zeroValue115
 t72:=Tryz.underlying117
 a72:=Tryz.isAgg117
 z72:=Tryz.sizeOf117
 v72:=Tryz.zeroValue117
 t127:=Tryz.underlying164
 a127:=Tryz.isAgg164
 z127:=Tryz.sizeOf164
 v127:=Tryz.zeroValue164 }
end Go.Proofs
namespace Go.Proofs.YthgabkgmkolobaaGreat
open Go.RowKit Go.Deep
theorem Qn:(Tryz.prog.info? 117).map (·.size)=some 2:=by kernel_rfl
theorem abu:liesAt Tryz.prog Tryz.prog.depth 117 (2 / Tryz.prog.cellsOf 117) 0 117 1=true:=by kernel_rfl
theorem Qo:(Tryz.prog.info? 5).map (fun i=>(i.zero,i.size,i.bytes))=some (some (.int .u8 0),1,1):=by kernel_rfl
theorem Yt:(117:TypeId)≠5:=by decide
theorem aeA (b:Nat) (w:World) (h0:w.cell? ⟨b,0,none⟩=some (.pointer (some ⟨b,0,none⟩))) :
  Calls Tryz.prog 140 #[.pointer (some ⟨b,0,none⟩)] w fun e w'=>e=.returned (.tuple #[])/\w'=w:=by
 obtain ⟨j,hj,_⟩:=jR.1 Qn;go_in;go_wp2_with fail;rw [Lib.run_neq_ptr_same w _ Tryz.underlying115 hj];go_wp2_with fail
 go_end0
 exact ⟨rfl,rfl⟩
theorem abv (b:Nat) (w:World) (h0:w.cell? ⟨b,0,none⟩=some (.pointer none)) (hsh:w.shape? b=some (117,2)) (hfz:w.frozen? ⟨b,0,none⟩=false) :
  Calls Tryz.prog 140 #[.pointer (some ⟨b,0,none⟩)] w fun e w'=>e=.returned (.tuple #[])/\w'=w.setCell ⟨b,0,none⟩ (.pointer (some ⟨b,0,none⟩)):=by
 obtain ⟨j,hj,hjs⟩:=jR.1 Qn;go_in;go_wp2_with fail;rw [Lib.run_to_unsafe w ⟨b,0,none⟩ Tryz.underlying115 Tryz.underlying205 hj (by rw [hjs];decide) hsh (Nat.zero_lt_succ 1)];simp only [Result.andThen];rw [Oper.upon_value];go_wp2_with fail;rw [run_callFunc_extern Tryz.func198 (by kernel_rfl) (by kernel_rfl) (by kernel_rfl) (e:=Extern.AbiNoEscape.same) (by kernel_rfl)];rw [Lib.run_noEscape];simp only [Result.andThen];rw [Oper.upon_value];go_wp2_with fail;rw [Lib.run_from_unsafe w ⟨b,0,none⟩ Tryz.underlying205 Tryz.underlying115 hj hsh abu];simp only [Result.andThen];rw [Oper.upon_value];go_wp2_with fail
 go_end0
 exact ⟨rfl,rfl⟩
theorem agv (B b:Nat) (bs:List Value) (w:World) (h:Lib.IsBuilderF 117 5 B b bs w) :
  Calls Tryz.prog 140 #[.pointer (some ⟨b,0,none⟩)] w fun e w'=>e=.returned (.tuple #[])/\(Lib.BuilderAtF 117 5 B b (.pointer (some ⟨b,0,none⟩)) bs w'/\Below B w w'/\Lib.OthersKept 5 (some b) w w'):=by
 rcases h with h | h
 ·refine (abv b w h.cell0 h.shape h.frozen0).mono ?_
  rintro e w' ⟨rfl,rfl⟩;exact ⟨rfl,h.used _,(cM B w).setCell (p:=⟨b,0,none⟩) h.1 _,(Lib.OthersKept.refl _ _ w).setCell ⟨b,0,none⟩ rfl _⟩
 ·refine (aeA b w h.cell0).mono ?_
  rintro e w' ⟨rfl,rfl⟩;exact ⟨rfl,h,cM B _,Lib.OthersKept.refl _ _ _⟩
theorem La (B b:Nat) (bs:List Value) (c:Int) (w:World) (h:Lib.IsBuilderF 117 5 B b bs w) (hlen:bs.length+1<=140737488355328) (hBw:B<=w.heap.size) :
  Calls Tryz.prog 92 #[.pointer (some ⟨b,0,none⟩),.int .u8 c] w fun e w'=>e=.returned .nilIface/\(Lib.BuilderAtF 117 5 B b (.pointer (some ⟨b,0,none⟩)) (bs++[.int .u8 c]) w'/\Below B w w'/\Lib.OthersKept 5 (some b) w w'):=by
 obtain ⟨i0,hi,hzz⟩:=jR.1 Qo;simp only [kX] at hzz;obtain ⟨hz0,hz1,hz2⟩:=hzz;have Xw:=aa (agv B b bs w h);clear h;go_in;go_wp2_with fail;refine Xw.out.mono ?_;rintro e w1 ⟨rfl,h1,hb1,hk1⟩;obtain ⟨hB,v,hbk,hown,hne⟩:=h1;have c0:w1.cell? ⟨b,0,none⟩=some (.pointer (some ⟨b,0,none⟩)):=by rw [zX hbk];rfl
 have c1:w1.cell? ⟨b,1,none⟩=some v:=by rw [zX hbk];rfl
 go_wp2_with (at_builtin;refine wpList_append_ownF _ rfl _ _ 77 rfl B 5 i0 (.int .u8 0) 1 1 Tryz.underlying77 hi hz0 hz1 hz2 rfl (by decide) _ _ _ rfl (hown.alloc _) ⟨w1.heap.size,0,none⟩ 1 1 [.int .u8 c] rfl rfl ?c1 ?c2 ?c3 ?c4 ?c5 ?_)
 case c1 =>
  intro j u hj
  match j,hj with
  | 0,hj=>simp at hj;subst hj;simp [Addr.add]
 case c2=>intro u hu;simp at hu;subst hu;rfl
 case c3=>unfold maxLen;omega
 case c4=>omega
 case c5=>have:=hb1.size;simp;omega
 intro v' w2 hown' hgrow _;have hlt:b<w1.heap.size:=by
  rcases Nat.lt_or_ge b w1.heap.size with h' | h'
  ·exact h'
  ·simp [Array.getElem?_eq_none h'] at hbk
 have hb2:w2.heap[b]? = some (.cells #[.pointer (some ⟨b,0,none⟩),v] 117 (0,0)):=by rw [hgrow.block b (by simp;omega) (fun e=>hne e.symm),Lib.alloc_old w1 _ b hlt];exact hbk
 have d0:w2.cell? ⟨b,0,none⟩=some (.pointer (some ⟨b,0,none⟩)):=by rw [zX hb2];rfl
 have d1:w2.cell? ⟨b,1,none⟩=some v:=by rw [zX hb2];rfl
 have f1:w2.frozen? ⟨b,1,none⟩=false:=Lib.frozen_of_heap hb2 1;obtain ⟨g,cap,rfl⟩:∃g cap,v'=.slice (some ⟨g,0,none⟩) (bs.length+1) cap:=by
  rcases hown'.2 with ⟨_,h0⟩ | ⟨g,cap,cur,fz,hv,_⟩
  ·omega
  ·exact ⟨g,cap,hv⟩
 go_wp2;go_ret;refine ⟨rfl,?_,?_,((hk1.alloc _).grown hgrow (Lib.ownsRowF_kind (hown.alloc _))).setCell ⟨b,1,none⟩ rfl _⟩
 ·exact Lib.BuilderAtF.put (T:=117) (e:=5) hB hb2 (bs':=bs++[.int .u8 c]) (by simpa using hown') Yt
 ·exact ((hb1.alloc (by have:=hb1.size;omega) _).grown hgrow (by have:=hb1.size;simp;omega) (fun k hk=>(hown.lt k hk).1)).setCell (p:=⟨b,1,none⟩) hB _
theorem agw (B b:Nat) (bs:List Value) (s:ByteArray) (w:World) (h:Lib.IsBuilderF 117 5 B b bs w) (hlen:bs.length+s.size<=140737488355328) (hBw:B<=w.heap.size) :
  Calls Tryz.prog 91 #[.pointer (some ⟨b,0,none⟩),.string s] w fun e w'=>e=.returned (.tuple #[.int .i64 s.size,.nilIface])/\(Lib.BuilderAtF 117 5 B b (.pointer (some ⟨b,0,none⟩)) (bs++Lib.strCells s) w'/\Below B w w'/\Lib.OthersKept 5 (some b) w w'):=by
 obtain ⟨i0,hi,hzz⟩:=jR.1 Qo;simp only [kX] at hzz;obtain ⟨hz0,hz1,hz2⟩:=hzz;have Xw:=aa (agv B b bs w h);clear h;go_in;go_wp2_with fail;refine Xw.out.mono ?_;rintro e w1 ⟨rfl,h1,hb1,hk1⟩;obtain ⟨hB,v,hbk,hown,hne⟩:=h1;have c0:w1.cell? ⟨b,0,none⟩=some (.pointer (some ⟨b,0,none⟩)):=by rw [zX hbk];rfl
 have c1:w1.cell? ⟨b,1,none⟩=some v:=by rw [zX hbk];rfl
 go_wp2_with (at_builtin;refine Lib.wpList_append_own_stringF _ rfl _ _ 77 9 rfl B 5 i0 Tryz.underlying77 Tryz.underlying9 hi hz0 hz1 hz2 _ _ _ rfl hown s rfl ?c3 ?c4 ?c5 ?_)
 case c3=>unfold maxLen;omega
 case c4=>omega
 case c5=>have:=hb1.size;omega
 intro v' w2 hown' hgrow _;have hlt:b<w1.heap.size:=by
  rcases Nat.lt_or_ge b w1.heap.size with h' | h'
  ·exact h'
  ·simp [Array.getElem?_eq_none h'] at hbk
 have hb2:w2.heap[b]? = some (.cells #[.pointer (some ⟨b,0,none⟩),v] 117 (0,0)):=by rw [hgrow.block b hlt (fun e=>hne e.symm)];exact hbk
 have d0:w2.cell? ⟨b,0,none⟩=some (.pointer (some ⟨b,0,none⟩)):=by rw [zX hb2];rfl
 have d1:w2.cell? ⟨b,1,none⟩=some v:=by rw [zX hb2];rfl
 have f1:w2.frozen? ⟨b,1,none⟩=false:=Lib.frozen_of_heap hb2 1;obtain ⟨ao,n',cap,rfl⟩:∃ao n' cap,v'=.slice ao n' cap:=by
  rcases hown'.2 with ⟨hv,_⟩ | ⟨g,cap,cur,fz,hv,_⟩
  ·exact ⟨_,_,_,hv⟩
  ·exact ⟨_,_,_,hv⟩
 go_wp2;go_ret2;refine ⟨rfl,?_,?_,(hk1.grown hgrow (Lib.ownsRowF_kind hown)).setCell ⟨b,1,none⟩ rfl _⟩
 ·exact Lib.BuilderAtF.put (T:=117) (e:=5) hB hb2 (bs':=bs++Lib.strCells s) (by simpa [Lib.strCells_length] using hown') Yt
 ·exact (hb1.grown hgrow (by have:=hb1.size;omega) (fun k hk=>(hown.lt k hk).1)).setCell (p:=⟨b,1,none⟩) hB _
theorem agx (B b:Nat) (l:List UInt8) (w:World) (h:Lib.IsBuilderF 117 5 B b (Lib.byteCells l) w) (hBw:B<=w.heap.size) :
  Calls Tryz.prog 94 #[.pointer (some ⟨b,0,none⟩)] w fun e w'=>e=.returned (.string ⟨l.toArray⟩)/\(Lib.IsBuilderF 117 5 B b (Lib.byteCells l) w'/\Below B w w'/\Lib.OthersKept 5 (some b) w w') :=
 Any.Builder_String_any_k Tryz.bldG ⟨⟨by kernel_rfl,by kernel_rfl⟩,Tryz.underlying5,Tryz.isAgg5,Tryz.sizeOf5,Tryz.zeroValue5,by kernel_rfl,by kernel_rfl,by kernel_rfl,by decide⟩ B b l w h hBw
end Go.Proofs.YthgabkgmkolobaaGreat
