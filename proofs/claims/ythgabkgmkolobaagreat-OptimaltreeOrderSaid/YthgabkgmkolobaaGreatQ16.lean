/- Rose trees: the tree of a forest below a node is the rose tree, numbered depth first. .. -/
import Derived.Test.YthgabkgmkolobaaGreatQ15
set_option maxRecDepth 100000
namespace Go.Proofs.YthgabkgmkolobaaGreat
section
inductive RT where
 | node (nm:ByteArray) (kids:List RT)
namespace RT
def nm:RT->ByteArray | .node n _=>n
def kids:RT->List RT | .node _ k=>k
end RT
mutual
def aK:RT->Nat
 | .node _ ks=>1+aU ks
def aU:List RT->Nat
 | []=>0
 | r::rs=>aK r+aU rs
end
mutual
def iw:RT->Nat->Int->List Int
 | .node _ ks,n,p=>p::eo ks n (n+1)
def eo:List RT->Nat->Nat->List Int
 | [],_,_=>[]
 | r::rs,own,n=>iw r n (own:Int)++eo rs own (n+aK r)
end
mutual
def dr:RT->List ByteArray
 | .node nm ks=>nm::dL ks
def dL:List RT->List ByteArray
 | []=>[]
 | r::rs=>dr r++dL rs
end
def flat (r:RT):aF:=⟨iw r 0 (-1),dr r⟩
mutual
theorem mC:∀(r:RT) (n:Nat) (p:Int),(iw r n p).length=aK r
 | .node _ ks,n,p=>by simp only [iw,aK,aO];rw [pV ks n (n+1)];omega
theorem pV:∀(rs:List RT) (own n:Nat),(eo rs own n).length=aU rs
 | [],_,_=>rfl
 | r::rs,own,n=>by simp only [eo,aU,bg];rw [mC r n own,pV rs own (n+aK r)]
end
mutual
theorem zK:∀(r:RT),(dr r).length=aK r
 | .node _ ks=>by simp only [dr,aK,aO];rw [A4 ks];omega
theorem A4:∀(rs:List RT),(dL rs).length=aU rs
 | []=>rfl
 | r::rs=>by simp only [dL,aU,bg];rw [zK r,A4 rs]
end
def qY (F:aX):Nat->Nat->RT
 | 0,i=>.node (F.nm i) []
 | d+1,i=>.node (F.nm i) ((F.kids i).map (qY F d))
def aV (F:aX) (rk:Nat->Nat) (i:Nat):RT:=qY F (rk i) i
section
variable {F:aX} {n:Nat} {rk:Nat->Nat}
theorem Eh (h:Wf F n rk):∀ {d e i:Nat},i<n->rk i<=d->rk i<=e->qY F d i=qY F e i:=by
 intro d
 induction d with
 | zero =>
  intro e i hi hd he;have hk:F.kids i=[]:=by
   cases hk:F.kids i with
   | nil=>rfl
   | cons k l=>have:=(h.kid i hi k (by rw [hk];simp)).2;omega
  cases e with
  | zero=>rfl
  | succ e=>simp [qY,hk]
 | succ d ih =>
  intro e i hi hd he;cases e with
  | zero =>
   have hk:F.kids i=[]:=by
    cases hk:F.kids i with
    | nil=>rfl
    | cons k l=>have:=(h.kid i hi k (by rw [hk];simp)).2;omega
   simp [qY,hk]
  | succ e =>
   simp only [qY];congr 1;refine jR fun k hk=>?_;have:=h.kid i hi k hk;exact ih this.1 (by omega) (by omega)
theorem dY (h:Wf F n rk) {i:Nat} (hi:i<n):aV F rk i=.node (F.nm i) ((F.kids i).map (aV F rk)):=by
 have h1:aV F rk i=qY F (rk i+1) i:=Eh h hi (ah _) (kI _);rw [h1];simp only [qY];congr 1;refine jR fun k hk=>?_;have:=h.kid i hi k hk;exact Eh h this.1 (by omega) (ah _)
theorem dZ {l:List (Option Nat×Int)} {k j:Option Nat} (v:Int) (h:j≠k):(lX l k v).lookup j=l.lookup j:=by
 have hne:(j==k)=false:=by simpa using h
 unfold lX;split
 ·induction l with
  | nil=>simp [List.lookup,hne]
  | cons x l ih =>
   rename_i hl;obtain ⟨x1,x2⟩:=x;rw [bz,dV,dV];cases hx:(j==x1)
   ·refine ih ?_
    rw [dV] at hl;cases hx2:(k==x1)
    ·rw [hx2] at hl;exact hl
    ·rw [hx2] at hl;cases hl
   ·rfl
 ·have key:∀q:List (Option Nat×Int),List.lookup j (q.map (fun x=>if x.1=k then (k,v) else x))=List.lookup j q:=by
   intro q
   induction q with
   | nil=>rfl
   | cons x l ih =>
    obtain ⟨x1,x2⟩:=x
    rw [bI,dV]
    by_cases e:x1=k
    ·subst e
     simp only [if_true]
     rw [dV,hne];exact ih
    ·rw [if_neg e,dV]
     cases (j==x1)
     ·exact ih
     ·rfl
  exact key l
theorem um {l:List (Option Nat×Int)} {k:Option Nat} (v:Int) (h:l.lookup k=none):(lX l k v).lookup k=some v:=by
 unfold lX;rw [h];simp only [Option.isNone_none,if_true]
 induction l with
 | nil=>simp
 | cons x l ih =>
  obtain ⟨x1,x2⟩:=x;rw [dV] at h;rw [bz,dV];cases hx:(k==x1)
  ·rw [hx] at h;exact ih h
  ·rw [hx] at h;cases h
structure Fv (s s':xN) (ps:List Int) (ns:List ByteArray) (nd:List Nat):Prop where
 ps:s'.ps=s.ps++ps
 ns:s'.ns=s.ns++ns
 old:∀k:Option Nat,(∀j∈nd,k≠some j)->s'.mp.lookup k=s.mp.lookup k
theorem T8 (h:uj F n rk) {R:Nat} (hR:∀i,i<n->rk i<=R):∀ {d i:Nat} (p:Option Nat) (np:Int) (s:xN),i<n->rk i<=d->p≠some i->s.mp.lookup p=some np->(∀j∈b5 F rk i,s.mp.lookup (some j)=none) ->
  Fv s ((eD F rk i p).foldl (oI F) s) (iw (aV F rk i) s.ps.length np) (dr (aV F rk i)) (b5 F rk i):=by
 intro d
 induction d with
 | zero =>
  intro i p np s hi hd hp hl hn;have hk:F.kids i=[]:=by
   cases hk:F.kids i with
   | nil=>rfl
   | cons k l=>have:=(h.wf.kid i hi k (by rw [hk];simp)).2;omega
  rw [gW h.wf hi,dY h.wf hi,cD h.wf hi,hk];have hni:=hn i (by rw [cD h.wf hi];simp);refine ⟨?_,?_,fun k hk2=>dZ _ (hk2 i (by simp))⟩
  ·show s.ps++[((lX s.mp (some i) _).lookup p).getD 0]=_
   rw [dZ _ hp,hl];rfl
  ·rfl
 | succ d ih =>
  intro i p np s hi hd hp hl hn;rw [gW h.wf hi,dY h.wf hi,cD h.wf hi];have hni:=hn i (by rw [cD h.wf hi];simp);have gV:=j9 h hR hi (ah (rk i));rw [cD h.wf hi,gz] at gV;have key:∀(l:List Nat),(∀k∈l,k∈F.kids i)->(l.flatMap fun k=>b5 F rk k).Nodup->(∀k∈l,i∉b5 F rk k)->∀(s2:xN) (own:Nat),s2.mp.lookup (some i)=some (own:Int)->(∀k∈l,∀j∈b5 F rk k,s2.mp.lookup (some j)=none) ->
    Fv s2 ((l.flatMap fun k=>eD F rk k (some i)).foldl (oI F) s2) (eo (l.map (aV F rk)) own s2.ps.length) (dL (l.map (aV F rk))) (l.flatMap fun k=>b5 F rk k):=by
   intro l
   induction l with
   | nil=>intro _ _ _ s2 own _ _;exact ⟨by simp [eo],by simp [dL],fun _ _=>rfl⟩
   | cons c l ihl =>
    intro hin hdl hil s2 own ho hno
    have hcc:=h.wf.kid i hi c (hin c (by simp))
    rw [fZ,List.foldl_append,fZ]
    rw [fZ,gy] at hdl
    have h1:=ih (some i) (own:Int) s2 hcc.1 (by omega) (fun e=>by
     injection e with e
     have:=hcc.2;rw [e] at this;omega) ho (hno c (by simp))
    have h2:=ihl (fun k hk=>hin k (by simp [hk])) hdl.2.1 (fun k hk=>hil k (by simp [hk])) ((eD F rk c (some i)).foldl (oI F) s2) own
     ((h1.old (some i) (fun j hj e=>by injection e with e;subst e;exact hil c (by simp) hj)).trans ho)
     (fun k hk j hj=>(h1.old (some j) (fun j2 hj2 e=>by
      injection e with e;subst e
      exact hdl.2.2 j hj2 j (gh.2 ⟨k,hk,hj⟩) rfl)).trans (hno k (by simp [hk]) j hj))
    refine ⟨?_,?_,fun k hk=>?_⟩
    ·rw [h2.ps,h1.ps,bI,eo,bZ,bg,mC]
    ·rw [h2.ns,h1.ns,bI,dL,bZ]
    ·rw [h2.old k (fun j hj=>hk j (by simp [hj])),h1.old k (fun j hj=>hk j (by simp [hj]))]
  have hin:∀k∈F.kids i,i∉b5 F rk k:=fun k hk hm=>gV.1 (gh.2 ⟨k,hk,hm⟩)
  have h3:=key (F.kids i) (fun k hk=>hk) gV.2 hin (oI F s (i,p)) s.ps.length (um _ hni) (fun k hk j hj=>by
   show (lX s.mp (some i) _).lookup (some j)=none;rw [dZ _ (fun e=>by injection e with e;subst e;exact hin k hk hj)]
   exact hn j (by rw [cD h.wf hi];exact tY _ (gh.2 ⟨k,hk,hj⟩)))
  have hps:(oI F s (i,p)).ps=s.ps++[np]:=by show s.ps++[((lX s.mp (some i) _).lookup p).getD 0]=_;rw [dZ _ hp,hl];rfl
  rw [List.foldl_cons];refine ⟨?_,?_,fun k hk=>?_⟩
  ·rw [h3.ps,hps,iw,bZ,bg];rfl
  ·rw [h3.ns]
   show (s.ns++[F.nm i])++_=_;rw [dr,bZ];rfl
  ·rw [h3.old k (fun j hj=>hk j (by simp [hj]))]
   exact dZ _ (hk i (by simp))
theorem LO (h:uj F n rk) {R:Nat} (hR:∀i,i<n->rk i<=R) {i:Nat} (hi:i<n):gG F rk i=flat (aV F rk i):=by
 have h1:=T8 h hR (d:=rk i) none (-1) C6 hi (ah _) (fun e=>by cases e) rfl (fun j _=>rfl);unfold gG flat cZ;rw [h1.ps,h1.ns];rfl
end
end
section
def aQ:RT->ByteArray
 | .node nm []=>nm
 | .node _ (k::_)=>aQ k
def ep (a:RT):List RT->List RT
 | []=>[a]
 | b::l=>if cG (aQ a) (aQ b)<=0 then a::b::l else b::ep a l
mutual
def aY:RT->RT
 | .node nm ks=>.node nm (cR ks)
def cR:List RT->List RT
 | []=>[]
 | r::rs=>ep (aY r) (cR rs)
end
theorem Gp {f:Nat->ByteArray} {g:Nat->RT} {a:Nat} (ha:aQ (g a)=f a):∀l:List Nat,(∀k∈l,aQ (g k)=f k)->ep (g a) (l.map g)=(yG f a l).map g
 | [],_=>rfl
 | b::l,h=>by
  have hb:=h b (by simp)
  rw [bI,ep,yG,ha,hb]
  unfold nP
  by_cases e:cG (f a) (f b)<=0
  ·rw [if_pos e,if_pos (by simpa using e)];rfl
  ·rw [if_neg e,if_neg (by simpa using e),Gp ha l (fun k hk=>h k (by simp [hk]))];rfl
theorem A5 {f:Nat->ByteArray} {l:List Nat} {k:Nat}:k∈uU f l↔k∈l:=by rw [<- A3];exact (eH f l).mem_iff
theorem B7 {f:Nat->ByteArray} {h:Nat->RT}:∀l:List Nat,(∀k∈l,aQ (aY (h k))=f k)->cR (l.map h)=(uU f l).map fun k=>aY (h k)
 | [],_=>rfl
 | a::l,hf=>by
  rw [bI,cR,uU,B7 l (fun k hk=>hf k (by simp [hk]))]
  exact Gp (g:=fun k=>aY (h k)) (hf a (by simp)) (uU f l) (fun k hk=>hf k (by simp [A5.1 hk]))
section
variable {F:aX} {n:Nat} {rk:Nat->Nat}
theorem Wf.jh (h:Wf F n rk) (p:Nat->Bool):Wf (F.jh rk p) n rk:=⟨fun i hi k hk=>h.kid i hi k ((F.iQ rk p i).mem_iff.1 hk)⟩
theorem QJ (h:Wf F n rk) (p:Nat->Bool):∀ {d i:Nat},i<n->rk i<=d->(∀j,b8 F rk i j=true->p j=true)->aV (F.jh rk p) rk i=aY (aV F rk i)/\aQ (aY (aV F rk i))=gq F rk i:=by
 intro d;have SR:∀i,p i=true->(F.jh rk p).kids i=cW (gq F rk) (F.kids i):=fun i hp=>by show (if p i then _ else _:List Nat)=_;rw [if_pos hp]
 induction d with
 | zero =>
  intro i hi hd hp;have hk:F.kids i=[]:=by
   cases hk:F.kids i with
   | nil=>rfl
   | cons k l=>have:=(h.kid i hi k (by rw [hk];simp)).2;omega
  have hk2:(F.jh rk p).kids i=[]:=by rw [SR i (hp i (jt h hi)),hk];simp [cW]
  rw [dY (h.jh p) hi,dY h hi,sL h hi,hk,hk2];refine ⟨rfl,?_⟩;simp [cW,aY,cR,aQ]
 | succ d ih =>
  intro i hi hd hp;have hk2:=SR i (hp i (jt h hi));have key:∀k∈F.kids i,aV (F.jh rk p) rk k=aY (aV F rk k)/\aQ (aY (aV F rk k))=gq F rk k:=fun k hk=>by have hkk:=h.kid i hi k hk;exact ih hkk.1 (by omega) (fun j hj=>hp j (nI h hi hk hj))
  have hs:cR ((F.kids i).map (aV F rk))=(uU (gq F rk) (F.kids i)).map fun k=>aY (aV F rk k):=B7 _ (fun k hk=>(key k hk).2);rw [dY (h.jh p) hi,dY h hi,sL h hi,hk2,A3,aY,hs];refine ⟨?_,?_⟩
  ·show RT.node (F.nm i) _=_
   congr 1;exact jR fun k hk=>(key k (A5.1 hk)).1
  ·cases hc:uU (gq F rk) (F.kids i) with
   | nil=>rfl
   | cons k l =>
    rw [bI,aQ];exact (key k (A5.1 (by rw [hc];simp))).2
end
def iy (t:aF):RT:=aV (fU t) (dx t) 0
theorem yH {t:aF} (h:aB t=0):qX t=flat (aY (iy t)):=by
 obtain ⟨hp,_⟩:=aM h;unfold qX;rw [LO (Gl h) (R:=t.ps.length) (fun i _=>vH t i) hp];congr 1;exact (QJ (eM h).wf _ hp (ah _) (fun j hj=>by simpa using hj)).1
def kf (own:Nat):List Int->Nat->List Nat
 | [],_=>[]
 | p::ps,b=>if p=(own:Int) then b::kf own ps (b+1) else kf own ps (b+1)
theorem sW (own:Nat):∀(a c:List Int) (b:Nat),kf own (a++c) b=kf own a b++kf own c (b+a.length)
 | [],c,b=>rfl
 | x::a,c,b=>by
  rw [bz,kf,kf,sW own a c (b+1),aO,show b+1+a.length=b+(a.length+1) by omega]
  split<;>rfl
theorem r5 (own:Nat):∀(a:List Int) (b:Nat),(∀x∈a,x≠(own:Int))->kf own a b=[]
 | [],_,_=>rfl
 | x::a,b,h=>by rw [kf,if_neg (h x (by simp)),r5 own a (b+1) (fun y hy=>h y (by simp [hy]))]
theorem Gq {ps:List Int} {n:Nat} (h:∀i,i<ps.length->gi ps i=n->n<i):b7 ps n=kf n ps 0:=by
 have key:∀k,k<=ps.length->cV ps n k=kf n (ps.take k) 0:=by
  intro k
  induction k with
  | zero=>intro _;rfl
  | succ k ih =>
   intro hk;rw [kK,ih (by omega),jo (show k<ps.length by omega),sW,dD,Nat.min_eq_left (by omega)];(have hg:gi ps k=ps[k]:=by simp [gi,show k<ps.length by omega]);congr 1;by_cases e:gi ps k=n
   ·rw [if_pos ⟨h k (by omega) e,e⟩,kf,if_pos (by rw [<- hg];exact e)]
    simp [kf]
   ·rw [if_neg (fun q=>e q.2),kf,if_neg (by rw [<- hg];exact e)];rfl
 unfold b7;rw [key _ (ah _),eT]
mutual
theorem Gr:∀(r:RT) (n:Nat) (p x:Int),x∈iw r n p->x=p\/((n:Int)<=x/\x<((n+aK r:Nat):Int))
 | .node _ ks,n,p,x,h=>by
  rw [iw,bX] at h
  rcases h with h | h
  ·exact .inl h
  ·right
   rw [aK]
   rcases vI ks n (n+1) x h with h1 | ⟨h1,h2⟩
   ·subst h1;exact ⟨by omega,by omega⟩
   ·exact ⟨by omega,by omega⟩
theorem vI:∀(rs:List RT) (own n:Nat) (x:Int),x∈eo rs own n->x=(own:Int)\/((n:Int)<=x/\x<((n+aU rs:Nat):Int))
 | [],_,_,_,h=>by simp [eo] at h
 | r::rs,own,n,x,h=>by
  rw [eo,cu] at h
  rw [aU]
  rcases h with h | h
  ·rcases Gr r n own x h with h1 | ⟨h1,h2⟩
   ·exact .inl h1
   ·exact .inr ⟨h1,by omega⟩
  ·rcases vI rs own (n+aK r) x h with h1 | ⟨h1,h2⟩
   ·exact .inl h1
   ·exact .inr ⟨by omega,by omega⟩
end
def yI:List RT->Nat->List Nat
 | [],_=>[]
 | r::rs,n=>n::yI rs (n+aK r)
theorem C9 (own:Nat):∀(rs:List RT) (n:Nat),own<n->kf own (eo rs own n) n=yI rs n
 | [],_,_=>rfl
 | .node nm ks::rs,n,h=>by
  rw [eo,yI,sW,mC,C9 own rs _ (by omega),iw,kf,if_pos rfl]
  rw [r5 own _ _ (fun x hx e=>by
   rcases vI ks n (n+1) x hx with h1 | ⟨h1,_⟩<;>omega)]
  rfl
theorem lZ (r:RT):0<aK r:=by cases r;rw [aK];omega
theorem A6 (a b:List Int) (k:Nat):gi (a++b) (a.length+k)=gi b k:=by simp [gi,List.getElem?_append_right]
theorem QK (a b:List ByteArray) (k:Nat):gs (a++b) (a.length+k)=gs b k:=by simp [gs,List.getElem?_append_right]
theorem A7 {a:List Int} (b:List Int) {k:Nat} (h:k<a.length):gi (a++b) k=gi a k:=by simp [gi,List.getElem?_append_left h]
theorem T9:∀(d:Nat) (r:RT) (n:Nat) (p:Int) (t:aF) (pre post:List Int) (Kk Da:List ByteArray),aK r<=d->t.ps=pre++(iw r n p++post)->t.ns=Kk++(dr r++Da)->pre.length=n->Kk.length=n->p<n->(∀x∈pre,x<(n:Int))->(∀x∈post,x<(n:Int)\/((n+aK r:Nat):Int)<=x)->qY (fU t) d n=r:=by
 intro d
 induction d with
 | zero=>intro r n p t pre post Kk Da hd;have:=lZ r;omega
 | succ d ih =>
  intro r n p t pre post Kk Da hd hps M3 hpl hnl hp hpre hpost;obtain ⟨nm,ks⟩:=r;rw [aK] at hd hpost;rw [iw,bz] at hps;rw [dr,bz] at M3;have hk:(fU t).kids n=yI ks (n+1):=by
   rw [kM,Gq]
   ·rw [hps,sW,r5 n pre 0 (fun x hx e=>by have:=hpre x hx;omega),cw,kf,if_neg (by omega),sW,hpl,ij,C9 n ks (n+1) (by omega),pV]
    rw [r5 n post _ (fun x hx e=>by rcases hpost x hx with h1 | h1<;>omega),fM]
   ·intro i hi e
    rw [hps] at e;rcases vk i n with h1 | h1 | h1
    ·rw [A7 _ (by omega)] at e
     have:=hpre _ (yf (l:=pre) (k:=i) (by omega));omega
    ·subst h1
     have h2:=A6 pre (p::(eo ks i (i+1)++post)) 0;rw [hpl] at h2;have h2:gi (pre++p::(eo ks i (i+1)++post)) i=p:=h2;rw [h2] at e;have e:p=i:=e;omega
    ·exact h1
  have hnm:(fU t).nm n=nm:=by show gs t.ns n=nm;rw [M3,<- hnl];exact QK Kk (nm::(dL ks++Da)) 0
  rw [qY,hk,hnm];congr 1;have key:∀(rs:List RT) (m:Nat) (pr:List Int) (nr:List ByteArray),aU rs<=d->t.ps=pr++(eo rs n m++post)->t.ns=nr++(dL rs++Da)->pr.length=m->nr.length=m->n<m->(∀x∈pr,x<(m:Int))->(∀x∈post,x<(n:Int)\/((m+aU rs:Nat):Int)<=x)->(yI rs m).map (qY (fU t) d)=rs:=by
   intro rs
   induction rs with
   | nil=>intros;rfl
   | cons r rs ihr =>
    intro m pr nr hd2 QL QM QG Db hm mY V4;rw [aU] at hd2 V4;rw [eo,bZ] at QL;rw [dL,bZ] at QM;rw [yI,bI]
    have h1:=ih r m n t pr (eo rs n (m+aK r)++post) nr (dL rs++Da) (by omega) QL QM QG Db (by omega) mY (fun x hx=>by
     rcases cu.1 hx with hx | hx
     ·rcases vI rs n (m+aK r) x hx with h2 | ⟨h2,_⟩
      ·exact .inl (by omega)
      ·exact .inr h2
     ·rcases V4 x hx with h2 | h2
      ·exact .inl (by omega)
      ·exact .inr (by omega))
    have h2:=ihr (m+aK r) (pr++iw r m n) (nr++dr r) (by omega) (by rw [QL,bZ]) (by rw [QM,bZ])
     (by rw [bg,mC,QG]) (by rw [bg,zK,Db]) (by omega) (fun x hx=>by
      rcases cu.1 hx with hx | hx
      ·have:=mY x hx;omega
      ·rcases Gr r m n x hx with h3 | ⟨_,h3⟩<;>omega) (fun x hx=>by
      rcases V4 x hx with h3 | h3
      ·exact .inl h3
      ·exact .inr (by omega))
    rw [h1,h2]
  exact key ks (n+1) (pre++[p]) (Kk++[nm]) (by omega) (by rw [hps,bZ];rfl) (by rw [M3,bZ];rfl) (by simp [hpl]) (by simp [hnl]) (by omega) (fun x hx=>by
   rcases cu.1 hx with hx | hx
   ·have:=hpre x hx;omega
   ·have:x=p:=by simpa using hx
    omega) (fun x hx=>by
   rcases hpost x hx with h3 | h3
   ·exact .inl h3
   ·exact .inr (by omega))
theorem nT (r:RT):(flat r).ps.length=aK r:=mC r 0 (-1)
theorem r6 (r:RT):(flat r).ns.length=aK r:=zK r
theorem l5 (r:RT):iy (flat r)=r:=by
 unfold iy aV;have h:dx (flat r) 0=aK r:=by unfold dx;rw [nT,Nat.sub_zero]
 rw [h];exact T9 (aK r) r 0 (-1) (flat r) [] [] [] [] (ah _) (by simp [flat]) (by simp [flat]) rfl rfl (by omega) (fun x hx=>by simp at hx) (fun x hx=>by simp at hx)
end
section
mutual
def bW:RT->List RT
 | .node nm ks=>.node nm ks::dh ks
def dh:List RT->List RT
 | []=>[]
 | r::rs=>bW r++dh rs
end
mutual
theorem kO:∀r:RT,(bW r).length=aK r
 | .node _ ks=>by rw [bW,aK,aO,Ei ks];omega
theorem Ei:∀rs:List RT,(dh rs).length=aU rs
 | []=>rfl
 | r::rs=>by rw [dh,aU,bg,kO r,Ei rs]
end
mutual
theorem nU:∀r:RT,dr r=(bW r).map RT.nm
 | .node nm ks=>by rw [bW,dr,bI,Gs ks];rfl
theorem Gs:∀rs:List RT,dL rs=(dh rs).map RT.nm
 | []=>rfl
 | r::rs=>by rw [dh,dL,cm,nU r,Gs rs]
end
theorem oO (rs:List RT):dh rs=rs.flatMap bW:=by
 induction rs with
 | nil=>rfl
 | cons r rs ih=>rw [dh,fZ,ih]
def AtR (t:aF) (r:RT) (n:Nat) (p:Int):Prop:=∃pre post,t.ps=pre++(iw r n p++post)/\pre.length=n/\p<n/\(∀x∈pre,x<(n:Int))/\(∀x∈post,x<(n:Int)\/((n+aK r:Nat):Int)<=x)
def Gt (t:aF) (rs:List RT) (own m:Nat):Prop:=∃pre post,t.ps=pre++(eo rs own m++post)/\pre.length=m/\own<m/\(∀x∈pre,x<(m:Int))/\(∀x∈post,x<(own:Int)\/((m+aU rs:Nat):Int)<=x)
theorem AtR.kids {t:aF} {nm:ByteArray} {ks:List RT} {n:Nat} {p:Int} (h:AtR t (.node nm ks) n p):b7 t.ps n=yI ks (n+1)/\Gt t ks n (n+1):=by
 obtain ⟨pre,post,hps,hpl,hp,hpre,hpost⟩:=h;rw [aK] at hpost;rw [iw,bz] at hps;constructor
 ·rw [Gq]
  ·rw [hps,sW,r5 n pre 0 (fun x hx e=>by have:=hpre x hx;omega),cw,kf,if_neg (by omega),sW,hpl,ij,C9 n ks (n+1) (by omega),pV]
   rw [r5 n post _ (fun x hx e=>by rcases hpost x hx with h1 | h1<;>omega),fM]
  ·intro i hi e
   rw [hps] at e;rcases vk i n with h1 | h1 | h1
   ·rw [A7 _ (by omega)] at e
    have:=hpre _ (yf (l:=pre) (k:=i) (by omega));omega
   ·subst h1
    have h2:=A6 pre (p::(eo ks i (i+1)++post)) 0;rw [hpl] at h2;have h2:gi (pre++p::(eo ks i (i+1)++post)) i=p:=h2;rw [h2] at e;omega
   ·exact h1
 ·refine ⟨pre++[p],post,by rw [hps,bZ];rfl,by simp [hpl],by omega,fun x hx=>?_,fun x hx=>?_⟩
  ·rcases cu.1 hx with hx | hx
   ·have:=hpre x hx;omega
   ·have:x=p:=by simpa using hx
    omega
  ·rcases hpost x hx with h3 | h3
   ·exact .inl h3
   ·exact .inr (by omega)
theorem Gt.cons {t:aF} {r:RT} {rs:List RT} {own m:Nat} (h:Gt t (r::rs) own m):AtR t r m own/\Gt t rs own (m+aK r):=by
 obtain ⟨pre,post,hps,hpl,hm,hpre,hpost⟩:=h;rw [aU] at hpost;rw [eo,bZ] at hps;constructor
 ·refine ⟨pre,_,hps,hpl,by omega,hpre,fun x hx=>?_⟩
  rcases cu.1 hx with hx | hx
  ·rcases vI rs own (m+aK r) x hx with h2 | ⟨h2,_⟩
   ·exact .inl (by omega)
   ·exact .inr h2
  ·rcases hpost x hx with h2 | h2
   ·exact .inl (by omega)
   ·exact .inr (by omega)
 ·refine ⟨pre++iw r m own,post,by rw [hps,bZ],by rw [bg,mC,hpl],by omega,fun x hx=>?_,fun x hx=>?_⟩
  ·rcases cu.1 hx with hx | hx
   ·have:=hpre x hx;omega
   ·rcases Gr r m own x hx with h3 | ⟨_,h3⟩<;>omega
  ·rcases hpost x hx with h3 | h3
   ·exact .inl h3
   ·exact .inr (by omega)
mutual
theorem Kl {t:aF}:∀(r:RT) (n:Nat) (p:Int),AtR t r n p->∀(i:Nat) (s:RT),(bW r)[i]? = some s->b7 t.ps (n+i)=yI s.kids (n+i+1)
 | .node nm ks,n,p,h,i,s,hs=>by
  rw [bW] at hs
  cases i with
  | zero =>
   have e:RT.node nm ks=s:=by simpa using hs
   subst e
   exact h.kids.1
  | succ i =>
   rw [List.getElem?_cons_succ] at hs
   have:=Gu ks n (n+1) h.kids.2 i s hs
   rw [show n+(i+1)=n+1+i by omega];exact this
theorem Gu {t:aF}:∀(rs:List RT) (own m:Nat),Gt t rs own m->∀(i:Nat) (s:RT),(dh rs)[i]? = some s->b7 t.ps (m+i)=yI s.kids (m+i+1)
 | [],_,_,_,i,s,hs=>by simp [dh] at hs
 | r::rs,own,m,h,i,s,hs=>by
  rw [dh] at hs
  by_cases hi:i<aK r
  ·rw [wE (by rw [kO];exact hi)] at hs
   exact Kl r m own h.cons.1 i s hs
  ·rw [zx (by rw [kO];omega),kO] at hs
   have:=Gu rs own (m+aK r) h.cons.2 (i - aK r) s hs
   rw [show m+aK r+(i - aK r)=m+i by omega] at this;exact this
end
theorem AtR.flat (r:RT):AtR (flat r) r 0 (-1):=⟨[],[],by simp [YthgabkgmkolobaaGreat.flat],rfl,by omega,fun x hx=>by simp at hx,fun x hx=>by simp at hx⟩
theorem NM {r:RT} {i:Nat} {s:RT} (h:(bW r)[i]? = some s):b7 (flat r).ps i=yI s.kids (i+1):=by
 have:=Kl r 0 (-1) (AtR.flat r) i s h;simpa using this
mutual
theorem NN:∀(r:RT) (n:Nat) (p:Int) (j:Nat),0<j->j<aK r->(n:Int)<=gi (iw r n p) j/\gi (iw r n p) j<((n+j:Nat):Int)
 | .node nm ks,n,p,j,h0,hj=>by
  rw [aK] at hj
  obtain ⟨k,rfl⟩:∃k,j=k+1:=⟨j - 1,by omega⟩
  have h:=Km ks n (n+1) k (by omega) (by omega)
  have e:gi (iw (.node nm ks) n p) (k+1)=gi (eo ks n (n+1)) k:=by rw [iw];simp [gi]
  rw [e]
  exact ⟨h.1,by have:=h.2;omega⟩
theorem Km:∀(rs:List RT) (own n j:Nat),own<n->j<aU rs->(own:Int)<=gi (eo rs own n) j/\gi (eo rs own n) j<((n+j:Nat):Int)
 | [],_,_,_,_,h=>by simp [aU] at h
 | r::rs,own,n,j,ho,hj=>by
  rw [aU] at hj
  rw [eo]
  by_cases hr:j<aK r
  ·rw [A7 _ (by rw [mC];exact hr)]
   by_cases h0:j=0
   ·subst h0
    obtain ⟨nm,ks⟩:=r
    have e:gi (iw (.node nm ks) n own) 0=own:=by rw [iw];simp [gi]
    rw [e];exact ⟨by omega,by omega⟩
   ·have h:=NN r n own j (by omega) hr
    exact ⟨by omega,h.2⟩
  ·have h:=Km rs own (n+aK r) (j - aK r) (by omega) (by omega)
   have e:=A6 (iw r n own) (eo rs own (n+aK r)) (j - aK r)
   rw [mC,show aK r+(j - aK r)=j by omega] at e
   rw [e]
   exact ⟨h.1,by have:=h.2;omega⟩
end
theorem Gw (r:RT):jW (flat r).ps=true:=by
 refine AK fun j hj=>?_;rw [nT] at hj;show kC j (gi (iw r 0 (-1)) j)=true;unfold kC;by_cases h0:j=0
 ·subst h0
  obtain ⟨nm,ks⟩:=r;rw [if_pos rfl,iw];rfl
 ·rw [if_neg h0]
  have h:=NN r 0 (-1) j (by omega) hj;have h1:0<=gi (iw r 0 (-1)) j:=by have:=h.1;omega
  have h2:gi (iw r 0 (-1)) j<(j:Int):=by have:=h.2;omega
  simp [h1,h2]
def gH (r:RT):List ByteArray:=(dr r).filter fun s=>decide (s.size≠0)
structure kP (r:RT):Prop where
 Ej:∀s∈bW r,s.kids≠[]->s.nm.size=0
 lf:∀s∈bW r,s.kids=[]->bu s.nm.data.toList=true
 nd:(gH r).Nodup
theorem rP {s:ByteArray} (h:bu s.data.toList=true):s.size≠0:=by
 intro e;have:s.data.toList=[]:=by apply lu;simpa using e
 rw [this] at h
 revert h;decide
theorem yJ {r:RT} (h:kP r) (hs:aK r<=64):aB (flat r)=0:=by
 unfold aB;rw [nT,r6,if_neg (by have:=lZ r;omega),if_neg (by omega),if_neg (by simp),if_pos (Gw r)];refine ey fun i hi=>?_;have hi2:i<(bW r).length:=by rw [kO];exact hi
 obtain ⟨s,hsi⟩:∃s,(bW r)[i]? = some s:=⟨_,gP hi2⟩;have hmem:s∈bW r:=BI hsi;have hk:=NM hsi;have hnm:gs (flat r).ns i=s.nm:=by show gs (dr r) i=_;rw [nU];simp [gs,hsi]
 have hin:=lV (Gw r) i;unfold jC;rw [hnm];by_cases hks:s.kids=[]
 ·have h1:isIn (flat r).ps i=false:=by
   cases hb:isIn (flat r).ps i with
   | false=>rfl
   | true=>exact absurd (by rw [hk,hks];rfl) (hin.2 hb)
  rw [h1,if_neg (by simp),if_pos (h.lf s hmem hks)]
  have h2:dW (flat r).ns i=false:=by
   rw [oh];intro e
   obtain ⟨j,hj,e⟩:=eF.1 e
   have hj:j<i:=cU.1 hj
   have e:gs (dr r) j=gs (dr r) i:=of_decide_eq_true e
   have hpw:=List.pairwise_filter.1 h.nd
   have rA:=zK r
   have h3:=rK.1 hpw j i (by omega) (by omega) hj
   have hgj:gs (dr r) j=(dr r)[j]'(by omega):=by simp [gs,show j<(dr r).length by omega]
   have hgi:gs (dr r) i=(dr r)[i]'(by omega):=by simp [gs,show i<(dr r).length by omega]
   rw [<- hgj,<- hgi,e] at h3
   have h4:gs (dr r) i=s.nm:=hnm
   have h5:=rP (h.lf s hmem hks)
   rw [h4] at h3
   exact h3 (by simpa using h5) (by simpa using h5) rfl
  rw [h2];rfl
 ·have h1:isIn (flat r).ps i=true:=hin.1 (by
   rw [hk]
   cases hq:s.kids with
   | nil=>exact absurd hq hks
   | cons a l=>simp [yI])
  rw [h1,if_pos rfl,if_pos (h.Ej s hmem hks)]
end
end Go.Proofs.YthgabkgmkolobaaGreat
