/- Rose trees: the tree of a forest below a node is the rose tree, numbered depth first. .. -/
import Derived.Test.YtfomhlbhcifgbaaGreatDoorQ24
set_option maxRecDepth 100000
namespace Go.Proofs.YtfomhlbhcifgbaaGreatDoor
section
inductive RT where
 | node (nm:ByteArray) (kids:List RT)
namespace RT
def nm:RT->ByteArray | .node n _=>n
def kids:RT->List RT | .node _ k=>k
end RT
mutual
def aX:RT->Nat
 | .node _ ks=>1+cM ks
def cM:List RT->Nat
 | []=>0
 | r::rs=>aX r+cM rs
end
mutual
def jk:RT->Nat->Int->List Int
 | .node _ ks,n,p=>p::fu ks n (n+1)
def fu:List RT->Nat->Nat->List Int
 | [],_,_=>[]
 | r::rs,own,n=>jk r n (own:Int)++fu rs own (n+aX r)
end
mutual
def dH:RT->List ByteArray
 | .node nm ks=>nm::eH ks
def eH:List RT->List ByteArray
 | []=>[]
 | r::rs=>dH r++eH rs
end
def flat (r:RT):aA:=⟨jk r 0 (-1),dH r⟩
mutual
theorem lW:∀(r:RT) (n:Nat) (p:Int),(jk r n p).length=aX r
 | .node _ ks,n,p=>by simp only [jk,aX,bB];rw [vS ks n (n+1)];omega
theorem vS:∀(rs:List RT) (own n:Nat),(fu rs own n).length=cM rs
 | [],_,_=>rfl
 | r::rs,own,n=>by simp only [fu,cM,bG];rw [lW r n own,vS rs own (n+aX r)]
end
mutual
theorem y6:∀(r:RT),(dH r).length=aX r
 | .node _ ks=>by simp only [dH,aX,bB];rw [GY ks];omega
theorem GY:∀(rs:List RT),(eH rs).length=cM rs
 | []=>rfl
 | r::rs=>by simp only [eH,cM,bG];rw [y6 r,GY rs]
end
def qu (F:aW):Nat->Nat->RT
 | 0,i=>.node (F.nm i) []
 | d+1,i=>.node (F.nm i) ((F.kids i).map (qu F d))
def bh (F:aW) (rk:Nat->Nat) (i:Nat):RT:=qu F (rk i) i
section
variable {F:aW} {n:Nat} {rk:Nat->Nat}
theorem Eb (h:Wf F n rk):∀ {d e i:Nat},i<n->rk i<=d->rk i<=e->qu F d i=qu F e i:=by
 intro d
 induction d with
 | zero =>
  intro e i hi hd he;have hk:F.kids i=[]:=by
   cases hk:F.kids i with
   | nil=>rfl
   | cons k l=>have:=(h.kid i hi k (by rw [hk];simp)).2;omega
  cases e with
  | zero=>rfl
  | succ e=>simp [qu,hk]
 | succ d ih =>
  intro e i hi hd he;cases e with
  | zero =>
   have hk:F.kids i=[]:=by
    cases hk:F.kids i with
    | nil=>rfl
    | cons k l=>have:=(h.kid i hi k (by rw [hk];simp)).2;omega
   simp [qu,hk]
  | succ e =>
   simp only [qu];congr 1;refine iK fun k hk=>?_;have:=h.kid i hi k hk;exact ih this.1 (by omega) (by omega)
theorem ey (h:Wf F n rk) {i:Nat} (hi:i<n):bh F rk i=.node (F.nm i) ((F.kids i).map (bh F rk)):=by
 have h1:bh F rk i=qu F (rk i+1) i:=Eb h hi (aj _) (jP _);rw [h1];simp only [qu];congr 1;refine iK fun k hk=>?_;have:=h.kid i hi k hk;exact Eb h this.1 (by omega) (aj _)
theorem dM {l:List (Option Nat×Int)} {k j:Option Nat} (v:Int) (h:j≠k):(lz l k v).lookup j=l.lookup j:=by
 have hne:(j==k)=false:=by simpa using h
 unfold lz;split
 ·induction l with
  | nil=>simp [List.lookup,hne]
  | cons x l ih =>
   rename_i hl;obtain ⟨x1,x2⟩:=x;rw [cw,dJ,dJ];cases hx:(j==x1)
   ·refine ih ?_
    rw [dJ] at hl;cases hx2:(k==x1)
    ·rw [hx2] at hl;exact hl
    ·rw [hx2] at hl;cases hl
   ·rfl
 ·have key:∀q:List (Option Nat×Int),List.lookup j (q.map (fun x=>if x.1=k then (k,v) else x))=List.lookup j q:=by
   intro q
   induction q with
   | nil=>rfl
   | cons x l ih =>
    obtain ⟨x1,x2⟩:=x
    rw [cV,dJ]
    by_cases e:x1=k
    ·subst e
     simp only [if_true]
     rw [dJ,hne];exact ih
    ·rw [if_neg e,dJ]
     cases (j==x1)
     ·exact ih
     ·rfl
  exact key l
theorem tB {l:List (Option Nat×Int)} {k:Option Nat} (v:Int) (h:l.lookup k=none):(lz l k v).lookup k=some v:=by
 unfold lz;rw [h];simp only [Option.isNone_none,if_true]
 induction l with
 | nil=>simp
 | cons x l ih =>
  obtain ⟨x1,x2⟩:=x;rw [dJ] at h;rw [cw,dJ];cases hx:(k==x1)
  ·rw [hx] at h;exact ih h
  ·rw [hx] at h;cases h
structure E7 (s s':wU) (ps:List Int) (ns:List ByteArray) (nd:List Nat):Prop where
 ps:s'.ps=s.ps++ps
 ns:s'.ns=s.ns++ns
 old:∀k:Option Nat,(∀j∈nd,k≠some j)->s'.mp.lookup k=s.mp.lookup k
theorem Uy (h:tA F n rk) {R:Nat} (hR:∀i,i<n->rk i<=R):∀ {d i:Nat} (p:Option Nat) (np:Int) (s:wU),i<n->rk i<=d->p≠some i->s.mp.lookup p=some np->(∀j∈bW F rk i,s.mp.lookup (some j)=none) ->
  E7 s ((dW F rk i p).foldl (oh F) s) (jk (bh F rk i) s.ps.length np) (dH (bh F rk i)) (bW F rk i):=by
 intro d
 induction d with
 | zero =>
  intro i p np s hi hd hp hl hn;have hk:F.kids i=[]:=by
   cases hk:F.kids i with
   | nil=>rfl
   | cons k l=>have:=(h.wf.kid i hi k (by rw [hk];simp)).2;omega
  rw [gw h.wf hi,ey h.wf hi,cu h.wf hi,hk];have hni:=hn i (by rw [cu h.wf hi];simp);refine ⟨?_,?_,fun k hk2=>dM _ (hk2 i (by simp))⟩
  ·show s.ps++[((lz s.mp (some i) _).lookup p).getD 0]=_
   rw [dM _ hp,hl];rfl
  ·rfl
 | succ d ih =>
  intro i p np s hi hd hp hl hn;rw [gw h.wf hi,ey h.wf hi,cu h.wf hi];have hni:=hn i (by rw [cu h.wf hi];simp);have iR:=lB h hR hi (aj (rk i));rw [cu h.wf hi,sK] at iR;have key:∀(l:List Nat),(∀k∈l,k∈F.kids i)->(l.flatMap fun k=>bW F rk k).Nodup->(∀k∈l,i∉bW F rk k)->∀(s2:wU) (own:Nat),s2.mp.lookup (some i)=some (own:Int)->(∀k∈l,∀j∈bW F rk k,s2.mp.lookup (some j)=none) ->
    E7 s2 ((l.flatMap fun k=>dW F rk k (some i)).foldl (oh F) s2) (fu (l.map (bh F rk)) own s2.ps.length) (eH (l.map (bh F rk))) (l.flatMap fun k=>bW F rk k):=by
   intro l
   induction l with
   | nil=>intro _ _ _ s2 own _ _;exact ⟨by simp [fu],by simp [eH],fun _ _=>rfl⟩
   | cons c l ihl =>
    intro hin hdl hil s2 own ho hno
    have hcc:=h.wf.kid i hi c (hin c (by simp))
    rw [iI,List.foldl_append,iI]
    rw [iI,sJ] at hdl
    have h1:=ih (some i) (own:Int) s2 hcc.1 (by omega) (fun e=>by
     injection e with e
     have:=hcc.2;rw [e] at this;omega) ho (hno c (by simp))
    have h2:=ihl (fun k hk=>hin k (by simp [hk])) hdl.2.1 (fun k hk=>hil k (by simp [hk])) ((dW F rk c (some i)).foldl (oh F) s2) own
     ((h1.old (some i) (fun j hj e=>by injection e with e;subst e;exact hil c (by simp) hj)).trans ho)
     (fun k hk j hj=>(h1.old (some j) (fun j2 hj2 e=>by
      injection e with e;subst e
      exact hdl.2.2 j hj2 j (jo.2 ⟨k,hk,hj⟩) rfl)).trans (hno k (by simp [hk]) j hj))
    refine ⟨?_,?_,fun k hk=>?_⟩
    ·rw [h2.ps,h1.ps,cV,fu,cU,bG,lW]
    ·rw [h2.ns,h1.ns,cV,eH,cU]
    ·rw [h2.old k (fun j hj=>hk j (by simp [hj])),h1.old k (fun j hj=>hk j (by simp [hj]))]
  have hin:∀k∈F.kids i,i∉bW F rk k:=fun k hk hm=>iR.1 (jo.2 ⟨k,hk,hm⟩)
  have h3:=key (F.kids i) (fun k hk=>hk) iR.2 hin (oh F s (i,p)) s.ps.length (tB _ hni) (fun k hk j hj=>by
   show (lz s.mp (some i) _).lookup (some j)=none;rw [dM _ (fun e=>by injection e with e;subst e;exact hin k hk hj)]
   exact hn j (by rw [cu h.wf hi];exact yR _ (jo.2 ⟨k,hk,hj⟩)))
  have hps:(oh F s (i,p)).ps=s.ps++[np]:=by show s.ps++[((lz s.mp (some i) _).lookup p).getD 0]=_;rw [dM _ hp,hl];rfl
  rw [List.foldl_cons];refine ⟨?_,?_,fun k hk=>?_⟩
  ·rw [h3.ps,hps,jk,cU,bG];rfl
  ·rw [h3.ns]
   show (s.ns++[F.nm i])++_=_;rw [dH,cU];rfl
  ·rw [h3.old k (fun j hj=>hk j (by simp [hj]))]
   exact dM _ (hk i (by simp))
theorem Lx (h:tA F n rk) {R:Nat} (hR:∀i,i<n->rk i<=R) {i:Nat} (hi:i<n):fR F rk i=flat (bh F rk i):=by
 have h1:=Uy h hR (d:=rk i) none (-1) CS hi (aj _) (fun e=>by cases e) rfl (fun j _=>rfl);unfold fR flat cH;rw [h1.ps,h1.ns];rfl
end
end
section
def gh:RT->ByteArray
 | .node nm []=>nm
 | .node _ (k::_)=>gh k
def oW (a:RT):List RT->List RT
 | []=>[a]
 | b::l=>if gL (gh a) (gh b)<=0 then a::b::l else b::oW a l
mutual
def cE:RT->RT
 | .node nm ks=>.node nm (iV ks)
def iV:List RT->List RT
 | []=>[]
 | r::rs=>oW (cE r) (iV rs)
end
theorem GZ {f:Nat->ByteArray} {g:Nat->RT} {a:Nat} (ha:gh (g a)=f a):∀l:List Nat,(∀k∈l,gh (g k)=f k)->oW (g a) (l.map g)=(yu f a l).map g
 | [],_=>rfl
 | b::l,h=>by
  have hb:=h b (by simp)
  rw [cV,oW,yu,ha,hb]
  unfold nv
  by_cases e:gL (f a) (f b)<=0
  ·rw [if_pos e,if_pos (by simpa using e)];rfl
  ·rw [if_neg e,if_neg (by simpa using e),GZ ha l (fun k hk=>h k (by simp [hk]))];rfl
theorem AG {f:Nat->ByteArray} {l:List Nat} {k:Nat}:k∈ue f l↔k∈l:=by rw [<- AE];exact (eu f l).mem_iff
theorem BM {f:Nat->ByteArray} {h:Nat->RT}:∀l:List Nat,(∀k∈l,gh (cE (h k))=f k)->iV (l.map h)=(ue f l).map fun k=>cE (h k)
 | [],_=>rfl
 | a::l,hf=>by
  rw [cV,iV,ue,BM l (fun k hk=>hf k (by simp [hk]))]
  exact GZ (g:=fun k=>cE (h k)) (hf a (by simp)) (ue f l) (fun k hk=>hf k (by simp [AG.1 hk]))
section
variable {F:aW} {n:Nat} {rk:Nat->Nat}
theorem Wf.iA (h:Wf F n rk) (p:Nat->Bool):Wf (F.iA rk p) n rk:=⟨fun i hi k hk=>h.kid i hi k ((F.ir rk p i).mem_iff.1 hk)⟩
theorem QU (h:Wf F n rk) (p:Nat->Bool):∀ {d i:Nat},i<n->rk i<=d->(∀j,bY F rk i j=true->p j=true)->bh (F.iA rk p) rk i=cE (bh F rk i)/\gh (cE (bh F rk i))=fL F rk i:=by
 intro d;have Tk:∀i,p i=true->(F.iA rk p).kids i=cF (fL F rk) (F.kids i):=fun i hp=>by show (if p i then _ else _:List Nat)=_;rw [if_pos hp]
 induction d with
 | zero =>
  intro i hi hd hp;have hk:F.kids i=[]:=by
   cases hk:F.kids i with
   | nil=>rfl
   | cons k l=>have:=(h.kid i hi k (by rw [hk];simp)).2;omega
  have hk2:(F.iA rk p).kids i=[]:=by rw [Tk i (hp i (iU h hi)),hk];simp [cF]
  rw [ey (h.iA p) hi,ey h hi,rS h hi,hk,hk2];refine ⟨rfl,?_⟩;simp [cF,cE,iV,gh]
 | succ d ih =>
  intro i hi hd hp;have hk2:=Tk i (hp i (iU h hi));have key:∀k∈F.kids i,bh (F.iA rk p) rk k=cE (bh F rk k)/\gh (cE (bh F rk k))=fL F rk k:=fun k hk=>by have hkk:=h.kid i hi k hk;exact ih hkk.1 (by omega) (fun j hj=>hp j (ng h hi hk hj))
  have hs:iV ((F.kids i).map (bh F rk))=(ue (fL F rk) (F.kids i)).map fun k=>cE (bh F rk k):=BM _ (fun k hk=>(key k hk).2);rw [ey (h.iA p) hi,ey h hi,rS h hi,hk2,AE,cE,hs];refine ⟨?_,?_⟩
  ·show RT.node (F.nm i) _=_
   congr 1;exact iK fun k hk=>(key k (AG.1 hk)).1
  ·cases hc:ue (fL F rk) (F.kids i) with
   | nil=>rfl
   | cons k l =>
    rw [cV,gh];exact (key k (AG.1 (by rw [hc];simp))).2
end
def nE (t:aA):RT:=bh (k9 t) (fF t) 0
theorem Ec {t:aA} (h:aF t=0):r7 t=flat (cE (nE t)):=by
 obtain ⟨hp,_⟩:=aG h;unfold r7;rw [Lx (GS h) (R:=t.ps.length) (fun i _=>yq t i) hp];congr 1;exact (QU (fB h).wf _ hp (aj _) (fun j hj=>by simpa using hj)).1
def kf (own:Nat):List Int->Nat->List Nat
 | [],_=>[]
 | p::ps,b=>if p=(own:Int) then b::kf own ps (b+1) else kf own ps (b+1)
theorem r9 (own:Nat):∀(a c:List Int) (b:Nat),kf own (a++c) b=kf own a b++kf own c (b+a.length)
 | [],c,b=>rfl
 | x::a,c,b=>by
  rw [cw,kf,kf,r9 own a c (b+1),bB,show b+1+a.length=b+(a.length+1) by omega]
  split<;>rfl
theorem q7 (own:Nat):∀(a:List Int) (b:Nat),(∀x∈a,x≠(own:Int))->kf own a b=[]
 | [],_,_=>rfl
 | x::a,b,h=>by rw [kf,if_neg (h x (by simp)),q7 own a (b+1) (fun y hy=>h y (by simp [hy]))]
theorem G0 {ps:List Int} {n:Nat} (h:∀i,i<ps.length->gi ps i=n->n<i):eX ps n=kf n ps 0:=by
 have key:∀k,k<=ps.length->dR ps n k=kf n (ps.take k) 0:=by
  intro k
  induction k with
  | zero=>intro _;rfl
  | succ k ih =>
   intro hk;rw [lQ,ih (by omega),iL (show k<ps.length by omega),r9,iy,Nat.min_eq_left (by omega)];(have hg:gi ps k=ps[k]:=by simp [gi,show k<ps.length by omega]);congr 1;by_cases e:gi ps k=n
   ·rw [if_pos ⟨h k (by omega) e,e⟩,kf,if_pos (by rw [<- hg];exact e)]
    simp [kf]
   ·rw [if_neg (fun q=>e q.2),kf,if_neg (by rw [<- hg];exact e)];rfl
 unfold eX;rw [key _ (aj _),gq]
mutual
theorem G1:∀(r:RT) (n:Nat) (p x:Int),x∈jk r n p->x=p\/((n:Int)<=x/\x<((n+aX r:Nat):Int))
 | .node _ ks,n,p,x,h=>by
  rw [jk,bQ] at h
  rcases h with h | h
  ·exact .inl h
  ·right
   rw [aX]
   rcases uL ks n (n+1) x h with h1 | ⟨h1,h2⟩
   ·subst h1;exact ⟨by omega,by omega⟩
   ·exact ⟨by omega,by omega⟩
theorem uL:∀(rs:List RT) (own n:Nat) (x:Int),x∈fu rs own n->x=(own:Int)\/((n:Int)<=x/\x<((n+cM rs:Nat):Int))
 | [],_,_,_,h=>by simp [fu] at h
 | r::rs,own,n,x,h=>by
  rw [fu,eD] at h
  rw [cM]
  rcases h with h | h
  ·rcases G1 r n own x h with h1 | ⟨h1,h2⟩
   ·exact .inl h1
   ·exact .inr ⟨h1,by omega⟩
  ·rcases uL rs own (n+aX r) x h with h1 | ⟨h1,h2⟩
   ·exact .inl h1
   ·exact .inr ⟨by omega,by omega⟩
end
def yw:List RT->Nat->List Nat
 | [],_=>[]
 | r::rs,n=>n::yw rs (n+aX r)
theorem CU (own:Nat):∀(rs:List RT) (n:Nat),own<n->kf own (fu rs own n) n=yw rs n
 | [],_,_=>rfl
 | .node nm ks::rs,n,h=>by
  rw [fu,yw,r9,lW,CU own rs _ (by omega),jk,kf,if_pos rfl]
  rw [q7 own _ _ (fun x hx e=>by
   rcases uL ks n (n+1) x hx with h1 | ⟨h1,_⟩<;>omega)]
  rfl
theorem Ed (r:RT):0<aX r:=by cases r;rw [aX];omega
theorem AH (a b:List Int) (k:Nat):gi (a++b) (a.length+k)=gi b k:=by simp [gi,List.getElem?_append_right]
theorem QV (a b:List ByteArray) (k:Nat):gs (a++b) (a.length+k)=gs b k:=by simp [gs,List.getElem?_append_right]
theorem AJ {a:List Int} (b:List Int) {k:Nat} (h:k<a.length):gi (a++b) k=gi a k:=by simp [gi,List.getElem?_append_left h]
theorem Uz:∀(d:Nat) (r:RT) (n:Nat) (p:Int) (t:aA) (pre post:List Int) (J7 CV:List ByteArray),aX r<=d->t.ps=pre++(jk r n p++post)->t.ns=J7++(dH r++CV)->pre.length=n->J7.length=n->p<n->(∀x∈pre,x<(n:Int))->(∀x∈post,x<(n:Int)\/((n+aX r:Nat):Int)<=x)->qu (k9 t) d n=r:=by
 intro d
 induction d with
 | zero=>intro r n p t pre post J7 CV hd;have:=Ed r;omega
 | succ d ih =>
  intro r n p t pre post J7 CV hd hps Mt hpl hnl hp hpre hpost;obtain ⟨nm,ks⟩:=r;rw [aX] at hd hpost;rw [jk,cw] at hps;rw [dH,cw] at Mt;have hk:(k9 t).kids n=yw ks (n+1):=by
   rw [oU,G0]
   ·rw [hps,r9,q7 n pre 0 (fun x hx e=>by have:=hpre x hx;omega),dz,kf,if_neg (by omega),r9,hpl,jQ,CU n ks (n+1) (by omega),vS]
    rw [q7 n post _ (fun x hx e=>by rcases hpost x hx with h1 | h1<;>omega),gm]
   ·intro i hi e
    rw [hps] at e;rcases Nat.lt_trichotomy i n with h1 | h1 | h1
    ·rw [AJ _ (by omega)] at e
     have:=hpre _ (ur (l:=pre) (k:=i) (by omega));omega
    ·subst h1
     have h2:=AH pre (p::(fu ks i (i+1)++post)) 0;rw [hpl] at h2;have h2:gi (pre++p::(fu ks i (i+1)++post)) i=p:=h2;rw [h2] at e;have e:p=i:=e;omega
    ·exact h1
  have hnm:(k9 t).nm n=nm:=by show gs t.ns n=nm;rw [Mt,<- hnl];exact QV J7 (nm::(eH ks++CV)) 0
  rw [qu,hk,hnm];congr 1;have key:∀(rs:List RT) (m:Nat) (pr:List Int) (nr:List ByteArray),cM rs<=d->t.ps=pr++(fu rs n m++post)->t.ns=nr++(eH rs++CV)->pr.length=m->nr.length=m->n<m->(∀x∈pr,x<(m:Int))->(∀x∈post,x<(n:Int)\/((m+cM rs:Nat):Int)<=x)->(yw rs m).map (qu (k9 t) d)=rs:=by
   intro rs
   induction rs with
   | nil=>intros;rfl
   | cons r rs ihr =>
    intro m pr nr hd2 QX QY QO XI hm J8 XJ;rw [cM] at hd2 XJ;rw [fu,cU] at QX;rw [eH,cU] at QY;rw [yw,cV]
    have h1:=ih r m n t pr (fu rs n (m+aX r)++post) nr (eH rs++CV) (by omega) QX QY QO XI (by omega) J8 (fun x hx=>by
     rcases eD.1 hx with hx | hx
     ·rcases uL rs n (m+aX r) x hx with h2 | ⟨h2,_⟩
      ·exact .inl (by omega)
      ·exact .inr h2
     ·rcases XJ x hx with h2 | h2
      ·exact .inl (by omega)
      ·exact .inr (by omega))
    have h2:=ihr (m+aX r) (pr++jk r m n) (nr++dH r) (by omega) (by rw [QX,cU]) (by rw [QY,cU])
     (by rw [bG,lW,QO]) (by rw [bG,y6,XI]) (by omega) (fun x hx=>by
      rcases eD.1 hx with hx | hx
      ·have:=J8 x hx;omega
      ·rcases G1 r m n x hx with h3 | ⟨_,h3⟩<;>omega) (fun x hx=>by
      rcases XJ x hx with h3 | h3
      ·exact .inl h3
      ·exact .inr (by omega))
    rw [h1,h2]
  exact key ks (n+1) (pre++[p]) (J7++[nm]) (by omega) (by rw [hps,cU];rfl) (by rw [Mt,cU];rfl) (by simp [hpl]) (by simp [hnl]) (by omega) (fun x hx=>by
   rcases eD.1 hx with hx | hx
   ·have:=hpre x hx;omega
   ·have:x=p:=by simpa using hx
    omega) (fun x hx=>by
   rcases hpost x hx with h3 | h3
   ·exact .inl h3
   ·exact .inr (by omega))
theorem oZ (r:RT):(flat r).ps.length=aX r:=lW r 0 (-1)
theorem y7 (r:RT):(flat r).ns.length=aX r:=y6 r
theorem vT (r:RT):nE (flat r)=r:=by
 unfold nE bh;have h:fF (flat r) 0=aX r:=by unfold fF;rw [oZ,Nat.sub_zero]
 rw [h];exact Uz (aX r) r 0 (-1) (flat r) [] [] [] [] (aj _) (by simp [flat]) (by simp [flat]) rfl rfl (by omega) (fun x hx=>by simp at hx) (fun x hx=>by simp at hx)
end
end Go.Proofs.YtfomhlbhcifgbaaGreatDoor
