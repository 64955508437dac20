/- Costs of rose trees: what an assignment of states to all nodes costs; under sorting, .. -/
import Derived.Test.YthgabkgmkolobaaGreatQ29
import Derived.Test.YthgabkgmkolobaaGreatQ31
set_option maxRecDepth 100000
namespace Go.Proofs.YthgabkgmkolobaaGreat
section
section
variable (m:Nat) (cost:Nat->Nat->Int) (b6:ByteArray->Int)
mutual
def iE:RT->Nat->Int->Prop
 | .node nm ks,s,c=>s<m/\(ks=[]->0<=b6 nm->b6 nm=(s:Int))/\l9 ks s c
def l9:List RT->Nat->Int->Prop
 | [],_,c=>c=0
 | k::ks,s,c=>∃u a b,iE k u a/\l9 ks s b/\c=cost s u+a+b
end
def uZ (A B:RT) (c:Int):Prop:=∃s u a b,iE m cost b6 A s a/\iE m cost b6 B u b/\c=a+cost s u+b
end
structure Bk (m:Nat) (cost:Nat->Nat->Int):Prop where
 nn:∀a b,a<m->b<m->0<=cost a b
 z:∀a,a<m->cost a a=0
 sym:∀a b,a<m->b<m->cost a b=cost b a
 tri:∀a b c,a<m->b<m->c<m->cost a c<=cost a b+cost b c
section
variable {m:Nat} {cost:Nat->Nat->Int} {b6:ByteArray->Int}
theorem gY:∀ {r:RT} {s:Nat} {c:Int},iE m cost b6 r s c->s<m
 | .node nm ks,s,c,h=>by rw [iE] at h;exact h.1
theorem cg {k:RT} {ks:List RT} {s:Nat} {c:Int}:l9 m cost b6 (k::ks) s c↔∃u a b,iE m cost b6 k u a/\l9 m cost b6 ks s b/\c=cost s u+a+b:=by rw [l9]
theorem kS {s:Nat} {c:Int}:l9 m cost b6 [] s c↔c=0:=by rw [l9]
theorem jA {nm:ByteArray} {ks:List RT} {s:Nat} {c:Int}:iE m cost b6 (.node nm ks) s c↔s<m/\(ks=[]->0<=b6 nm->b6 nm=(s:Int))/\l9 m cost b6 ks s c:=by rw [iE]
theorem qx {s:Nat}:∀ {l l2:List RT} {c:Int},l9 m cost b6 (l++l2) s c↔∃a b,l9 m cost b6 l s a/\l9 m cost b6 l2 s b/\c=a+b
 | [],l2,c=>by
  constructor
  ·intro h;exact ⟨0,c,kS.2 rfl,h,by omega⟩
  ·rintro ⟨a,b,h1,h2,rfl⟩
   rw [kS] at h1;subst h1
   rw [Int.zero_add];exact h2
 | k::l,l2,c=>by
  rw [bz,cg]
  constructor
  ·rintro ⟨u,a,b,h1,h2,rfl⟩
   obtain ⟨a2,b2,h3,h4,rfl⟩:=qx.1 h2
   exact ⟨cost s u+a+a2,b2,cg.2 ⟨u,a,a2,h1,h3,rfl⟩,h4,by omega⟩
  ·rintro ⟨a,b,h1,h2,rfl⟩
   obtain ⟨u,a1,a2,h3,h4,rfl⟩:=cg.1 h1
   exact ⟨u,a1,a2+b,h3,qx.2 ⟨a2,b,h4,h2,rfl⟩,by omega⟩
theorem uA {s:Nat} {l l2:List RT} (h:l.Perm l2):∀ {c:Int},l9 m cost b6 l s c->l9 m cost b6 l2 s c:=by
 induction h with
 | nil=>intro c h;exact h
 | cons x _ ih =>
  intro c h
  obtain ⟨u,a,b,h1,h2,rfl⟩:=cg.1 h
  exact cg.2 ⟨u,a,b,h1,ih h2,rfl⟩
 | swap x y l =>
  intro c h
  obtain ⟨u,a,b,h1,h2,rfl⟩:=cg.1 h
  obtain ⟨v,a2,b2,h3,h4,rfl⟩:=cg.1 h2
  exact cg.2 ⟨v,a2,cost s u+a+b2,h3,cg.2 ⟨u,a,b2,h1,h4,rfl⟩,by omega⟩
 | trans _ _ i1 i2=>intro c h;exact i2 (i1 h)
mutual
theorem qb:∀(r:RT) (s:Nat) (c:Int),iE m cost b6 (aY r) s c↔iE m cost b6 r s c
 | .node nm ks,s,c=>by
  rw [aY,jA,jA,zb ks s c]
  constructor
  ·rintro ⟨h1,h2,h3⟩;exact ⟨h1,fun e=>h2 (kQ.2 e),h3⟩
  ·rintro ⟨h1,h2,h3⟩;exact ⟨h1,fun e=>h2 (kQ.1 e),h3⟩
theorem zb:∀(rs:List RT) (s:Nat) (c:Int),l9 m cost b6 (cR rs) s c↔l9 m cost b6 rs s c
 | [],s,c=>by rw [cR]
 | r::rs,s,c=>by
  rw [cR]
  have hp:=yK (aY r) (cR rs)
  constructor
  ·intro h
   obtain ⟨u,a,b,h1,h2,e⟩:=cg.1 (uA hp h)
   exact cg.2 ⟨u,a,b,(qb r u a).1 h1,(zb rs s b).1 h2,e⟩
  ·intro h
   obtain ⟨u,a,b,h1,h2,e⟩:=cg.1 h
   exact uA hp.symm (cg.2 ⟨u,a,b,(qb r u a).2 h1,(zb rs s b).2 h2,e⟩)
end
theorem Il (M:Bk m cost) {nm Xw:ByteArray} {ks K:List RT} {x B:RT} (hp:ks.Perm (x::K)) (c:Int):uZ m cost b6 (.node nm ks) B c↔uZ m cost b6 x (.node Xw (K++[B])) c:=by
 have hne:ks≠[]:=fun e=>by rw [e] at hp;have:=hp.length_eq;simp at this
 constructor
 ·rintro ⟨s,u,a,b,h1,h2,rfl⟩
  rw [jA] at h1;obtain ⟨v,a1,a2,h3,h4,rfl⟩:=cg.1 (uA hp h1.2.2);refine ⟨v,s,a1,a2+(cost s u+b),h3,jA.2 ⟨h1.1,fun e=>(by simp at e),qx.2 ⟨a2,cost s u+b,h4,cg.2 ⟨u,b,0,h2,kS.2 rfl,by omega⟩,rfl⟩⟩,?_⟩;have:=M.sym s v h1.1 (gY h3);omega
 ·rintro ⟨v,s,a1,a,h1,h2,rfl⟩
  rw [jA] at h2;obtain ⟨a2,b1,h3,h4,rfl⟩:=qx.1 h2.2.2;obtain ⟨u,b,z,h5,h6,rfl⟩:=cg.1 h4;rw [kS] at h6;subst h6;refine ⟨s,u,cost s v+a1+a2,b,jA.2 ⟨h2.1,fun e=>absurd e hne,uA hp.symm (cg.2 ⟨v,a1,a2,h1,h3,rfl⟩)⟩,h5,?_⟩;have:=M.sym s v h2.1 (gY h1);omega
theorem Im (M:Bk m cost) {nm:ByteArray} {x W:RT} {c:Int} (h:uZ m cost b6 x W c):∃s,iE m cost b6 (.node nm [x,W]) s c:=by
 obtain ⟨s,u,a,b,h1,h2,rfl⟩:=h;refine ⟨s,jA.2 ⟨gY h1,fun e=>(by cases e),cg.2 ⟨s,a,cost s u+b,h1,cg.2 ⟨u,b,0,h2,kS.2 rfl,by omega⟩,?_⟩⟩⟩;have:=M.z s (gY h1);omega
theorem Io (M:Bk m cost) {nm:ByteArray} {x W:RT} {s:Nat} {c:Int} (h:iE m cost b6 (.node nm [x,W]) s c):∃c',uZ m cost b6 x W c'/\c'<=c:=by
 rw [jA] at h;obtain ⟨hs,_,h⟩:=h;obtain ⟨u,a,b,h1,h2,rfl⟩:=cg.1 h;obtain ⟨v,a2,b2,h3,h4,rfl⟩:=cg.1 h2;rw [kS] at h4;subst h4;refine ⟨a+cost u v+a2,⟨u,v,a,a2,h1,h3,rfl⟩,?_⟩;have:=M.tri u s v (gY h1) hs (gY h3);have:=M.sym u s (gY h1) hs;omega
end
end
section
def Ip (a b:Nat):Int:=if a=b then 0 else 1
def mG (n a:Nat):List Int:=(List.range n).map (Ip a)
def cn (n:Nat):List (List Int):=(List.range n).map (mG n)
theorem u7 (n a:Nat):(mG n a).length=n:=by simp [mG]
theorem mg (n:Nat):(cn n).length=n:=by simp [cn]
theorem Cx {n a b:Nat} (h:b<n):gi (mG n a) b=Ip a b:=by simp [gi,mG,h]
theorem Iq {n a:Nat} (h:a<n):gl (cn n) a=mG n a:=by simp [gl,cn,h]
end
section
def dd:List Int->List Int
 | []=>[]
 | x::l=>if x∈dd l then dd l else x::dd l
theorem vV {x:Int}:∀ {l:List Int},x∈dd l↔x∈l
 | []=>Iff.rfl
 | y::l=>by
  unfold dd
  split
  ·rename_i h
   rw [vV (l:=l),bX]
   exact ⟨.inr,fun h2=>h2.elim (fun e=>by rw [e];exact vV.1 h) id⟩
  ·rw [bX,bX,vV (l:=l)]
theorem tD:∀l:List Int,(dd l).Nodup
 | []=>List.nodup_nil
 | y::l=>by
  unfold dd
  split
  ·exact tD l
  ·rename_i h;exact gz.2 ⟨h,tD l⟩
theorem OS {n a b:Nat} (ha:a<n) (hb:b<n):iz (cn n) a b=if a=b then 0 else 1:=by
 unfold iz;rw [Iq ha,Cx hb];rfl
end
section
theorem Xx:oy (cn 16)=0:=by decide +kernel
theorem Zr {st:List Int} {m:Int} (h:je st (-1) m=false) {k:Nat} (hk:k<st.length):-1<=gi st k/\gi st k<m:=by
 have:=any_false h hk;simp at this;omega
theorem OT {l:List Int} {x:Int} (h:x∈l):∃k,k<l.length/\gi l k=x:=by
 obtain ⟨k,hk,e⟩:=List.mem_iff_getElem.1 h;exact ⟨k,hk,by simp [gi,hk,e]⟩
section
variable {t:aF} {st:List Int}
def dO (st:List Int):List Int:=st.filter fun s=>decide (0<=s)
end
end
section
def o5 (t:aF) (acw:List ByteArray) (st:List Int) (n:Nat):List Int:=(List.range n).map fun j=>gi st (iW acw (gs t.ns (gi (az t.ns) j).toNat)).toNat
theorem tE (t:aF) (acw:List ByteArray) (st:List Int) (n:Nat):(o5 t acw st n).length=n:=by simp [o5]
theorem KJ {t:aF} {acw:List ByteArray} {st:List Int} {n j:Nat} (h:j<n):gi (o5 t acw st n) j=gi st (iW acw (gs t.ns (gi (az t.ns) j).toNat)).toNat:=by simp [o5,gi,h]
theorem OU (t:aF) (acw:List ByteArray) (st:List Int) (n:Nat):o5 t acw st (n+1)=o5 t acw st n++[gi st (iW acw (gs t.ns (gi (az t.ns) n).toNat)).toNat]:=by simp [o5,List.range_succ]
section
variable {t:aF} {acw:List ByteArray} {st:List Int}
theorem Ir (h:xw t acw) {v:Nat} (hv:v<t.ps.length) (h0:(gs t.ns v).size≠0):∃b:Nat,b<acw.length/\gs acw b=gs t.ns v/\iW acw (gs t.ns v)=(b:Int):=by
 obtain ⟨b,hb,e⟩:=h.has v hv h0;exact ⟨b,hb,e,by rw [<- e];exact Tf h.nd hb⟩
end
end
section
section
variable {F:aX} {n:Nat} {rk:Nat->Nat} {P:Nat->Bool} {m:Nat} {cost:Nat->Nat->Int} {b6:ByteArray->Int}
theorem Xy (h:Wf F n rk) {Q:Nat->Prop} (step:∀z,z<n->(∀k∈F.kids z,Q k)->Q z):∀z,z<n->Q z:=by
 have key:∀d z,rk z<=d->z<n->Q z:=by
  intro d
  induction d with
  | zero=>intro z hd hz;exact step z hz fun k hk=>by have:=(h.kid z hz k hk).2;omega
  | succ d ih=>intro z hd hz;exact step z hz fun k hk=>by have:=h.kid z hz k hk;exact ih k (by omega) this.1
 exact fun z hz=>key _ z (ah _) hz
end
section
variable {t:aF} {st:List Int} {cs:List (List Int)} {b6:ByteArray->Int}
theorem KL (hv:Valid t st cs) (hl:∀i,i<t.ps.length->b7 t.ps i=[]->b6 (gs t.ns i)=oz t.ns st i):∀z,z<t.ps.length->∀s,s<cs.length ->
  (∀c,iE cs.length (iz cs) b6 (aV (fU t) (dx t) z) s c->0<=mP t st cs z s/\mP t st cs z s<=c)/\(0<=mP t st cs z s->iE cs.length (iz cs) b6 (aV (fU t) (dx t) z) s (mP t st cs z s)):=by
 have hw:=(eM hv.tree).wf;obtain ⟨_,_,_,m4,_⟩:=uN hv.Sr;have Mm:∀s,∀j,j<cs.length->0<=iz cs s j/\iz cs s j<=1000:=fun s j _=>m4 s j;have CT:∀s k,jD t st cs s k=(bJ (iz cs s) (gi (aW t st cs k)) cs.length).1:=fun s k=>by unfold jD;rw [gD];rfl
 refine Xy hw fun z hz IH s hs=>?_;rw [kM] at IH;rw [dY hw hz,J5 t st cs hz s,kM];show (∀c,iE cs.length (iz cs) b6 (.node (gs t.ns z) _) s c->_)/\(_->iE cs.length (iz cs) b6 (.node (gs t.ns z) _) s _);simp only [jA];have aaL:∀l:List Nat,(∀k∈l,k∈b7 t.ps z)->∀c,l9 cs.length (iz cs) b6 (l.map (aV (fU t) (dx t))) s c->(l.map (jD t st cs s)).sum<=c:=fun l=>by
  induction l with
  | nil=>intro _ c h;rw [List.map_nil,kS] at h;subst h;simp
  | cons k l ih =>
   intro hm c hc;obtain ⟨u,a,b,h1,h2,rfl⟩:=cg.1 hc;have hkm:=hm k (by simp);have h3:=ih (fun k hk=>hm k (by simp [hk])) b h2;obtain ⟨h4,h5⟩:=(IH k hkm u (gY h1)).1 a h1;obtain ⟨o,_,_,_,_,h6,_⟩:=zH hv (Mm s) (fI.1 hkm).1;have h7:=h6 u (gY h1) (by rw [eU t st cs k (gY h1)];exact h4);rw [eU t st cs k (gY h1),<- CT] at h7;rw [bI,List.sum_cons];omega
 have aaM:∀l:List Nat,(∀k∈l,k∈b7 t.ps z)->l9 cs.length (iz cs) b6 (l.map (aV (fU t) (dx t))) s ((l.map (jD t st cs s)).sum)/\0<=(l.map (jD t st cs s)).sum:=fun l=>by
  induction l with
  | nil=>intro _;exact ⟨kS.2 rfl,by simp⟩
  | cons k l ih =>
   intro hm;have hkm:=hm k (by simp);obtain ⟨h2,h3⟩:=ih fun k hk=>hm k (by simp [hk]);obtain ⟨o,_,h4,h5,h6,_,_⟩:=zH hv (Mm s) (fI.1 hkm).1;rw [eU t st cs k h4] at h5 h6;rw [<- CT] at h6;rw [bI,bI,List.sum_cons];have:=(Mm s o h4).1;exact ⟨cg.2 ⟨o,mP t st cs k o,_,(IH k hkm o h4).2 h5,h2,by omega⟩,by omega⟩
 obtain ⟨k2,k3⟩:=aaM _ fun k hk=>hk;have k1:=aaL _ fun k hk=>hk;by_cases h0:b7 t.ps z=[]
 ·rw [h0] at k1 k2 k3 ⊢
  have hlz:=hl z hz h0;rw [hlz];unfold fq;simp only [List.map_nil,List.sum_nil,kS] at *;constructor
  ·rintro c ⟨_,h1,h2⟩
   have h1:=h1 trivial;rw [if_neg (fun e=>e.2 (h1 e.1))];omega
  ·intro h1
   refine ⟨hs,fun _ h2=>?_,?_⟩
   ·by_cases e:oz t.ns st z=(s:Int)
    ·exact e
    ·rw [if_pos ⟨h2,e⟩] at h1;omega
   ·split at h1
    ·omega
    ·rw [if_neg (by assumption)];rfl
 ·have hown:oz t.ns st z = -1:=by
   obtain ⟨c,hc⟩:=List.exists_mem_of_ne_nil _ h0
   obtain ⟨c1,c2,c3⟩:=fI.1 hc
   exact hv.fine.leaf z c c1 c2 c3
  have hb:fq t st z s=0:=by unfold fq;rw [if_neg (by omega)]
  rw [hb,Int.zero_add]
  exact ⟨fun c ⟨_,_,h3⟩=>⟨k3,k1 c h3⟩,fun _=>⟨hs,fun e=>absurd (List.map_eq_nil_iff.1 e) h0,k2⟩⟩
theorem EW (hv:Valid t st cs) (hl:∀i,i<t.ps.length->b7 t.ps i=[]->b6 (gs t.ns i)=oz t.ns st i) :
  (∃s,iE cs.length (iz cs) b6 (iy t) s (cQ t st cs))/\∀s c,iE cs.length (iz cs) b6 (iy t) s c->cQ t st cs<=c:=by
 have hp:=(aM hv.tree).1;have hsc:cQ t st cs=(bJ (fun _=>0) (gi (aW t st cs 0)) cs.length).1:=by unfold cQ;rw [if_pos hv.par]
 obtain ⟨o,_,h4,h5,h6,h7,_⟩:=zH hv (c:=fun _=>0) (fun j _=>⟨nw _,by omega⟩) hp;rw [<- hsc] at h6 h7;rw [eU t st cs 0 h4] at h5 h6;constructor
 ·refine ⟨o,?_⟩
  rw [h6,Int.zero_add];exact (KL hv hl 0 hp o h4).2 h5
 ·intro s c hc
  have hs:=gY hc;obtain ⟨a1,a2⟩:=(KL hv hl 0 hp s hs).1 c hc;have:=h7 s hs (by rw [eU t st cs 0 hs];exact a1);rw [eU t st cs 0 hs] at this;omega
theorem OV (he:aB t=0) {i:Nat} (hi:i<t.ps.length) (hk:b7 t.ps i=[]):WE t i:=⟨he,hi,rP (JI he hi hk)⟩
end
section
variable {t:aF} {st:List Int} {cs:List (List Int)} {leaf:Nat}
theorem JN {ns:List ByteArray} {j:Nat} (hj:j<ns.length) (h0:(gs ns j).size≠0):0<=gK ns j:=by
 have hm:(j:Int)∈az ns:=uO.2 ⟨j,rfl,hj,h0⟩;obtain ⟨i,hi,e⟩:=OT hm;unfold gK;have:=mU (fun i=>decide ((j:Int)=gi (az ns) i)) (az ns).length;rw [vo hi (decide_eq_true e.symm)] at this;exact of_decide_eq_true this
end
end
section
def cI (acy:List (List Int)) (p:Nat):List Int:=acy.map fun r=>gi r p
def jm (t:aF) (acw:List ByteArray) (acy:List (List Int)) (p:Nat):List Int:=o5 t acw (cI acy p) (az t.ns).length
def cE (t:aF) (acw:List ByteArray) (acy:List (List Int)):Int:=cz (fun p=>cQ t (jm t acw acy p) (cn 16)) (gl acy 0).length
def eE (acw:List ByteArray) (i:Nat):Int:=if bu (gs acw i).data.toList then (if dW acw i then 7 else 0) else 14
def dK (acw:List ByteArray):Int:=if acw.length<2\/7<acw.length then 4 else dF (eE acw) acw.length
def iY (acw:List ByteArray) (acy:List (List Int)):Int:=if dK acw≠0 then dK acw else if cB acy≠0 then 1 else if acy.length≠acw.length then 9 else 0
def ri (t:aF) (acw:List ByteArray):Bool:=decide ((az t.ns).length=acw.length)&&!Dl t acw
def nX (f:Nat->Int):Nat->Int
 | 0=>-1
 | k+1=>if nX f k<0\/f k<nX f k then f k else nX f k
def gt (l:List aF) (k:Nat):aF:=l.getD k ⟨[],[]⟩
def eu (acw:List ByteArray) (acy:List (List Int)):Int:=nX (fun k=>cE (gt (allT acw) k) acw acy) (allT acw).length
def nC (acw:List ByteArray) (acy:List (List Int)):List aF:=(allT acw).filter fun t=>decide (cE t acw acy=eu acw acy)
theorem tF (f:Nat->Int) (k:Nat):nX f (k+1)=if nX f k<0\/f k<nX f k then f k else nX f k:=rfl
theorem Iu {f:Nat->Int} (hf:∀k,0<=f k):∀ {n k:Nat},k<n->nX f n<=f k/\0<=nX f n
 | 0,k,h=>by omega
 | n+1,k,h=>by
  rw [tF]
  have h0:=hf n
  by_cases e:k=n
  ·subst e
   split<;>omega
  ·obtain ⟨h1,h2⟩:=Iu hf (n:=n) (k:=k) (by omega)
   split<;>omega
theorem OW {f:Nat->Int} (hf:∀k,0<=f k):∀ {n:Nat},0<n->∃k,k<n/\nX f n=f k
 | 0,h=>by omega
 | n+1,_=>by
  rw [tF]
  by_cases e:nX f n<0\/f n<nX f n
  ·rw [if_pos e];exact ⟨n,by omega,rfl⟩
  ·rw [if_neg e]
   have hn:0<n:=by
    rcases zG n with h | h
    ·subst h;exact absurd (.inl (by show (-1:Int)<0;decide)) e
    ·exact h
   obtain ⟨k,h1,h2⟩:=OW hf hn
   exact ⟨k,by omega,h2⟩
theorem xy {acw:List ByteArray} (h5:acw.length<=5):dK acw=0↔dU acw:=by
 unfold dK;constructor
 ·intro h
  split at h
  ·cases h
  ·rename_i h1
   have h2:=lB h;have hn:∀i,i<acw.length->bu (gs acw i).data.toList=true/\dW acw i=false:=fun i hi=>by
    have:=h2 i hi;unfold eE at this;cases e1:bu (gs acw i).data.toList<;>rw [e1] at this
    ·cases this
    ·cases e2:dW acw i<;>rw [e2] at this
     ·exact ⟨rfl,rfl⟩
     ·cases this
   refine ⟨by omega,h5,fun x hx=>?_,?_⟩
   ·obtain ⟨i,hi,rfl⟩:=wF hx
    have:=(hn i hi).1;simpa [gs,hi] using this
   ·refine rK.2 fun i j hi hj hij e=>?_
    have:=(hn j hj).2;unfold dW at this;have:=any_false this hij;rw [decide_eq_false_iff_not] at this;exact this (by simp [gs,hi,hj,e])
 ·intro h
  rw [if_neg (by have:=h.lo;omega)];refine ey fun i hi=>?_;unfold eE;have h1:gs acw i=acw[i]:=by simp [gs,hi]
  rw [h1,h.nm _ (lz hi),if_pos rfl,if_neg];rw [Bool.not_eq_true];refine any_none fun j hj=>?_;rw [decide_eq_false_iff_not,h1];intro e;have h2:=rK.1 h.nd j i (by omega) hi hj;exact h2 (by simpa [gs,show j<acw.length by omega] using e)
theorem KM {ns:List ByteArray} {n j:Nat} (hn:ns.length=n) (hj:j<n) (h0:(gs ns j).size≠0):(gK ns j).toNat<(az ns).length/\gi (az ns) (gK ns j).toNat=j:=yg (JN (by omega) h0)
theorem dU.Bl {acw:List ByteArray} (h:dU acw):∀j k,j<k->k<acw.length->gs acw k≠gs acw j:=fun j k hjk hk e=>by
 have h2:=rK.1 h.nd j k (by omega) hk hjk
 exact h2 (by simpa [gs,hk,show j<acw.length by omega] using e.symm)
theorem Iw {t:aF} {acw:List ByteArray} (h:dU acw) (ht:aB t=0):ri t acw=true↔xw t acw:=by
 obtain ⟨_,_,hnl,_,_⟩:=aM ht;unfold ri;rw [fe,decide_eq_true_iff,Bool.not_eq_true'];constructor
 ·rintro ⟨h1,h2⟩
  refine ⟨ht,by have:=h.hi;omega,h.Bl,h1,fun j hj hj0=>?_⟩;obtain ⟨p1,p2⟩:=KM hnl hj hj0;have:=any_false h2 p1;rw [p2,decide_eq_false_iff_not] at this;exact zR.1 (by rw [jd] at this;omega)
 ·intro ho
  refine ⟨ho.len,any_none fun j hj=>?_⟩;rw [decide_eq_false_iff_not];obtain ⟨v,hv,xI,hv0⟩:=wM hj;rw [hv,jd];have:=zR.2 (ho.has v (by omega) hv0);omega
theorem zT {acy:List (List Int)} (h:cB acy=0):0<acy.length/\(∀k,k<acy.length->(gl acy k).length=(gl acy 0).length/\∀p,p<(gl acy 0).length -> -1<=gi (gl acy k) p/\gi (gl acy k) p<16):=by
 unfold cB at h;split at h
 ·cases h
 ·rename_i h0
  split at h
  ·cases h
  ·refine ⟨by omega,fun k hk=>?_⟩
   have:=lB h k hk;unfold jr at this;split at this
   ·cases this
   ·rename_i h1
    split at this
    ·cases this
    ·rename_i h2
     (have h1:(gl acy k).length=(gl acy 0).length:=by omega);refine ⟨h1,fun p hp=>Zr (by simpa using h2) (by omega)⟩
structure qc (acw:List ByteArray) (acy:List (List Int)):Prop where
 nm:dU acw
 ag:cB acy=0
 len:acy.length=acw.length
theorem Bo {acw:List ByteArray} {acy:List (List Int)} (h5:acw.length<=5):iY acw acy=0↔qc acw acy:=by
 unfold iY;constructor
 ·intro h
  split at h
  ·rename_i h1;exact absurd h h1
  ·rename_i h1
   split at h
   ·cases h
   ·rename_i h2
    split at h
    ·cases h
    ·rename_i h3
     exact ⟨(xy h5).1 (by omega),by omega,by omega⟩
 ·intro h
  rw [if_neg (by rw [(xy h5).2 h.nm];simp),if_neg (by rw [h.ag];simp),if_neg (by rw [h.len];simp)]
def rj (acw:List ByteArray) (st:List Int) (x:ByteArray):Int:=if x.size=0 then -1 else if 0<=iW acw x then gi st (iW acw x).toNat else -1
theorem ze (acy:List (List Int)) (p:Nat) {k:Nat} (hk:k<acy.length):gi (cI acy p) k=gi (gl acy k) p:=by simp [gi,cI,gl,hk]
section
variable {t u:aF} {acw:List ByteArray} {acy:List (List Int)}
theorem nY (hc:qc acw acy) (h:xw t acw) {p:Nat} (hp:p<(gl acy 0).length):Valid t (jm t acw acy p) (cn 16):=by
 refine ⟨h.te,Xx,tE _ _ _ _,?_⟩;unfold je jm;rw [tE];refine any_none fun j hj=>?_;obtain ⟨v,hv,xI,hv0⟩:=wM hj;obtain ⟨_,_,hnl,_,_⟩:=aM h.te;obtain ⟨b,hb,_,e⟩:=Ir h (show v<t.ps.length by omega) hv0;rw [KJ hj,hv,jd,e,jd,ze _ _ (by rw [hc.len];exact hb)];have:=((zT hc.ag).2 b (by rw [hc.len];exact hb)).2 p hp;rw [mg,Bool.or_eq_false_iff,decide_eq_false_iff_not,decide_eq_false_iff_not];omega
theorem KO (h:xw t acw) {i p:Nat} (hi:i<t.ps.length) (hk:b7 t.ps i=[]):rj acw (cI acy p) (gs t.ns i)=oz t.ns (jm t acw acy p) i:=by
 have hl:=OV h.te hi hk;obtain ⟨_,_,hnl,_,_⟩:=aM h.te;obtain ⟨p1,p2⟩:=KM hnl hi hl.nm;obtain ⟨b,hb,_,e⟩:=Ir h hi hl.nm;have h1:=TK (st:=jm t acw acy p) p1 p2;rw [h1];unfold rj jm;rw [if_neg hl.nm,if_pos (by omega),KJ p1,p2,jd]
theorem Xz:Bk (cn 16).length (iz (cn 16)):=by
 have hc:∀a b,a<16->b<16->iz (cn 16) a b=if a=b then 0 else 1:=fun a b ha hb=>OS ha hb
 rw [mg];refine ⟨fun a b ha hb=>?_,fun a ha=>?_,fun a b ha hb=>?_,fun a b c ha hb hc2=>?_⟩
 ·rw [hc a b ha hb];split<;>omega
 ·rw [hc a a ha ha];simp
 ·rw [hc a b ha hb,hc b a hb ha]
  by_cases e:a=b
  ·rw [if_pos e,if_pos e.symm]
  ·rw [if_neg e,if_neg (dM e)]
 ·rw [hc a c ha hc2,hc a b ha hb,hc b c hb hc2]
  by_cases e:a=c
  ·rw [if_pos e];split<;>split<;>omega
  ·rw [if_neg e]
   by_cases e2:a=b
   ·subst e2;rw [if_pos rfl,if_neg e];omega
   ·rw [if_neg e2];split<;>omega
theorem OX (hc:qc acw acy) (ht:xw t acw):0<=cE t acw acy :=
 qo fun _ hp=>su (nY hc ht hp)
theorem of_flat (hn:dU acw) {q:RT} (ht:aB (flat q)=0) (hq:(gH q).Perm acw):xw (flat q) acw:=by
 have h1:(p7 (flat q).ns).Perm acw:=by have:=Md ht;rw [l5] at this;exact this.symm.trans hq
 refine ⟨ht,by have:=hn.hi;omega,hn.Bl,by rw [Oo,h1.length_eq],fun j hj hj0=>?_⟩;obtain ⟨_,_,hnl,_,_⟩:=aM ht;have hm:gs (flat q).ns j∈acw:=h1.mem_iff.1 (Ul.2 ⟨j,by omega,rfl,hj0⟩);obtain ⟨b,hb,e⟩:=wF hm;exact ⟨b,hb,by simp [gs,hb] at e ⊢;exact e⟩
theorem r9 (hn:dU acw) (ht:t∈allT acw):xw t acw/\∃q∈bQ acw,t=flat q:=by
 obtain ⟨q,hq,rfl⟩:=di.1 ht;obtain ⟨_,h2,_,_,h5,_⟩:=gI hn hq;exact ⟨of_flat hn h5 h2,q,hq,rfl⟩
theorem Cy {l:List aF} {k:Nat} (h:k<l.length):gt l k∈l:=by simp [gt,h]
theorem XA {l:List aF} {t:aF} (h:t∈l):∃k,k<l.length/\gt l k=t:=by
 obtain ⟨k,hk,e⟩:=wF h;exact ⟨k,hk,by simp [gt,hk,e]⟩
theorem RG (hn:dU acw):0<(allT acw).length:=by
 unfold allT;rw [aD,Cw hn];split<;>(try split)<;>(try split)<;>omega
theorem AA (hc:qc acw acy):(∀t∈allT acw,eu acw acy<=cE t acw acy)/\0<=eu acw acy/\∃t∈allT acw,cE t acw acy=eu acw acy:=by
 obtain ⟨f,hf⟩:∃f:Nat->Int,f=fun k=>if k<(allT acw).length then cE (gt (allT acw) k) acw acy else 0:=⟨_,rfl⟩
 have hfn:∀k,0<=f k:=fun k=>by
  rw [hf];show 0<=if k<(allT acw).length then cE (gt (allT acw) k) acw acy else 0
  split
  ·rename_i hk;exact OX hc (r9 hc.nm (Cy hk)).1
  ·exact nw _
 have he:∀n,n<=(allT acw).length->nX (fun k=>cE (gt (allT acw) k) acw acy) n=nX f n:=fun n=>by
  induction n with
  | zero=>intro _;rfl
  | succ n ih =>
   intro hn;(have e:f n=cE (gt (allT acw) n) acw acy:=by rw [hf];exact if_pos hn);rw [tF,tF,ih (by omega),e]
 have hl:eu acw acy=nX f (allT acw).length:=he _ (ah _);have hp:=RG hc.nm;obtain ⟨k,hk,e⟩:=OW hfn hp;have SM:∀k,k<(allT acw).length->f k=cE (gt (allT acw) k) acw acy:=fun k hk=>by rw [hf];exact if_pos hk
 refine ⟨fun t ht=>?_,?_,gt (allT acw) k,Cy hk,?_⟩
 ·obtain ⟨j,hj,rfl⟩:=XA ht
  rw [hl,<- SM j hj];exact (Iu hfn hj).1
 ·rw [hl];exact (Iu hfn hp).2
 ·rw [hl,e,SM k hk]
end
end
end Go.Proofs.YthgabkgmkolobaaGreat
