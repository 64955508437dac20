/- Plain: the rooted binary trees of a list of leaves, each once, up to the order of .. -/
import Derived.Test.YthgabkgmkolobaaGreatQ27
set_option maxRecDepth 100000
namespace Go.Proofs.YthgabkgmkolobaaGreat
section
inductive BT (α:Type) where
 | leaf (x:α)
 | node (a b:BT α)
namespace BT
def map {α β:Type} (f:α->β):BT α->BT β
 | leaf x=>leaf (f x)
 | node a b=>node (map f a) (map f b)
def aP {α:Type}:BT α->List α
 | leaf x=>[x]
 | node a b=>aP a++aP b
inductive bU {α:Type}:BT α->BT α->Prop
 | leaf (x:α):bU (leaf x) (leaf x)
 | node {a a' b b':BT α}:bU a a'->bU b b'->bU (node a b) (node a' b')
 | swap {a a' b b':BT α}:bU a a'->bU b b'->bU (node a b) (node b' a')
end BT
section
variable {α β:Type} [Inhabited α] [Inhabited β]
def aZ (p:Nat->Bool) (L:List α) (n:Nat):List α:=((List.range n).filter p).map fun i=>L.getD i default
theorem jy (p:Nat->Bool) (L:List α) (n:Nat):aZ p L (n+1)=aZ p L n++if p n then [L.getD n default] else []:=by
 unfold aZ;rw [zC,wD,cm];congr 1;cases h:p n<;>simp [h]
theorem y9 (f:α->β) (p:Nat->Bool) (L:List α):∀ {n:Nat},n<=L.length->aZ p (L.map f) n=(aZ p L n).map f
 | 0,_=>rfl
 | n+1,h=>by
  rw [jy,jy,cm,y9 f p L (by omega)]
  congr 1
  split
  ·have:n<L.length:=h
   simp [this]
  ·rfl
theorem k8 (p:Nat->Bool) (L:List α):∀ {n:Nat},n<=L.length->(aZ p L n++aZ (fun i=>!p i) L n).Perm (L.take n)
 | 0,_=>by simp [aZ]
 | n+1,h=>by
  have hn:n<L.length:=h
  have ih:=k8 p L (n:=n) (by omega)
  rw [jy,jy,jo hn]
  have hg:L.getD n default=L[n]:=by simp [hn]
  rw [hg]
  cases hp:p n
  ·simp only [Bool.false_eq_true,if_false,fM,Bool.not_false,if_true]
   rw [<- bZ]
   exact ih.append_right _
  ·simp only [if_true,Bool.not_true,Bool.false_eq_true,if_false,fM]
   refine List.Perm.trans ?_ (ih.append_right _)
   rw [bZ,bZ]
   exact List.Perm.append_left _ oo
theorem gO {p:Nat->Bool} {L:List α} {n:Nat} {x:α}:x∈aZ p L n↔∃i,i<n/\p i=true/\L.getD i default=x:=by
 unfold aZ;rw [di];constructor
 ·rintro ⟨i,hi,h⟩
  rw [ny,cU] at hi;exact ⟨i,hi.1,hi.2,h⟩
 ·rintro ⟨i,h1,h2,h3⟩
  exact ⟨i,ny.2 ⟨cU.2 h1,h2⟩,h3⟩
theorem k9 {p q:Nat->Bool} {L:List α} {n:Nat} (h:∀i,i<n->p i=q i):aZ p L n=aZ q L n:=by
 unfold aZ;congr 1;exact List.filter_congr fun i hi=>h i (cU.1 hi)
theorem kE (p:Nat->Bool) (L:List α) (n:Nat):(aZ p L n).length<=n:=by
 unfold aZ;rw [aD];exact aR (tW _ _) (by simp)
theorem KH (p:Nat->Bool):∀n:Nat,∃b,b<2 ^ n/\∀i,i<n->b.testBit i=p i
 | 0=>⟨0,by simp,fun i h=>by omega⟩
 | n+1=>by
  obtain ⟨b,h1,h2⟩:=KH p n
  have hb:b.testBit n=false:=Nat.testBit_lt_two_pow h1
  cases hp:p n
  ·refine ⟨b,by rw [Nat.pow_succ];omega,fun i hi=>?_⟩
   by_cases e:i=n
   ·subst e;rw [hb,hp]
   ·exact h2 i (by omega)
  ·refine ⟨2 ^ n+b,by rw [Nat.pow_succ];omega,fun i hi=>?_⟩
   by_cases e:i=n
   ·subst e;rw [Nat.testBit_two_pow_add_eq,hb,hp];rfl
   ·rw [Nat.testBit_two_pow_add_gt (by omega)];exact h2 i (by omega)
def rt:Nat->List α->List (BT α)
 | 0,_=>[]
 | _+1,[]=>[]
 | _+1,[x]=>[.leaf x]
 | d+1,x::y::L=>(List.range' 1 (2 ^ (y::L).length - 1)).flatMap fun bits =>
   (rt d (x::aZ (fun i=>!bits.testBit i) (y::L) (y::L).length)).flatMap fun a =>
    (rt d (aZ (fun i=>bits.testBit i) (y::L) (y::L).length)).map fun b=>.node a b
def rf:Nat->List α->List (BT α)
 | 0,_=>[]
 | _+1,[]=>[]
 | _+1,[x]=>[.leaf x]
 | d+1,x::y::L=>(List.range (2 ^ (y::L).length - 1)).flatMap fun bits =>
   (rf d (x::aZ (fun i=>bits.testBit i) (y::L) (y::L).length)).flatMap fun a =>
    (rf d (aZ (fun i=>!bits.testBit i) (y::L) (y::L).length)).map fun b=>.node a b
theorem q9 {γ δ:Type} {f g:γ->List δ}:∀ {l:List γ},(∀a∈l,(f a).Perm (g a))->(l.flatMap f).Perm (l.flatMap g)
 | [],_=>by simp
 | a::l,h=>by
  rw [fZ,fZ]
  exact (h a (by simp)).append (q9 fun b hb=>h b (by simp [hb]))
theorem xT {γ δ:Type} {f:γ->List δ} {l l':List γ} (h:l.Perm l'):(l.flatMap f).Perm (l'.flatMap f):=by
 induction h with
 | nil=>exact jP _
 | cons x _ ih=>rw [fZ,fZ];exact ih.append_left _
 | swap x y l =>
  simp only [fZ]
  rw [<- bZ,<- bZ]
  exact oo.append_right _
 | trans _ _ h1 h2=>exact h1.trans h2
theorem OQ (m:Nat):(List.range' 1 (m - 1)).Perm ((List.range (m - 1)).map fun k=>m - 1 - k):=by
 have h:(List.range' 1 (m - 1))=((List.range (m - 1)).map fun k=>m - 1 - k).reverse:=by
  apply tU
  ·simp
  ·intro i h1 h2
   simp at h1;simp;omega
 rw [h];exact List.reverse_perm _
theorem Mj:∀(d:Nat) (L:List α),(rt d L).Perm (rf d L)
 | 0,_=>jP _
 | _+1,[]=>jP _
 | _+1,[x]=>jP _
 | d+1,x::y::L=>by
  rw [rt,rf]
  refine List.Perm.trans (xT (OQ _)) ?_
  rw [zw]
  refine q9 fun k hk=>?_
  have hk:=cU.1 hk
  generalize hn:(y::L).length=n at *
  have e1:∀i,i<n->(2 ^ n - 1 - k).testBit i=!k.testBit i:=fun i hi=>by
   have:=Nat.testBit_two_pow_sub_succ (x:=k) (n:=n) (by omega) i
   rw [show 2 ^ n - 1 - k=2 ^ n - (k+1) by omega,this]
   simp [hi]
  rw [k9 (p:=fun i=>!(2 ^ n - 1 - k).testBit i) (q:=fun i=>k.testBit i) fun i hi=>by rw [e1 i hi,Bool.not_not],k9 (p:=fun i=>(2 ^ n - 1 - k).testBit i) (q:=fun i=>!k.testBit i) e1]
  refine List.Perm.trans (xT (Mj d _)) (q9 fun a _=>(Mj d _).map _)
theorem Cv (f:α->β):∀(d:Nat) (L:List α),rt d (L.map f)=(rt d L).map (BT.map f)
 | 0,_=>rfl
 | _+1,[]=>rfl
 | _+1,[x]=>rfl
 | d+1,x::y::L=>by
  rw [bI,bI,rt,rt,tX]
  have hl:(f y::L.map f).length=(y::L).length:=by simp
  rw [hl]
  congr 1
  funext bits
  have e:f y::L.map f=(y::L).map f:=rfl
  rw [e,y9 f _ _ (ah _),y9 f _ _ (ah _),<- bI,Cv f d,Cv f d,tX,zw]
  congr 1
  funext a
  rw [jS,jS]
  rfl
theorem iX:∀(d:Nat) (L:List α),∀r∈rt d L,r.aP.Perm L
 | 0,_=>fun r h=>by cases h
 | _+1,[]=>fun r h=>by cases h
 | _+1,[x]=>fun r h=>by rw [rt,jT] at h;rw [h];exact jP _
 | d+1,x::y::L=>fun r h=>by
  rw [rt,gh] at h
  obtain ⟨bits,hb,h⟩:=h
  rw [gh] at h
  obtain ⟨a,ha,h⟩:=h
  obtain ⟨b,hb2,rfl⟩:=di.1 h
  have h1:=iX d _ a ha
  have h2:=iX d _ b hb2
  have h3:=k8 (fun i=>bits.testBit i) (y::L) (ah _)
  rw [eT] at h3
  rw [BT.aP]
  refine (h1.append h2).trans ?_
  rw [bz]
  exact (oo.trans h3).cons _
end
section
variable {α β:Type}
theorem RD {l:List α} (h:l≠[]):0<l.length:=wG.2 h
theorem vU (r:BT α):r.aP≠[]:=by
 induction r with
 | leaf x=>intro e;cases e
 | node a b ih _=>rw [BT.aP];intro e;exact ih (List.append_eq_nil_iff.1 e).1
theorem bU.perm {r s:BT α} (h:r.bU s):r.aP.Perm s.aP:=by
 induction h with
 | leaf x=>exact jP _
 | node _ _ h1 h2=>exact h1.append h2
 | swap _ _ h1 h2=>exact (h1.append h2).trans oo
theorem bU.refl (r:BT α):r.bU r:=by
 induction r with
 | leaf x=>exact .leaf x
 | node a b h1 h2=>exact .node h1 h2
theorem bU.symm {r s:BT α} (h:r.bU s):s.bU r:=by
 induction h with
 | leaf x=>exact .leaf x
 | node _ _ h1 h2=>exact .node h1 h2
 | swap _ _ h1 h2=>exact .swap h2 h1
theorem Ay {l l':List α} (h1:l.Nodup) (h2:l'.Nodup) (h:∀x,x∈l↔x∈l'):l.Perm l' :=
 (List.perm_ext_iff_of_nodup h1 h2).2 h
end
section
variable {α:Type} [Inhabited α]
theorem getD_inj {L:List α} (hn:L.Nodup) {i j:Nat} (hi:i<L.length) (hj:j<L.length) (h:L.getD i default=L.getD j default):i=j:=by
 have h1:L[i]=L[j]:=by simpa [hi,hj] using h
 have h2:=rK.1 hn;rcases vk i j with h3 | h3 | h3
 ·exact absurd h1 (h2 i j hi hj h3)
 ·exact h3
 ·exact absurd h1.symm (h2 j i hj hi h3)
theorem Ii:∀(d:Nat) (L:List α) (r:BT α),L.length<=d->L.Nodup->r.aP.Perm L->∃s∈rt d L,r.bU s
 | 0,L,r,hd,_,hp=>by
  have:L=[]:=lu (by omega)
  subst this
  exact absurd (List.perm_nil.1 hp) (vU r)
 | _+1,[],r,_,_,hp=>absurd (List.perm_nil.1 hp) (vU r)
 | d+1,[x],r,_,_,hp=>by
  cases r with
  | leaf y =>
   have:y=x:=by simpa [BT.aP] using hp
   subst this
   exact ⟨_,jT.2 rfl,.leaf _⟩
  | node a b =>
   exfalso
   have h1:=hp.length_eq
   rw [BT.aP,bg] at h1
   have h2:=RD (vU a)
   have h3:=RD (vU b)
   simp at h1
   omega
 | d+1,x::y::L,r,hd,hn,hp=>by
  have key:∀a b:BT α,x∈a.aP->(BT.node a b).aP.Perm (x::y::L)->∃s∈rt (d+1) (x::y::L),∃a' b',a.bU a'/\b.bU b'/\s=.node a' b':=by
   classical
   intro a b hx hp
   have gV:=hp.symm.nodup hn
   rw [BT.aP] at hp gV
   have hab:=gy.1 gV
   obtain ⟨bits,b1,b2⟩:=KH (fun i=>decide ((y::L).getD i default∈b.aP)) (y::L).length
   have Ij:(y::L).Nodup:=(gz.1 hn).2
   have hmem:∀z,z∈a.aP++b.aP↔z∈x::y::L:=fun z=>hp.mem_iff
   have Dn:∀z,z∈y::L↔∃i,i<(y::L).length/\(y::L).getD i default=z:=fun z=>by
    constructor
    ·intro hz
     obtain ⟨i,hi,he⟩:=wF hz
     refine ⟨i,hi,?_⟩
     rw [fh,gP hi];exact he
    ·rintro ⟨i,hi,he⟩
     rw [fh,gP hi] at he
     rw [<- he];exact lz hi
   have pn:∀p:Nat->Bool,(aZ p (y::L) (y::L).length).Nodup:=fun p=>by
    have h:=k8 p (y::L) (ah _)
    rw [eT] at h
    exact (gy.1 (h.symm.nodup Ij)).1
   have hB:b.aP.Perm (aZ (fun i=>bits.testBit i) (y::L) (y::L).length):=Ay hab.2.1 (pn _) fun z=>by
    rw [gO]
    constructor
    ·intro hz
     have h1:=(hmem z).1 (zA _ hz)
     rcases bX.1 h1 with rfl | h1
     ·exact absurd rfl (hab.2.2 _ hx _ hz)
     ·obtain ⟨i,hi,he⟩:=(Dn z).1 h1
      exact ⟨i,hi,by rw [b2 i hi,he];exact decide_eq_true hz,he⟩
    ·rintro ⟨i,hi,h1,h2⟩
     rw [b2 i hi,h2] at h1
     exact of_decide_eq_true h1
   have hA:a.aP.Perm (x::aZ (fun i=>!bits.testBit i) (y::L) (y::L).length):=Ay hab.1 (gz.2 ⟨fun h=>by
     obtain ⟨i,hi,_,he⟩:=gO.1 h
     exact (gz.1 hn).1 ((Dn x).2 ⟨i,hi,he⟩),pn _⟩) fun z=>by
    rw [bX,gO]
    constructor
    ·intro hz
     have h1:=(hmem z).1 (zy _ hz)
     rcases bX.1 h1 with rfl | h1
     ·exact .inl rfl
     ·obtain ⟨i,hi,he⟩:=(Dn z).1 h1
      refine .inr ⟨i,hi,?_,he⟩
      rw [b2 i hi,he,Bool.not_eq_true']
      exact decide_eq_false fun h=>hab.2.2 _ hz _ h rfl
    ·rintro (rfl | ⟨i,hi,h1,h2⟩)
     ·exact hx
     ·have h3:=(hmem z).2 (tY _ ((Dn z).2 ⟨i,hi,h2⟩))
      rcases cu.1 h3 with h3 | h3
      ·exact h3
      ·rw [b2 i hi,h2,Bool.not_eq_true'] at h1
       exact absurd h3 (of_decide_eq_false h1)
   have jg:=kE (fun i=>!bits.testBit i) (y::L) (y::L).length
   have hl2:=kE (fun i=>bits.testBit i) (y::L) (y::L).length
   have hlB:=hB.length_eq
   have hlA:=hA.length_eq
   have hlP:=hp.length_eq
   have hpa:=RD (vU b)
   rw [bg] at hlP
   simp only [aO] at hd hlP hlA jg hl2 hlB
   obtain ⟨a',ha,sa⟩:=Ii d _ a (by simp only [aO];omega) (hA.nodup hab.1) hA
   obtain ⟨b',hb,sb⟩:=Ii d _ b (by simp only [aO];omega) (hB.nodup hab.2.1) hB
   refine ⟨.node a' b',?_,a',b',sa,sb,rfl⟩
   rw [rt,gh]
   refine ⟨bits,?_,gh.2 ⟨a',ha,di.2 ⟨b',hb,rfl⟩⟩⟩
   rw [List.mem_range'_1]
   refine ⟨?_,by omega⟩
   rcases zG bits with e | e
   ·exfalso
    subst e
    have:aZ (fun i=>(0:Nat).testBit i) (y::L) (y::L).length=[]:=by
     unfold aZ
     simp
    rw [this] at hB
    exact vU b (List.perm_nil.1 hB)
   ·exact e
  cases r with
  | leaf z=>exact absurd hp.length_eq (by simp [BT.aP])
  | node a b =>
   have hx:x∈a.aP++b.aP:=hp.symm.mem_iff.1 (by simp)
   rcases cu.1 hx with hx | hx
   ·obtain ⟨s,hs,a',b',h1,h2,rfl⟩:=key a b hx hp
    exact ⟨_,hs,.node h1 h2⟩
   ·obtain ⟨s,hs,a',b',h1,h2,rfl⟩:=key b a hx (oo.trans hp)
    exact ⟨_,hs,.swap h2 h1⟩
theorem Ik:∀(d:Nat) (L:List α) (r s:BT α),L.Nodup->r∈rt d L->s∈rt d L->r.bU s->r=s
 | 0,_,_,_,_,h,_,_=>by cases h
 | _+1,[],_,_,_,h,_,_=>by cases h
 | _+1,[x],r,s,_,h1,h2,_=>by
  rw [rt,jT] at h1 h2;rw [h1,h2]
 | d+1,x::y::L,r,s,hn,h1,h2,hs=>by
  rw [rt,gh] at h1 h2
  obtain ⟨k1,_,h1⟩:=h1
  obtain ⟨k2,_,h2⟩:=h2
  obtain ⟨a1,ha1,h1⟩:=gh.1 h1
  obtain ⟨a2,ha2,h2⟩:=gh.1 h2
  obtain ⟨b1,hb1,rfl⟩:=di.1 h1
  obtain ⟨b2,hb2,rfl⟩:=di.1 h2
  have la1:=iX d _ _ ha1
  have la2:=iX d _ _ ha2
  have lb1:=iX d _ _ hb1
  have lb2:=iX d _ _ hb2
  have Ij:(y::L).Nodup:=(gz.1 hn).2
  have nx:∀p:Nat->Bool,x∉aZ p (y::L) (y::L).length:=fun p h=>by
   obtain ⟨i,hi,_,he⟩:=gO.1 h
   rw [fh,gP hi] at he
   exact (gz.1 hn).1 (by rw [<- he];exact lz hi)
  have pn:∀p:Nat->Bool,(aZ p (y::L) (y::L).length).Nodup:=fun p=>by
   have h:=k8 p (y::L) (ah _)
   rw [eT] at h
   exact (gy.1 (h.symm.nodup Ij)).1
  have h3:a1.bU a2/\b1.bU b2:=by
   cases hs with
   | node h1 h2=>exact ⟨h1,h2⟩
   | swap h1 h2 =>
    exfalso
    have:=(bU.perm h1).symm.trans la1
    exact nx _ (lb2.mem_iff.1 (this.symm.mem_iff.1 (by simp)))
  have h4:∀i,i<(y::L).length->k1.testBit i=k2.testBit i:=fun i hi=>by
   have hp:=(lb1.symm.trans (bU.perm h3.2)).trans lb2
   have hm:=hp.mem_iff (a:=(y::L).getD i default)
   rw [gO,gO] at hm
   have hq:∀k:Nat,(∃j,j<(y::L).length/\k.testBit j=true/\(y::L).getD j default=(y::L).getD i default)↔k.testBit i=true:=fun k=>by
    constructor
    ·rintro ⟨j,hj,h5,h6⟩
     rw [<- getD_inj Ij hj hi h6];exact h5
    ·intro h;exact ⟨i,hi,h,rfl⟩
   rw [hq,hq] at hm
   exact nv.2 hm
  rw [k9 (p:=fun i=>!k1.testBit i) (q:=fun i=>!k2.testBit i) fun i hi=>by rw [h4 i hi]] at ha1
  rw [k9 (p:=fun i=>k1.testBit i) (q:=fun i=>k2.testBit i) h4] at hb1
  have hA:(x::aZ (fun i=>!k2.testBit i) (y::L) (y::L).length).Nodup:=gz.2 ⟨nx _,pn _⟩
  rw [Ik d _ a1 a2 hA ha1 ha2 h3.1,Ik d _ b1 b2 (pn _) hb1 hb2 h3.2]
theorem Bi:∀(d:Nat) (L:List α),L.Nodup->(rt d L).Nodup
 | 0,_,_=>List.nodup_nil
 | _+1,[],_=>List.nodup_nil
 | _+1,[x],_=>by rw [rt];simp
 | d+1,x::y::L,hn=>by
  have Ij:(y::L).Nodup:=(gz.1 hn).2
  have nx:∀p:Nat->Bool,x∉aZ p (y::L) (y::L).length:=fun p h=>by
   obtain ⟨i,hi,_,he⟩:=gO.1 h
   rw [fh,gP hi] at he
   exact (gz.1 hn).1 (by rw [<- he];exact lz hi)
  have pn:∀p:Nat->Bool,(aZ p (y::L) (y::L).length).Nodup:=fun p=>by
   have h:=k8 p (y::L) (ah _)
   rw [eT] at h
   exact (gy.1 (h.symm.nodup Ij)).1
  rw [rt]
  refine List.pairwise_flatMap.2 ⟨fun k _=>List.pairwise_flatMap.2 ⟨fun a _=>?_,?_⟩,?_⟩
  ·rw [List.pairwise_map]
   exact (Bi d _ (pn _)).imp fun h e=>h (by injection e)
  ·refine (Bi d _ (gz.2 ⟨nx _,pn _⟩)).imp fun hab z h1 z' h2 e=>?_
   obtain ⟨b1,_,rfl⟩:=di.1 h1
   obtain ⟨b2,_,rfl⟩:=di.1 h2
   injection e with e1 e2
   exact hab e1
  ·refine List.Pairwise.imp_of_mem ?_ (List.pairwise_lt_range' (s:=1) (n:=2 ^ (y::L).length - 1))
   intro k1 k2 m1 m2 hk z h1 z' h2 e
   subst e
   obtain ⟨a1,ha1,h1⟩:=gh.1 h1
   obtain ⟨a2,ha2,h2⟩:=gh.1 h2
   obtain ⟨b1,hb1,rfl⟩:=di.1 h1
   obtain ⟨b2,hb2,e⟩:=di.1 h2
   injection e with e1 e2
   subst e1;subst e2
   have hp:=(iX d _ _ hb1).symm.trans (iX d _ _ hb2)
   have h4:∀i,i<(y::L).length->k1.testBit i=k2.testBit i:=fun i hi=>by
    have hm:=hp.mem_iff (a:=(y::L).getD i default)
    rw [gO,gO] at hm
    have hq:∀k:Nat,(∃j,j<(y::L).length/\k.testBit j=true/\(y::L).getD j default=(y::L).getD i default)↔k.testBit i=true:=fun k=>by
     constructor
     ·rintro ⟨j,hj,h5,h6⟩
      rw [<- getD_inj Ij hj hi h6];exact h5
     ·intro h;exact ⟨i,hi,h,rfl⟩
    rw [hq,hq] at hm
    exact nv.2 hm
   rw [List.mem_range'_1] at m1 m2
   have:k1=k2:=Nat.eq_of_testBit_eq fun i=>by
    by_cases hi:i<(y::L).length
    ·exact h4 i hi
    ·have hb:∀k:Nat,k<2 ^ (y::L).length->k.testBit i=false:=fun k hk=>Nat.testBit_lt_two_pow (mm hk (x9 (by decide) (by omega)))
     rw [hb k1 (by omega),hb k2 (by omega)]
   omega
end
end
section
def dy:BT ByteArray->RT
 | .leaf x=>.node x []
 | .node a b=>.node ByteArray.empty [dy a,dy b]
theorem zS:∀r:BT ByteArray,aK (dy r)+1=2*r.aP.length
 | .leaf x=>by simp [dy,BT.aP,aK,aU]
 | .node a b=>by
  have h1:=zS a
  have h2:=zS b
  simp only [dy,BT.aP,aK,aU,bg]
  omega
theorem Dp:∀r:BT ByteArray,(∀x∈r.aP,x.size≠0)->gH (dy r)=r.aP
 | .leaf x,h=>Me (h x (by simp [BT.aP]))
 | .node a b,h=>by
  rw [dy,wZ rfl,fZ,fZ,List.flatMap_nil,fM,BT.aP]
  rw [Dp a fun x hx=>h x (by rw [BT.aP];exact zy _ hx),Dp b fun x hx=>h x (by rw [BT.aP];exact zA _ hx)]
theorem Dq:∀r:BT ByteArray,(∀x∈r.aP,bu x.data.toList=true)->∀s∈bW (dy r),GN s
 | .leaf x,h,s,hs=>by
  rw [dy,bW,dh,jT] at hs
  subst hs
  exact ⟨fun e=>absurd rfl e,fun _=>h x (by simp [BT.aP]),by simp [RT.kids]⟩
 | .node a b,h,s,hs=>by
  rw [dy,bW,dh,dh,dh,fM,bX,cu] at hs
  rcases hs with rfl | hs | hs
  ·exact ⟨fun _=>rfl,(fun e=>by cases e),by simp [RT.kids]⟩
  ·exact Dq a (fun x hx=>h x (by rw [BT.aP];exact zy _ hx)) s hs
  ·exact Dq b (fun x hx=>h x (by rw [BT.aP];exact zA _ hx)) s hs
structure oZ (r:BT ByteArray):Prop where
 nd:r.aP.Nodup
 nm:∀x∈r.aP,bu x.data.toList=true
theorem oZ.left {a b:BT ByteArray} (h:oZ (.node a b)):oZ a:=⟨(gy.1 h.nd).1,fun x hx=>h.nm x (zy _ hx)⟩
theorem oZ.right {a b:BT ByteArray} (h:oZ (.node a b)):oZ b:=⟨(gy.1 h.nd).2.1,fun x hx=>h.nm x (zA _ hx)⟩
theorem oZ.sz {r:BT ByteArray} (h:oZ r):∀x∈r.aP,x.size≠0:=fun x hx=>rP (h.nm x hx)
theorem oZ.leaf {r:BT ByteArray} (h:oZ r):gH (dy r)=r.aP:=Dp r h.sz
theorem oZ.KI {r:BT ByteArray} (h:oZ r):S3 (dy r):=⟨by rw [h.leaf];exact h.nd,Dq r h.nm⟩
theorem Xv {r s:BT ByteArray} (hs:r.bU s):oZ r->aY (dy r)=aY (dy s):=by
 induction hs with
 | leaf x=>intro _;rfl
 | @node a a' b b' h1 h2 i1 i2 =>
  intro h
  rw [dy,dy]
  refine ES ?_ h.KI.good
  rw [bI,bI,bI,bI,i1 h.left,i2 h.right]
 | @swap a a' b b' h1 h2 i1 i2 =>
  intro h
  rw [dy,dy]
  refine ES ?_ h.KI.good
  rw [bI,bI,bI,bI,i1 h.left,i2 h.right]
  exact List.Perm.swap _ _ _
theorem Th (a b:BT ByteArray):bF (dy (.node a b))=40::(bF (dy a)++(44::bF (dy b))++[41]):=by
 rw [dy,bF,cH,cH,fM]
def cr (r:RT):List UInt8:=bF r++[59]
def Bj (a:RT):List RT->List RT
 | []=>[a]
 | b::l=>if Lib.compareBytes (cr b) (cr a)<=0 then b::Bj a l else a::b::l
def Mk:List RT->List RT
 | []=>[]
 | a::l=>Bj a (Mk l)
theorem za (a:RT):∀l,(Bj a l).Perm (a::l)
 | []=>jP _
 | b::l=>by
  rw [Bj]
  split
  ·exact ((za a l).cons b).trans (List.Perm.swap a b l)
  ·exact jP _
theorem kF:∀l,(Mk l).Perm l
 | []=>jP _
 | a::l=>(za a _).trans ((kF l).cons a)
def fV (a b:RT):Prop:=Lib.compareBytes (cr a) (cr b)<=0
theorem fV.trans {a b c:RT} (h1:fV a b) (h2:fV b c):fV a c:=by
 unfold fV at *;rw [KF] at *;exact Std.le_trans h1 h2
theorem fV.total {a b:RT} (h:¬fV a b):fV b a:=by
 unfold fV at *;rw [nG];omega
theorem Az (a:RT):∀l:List RT,l.Pairwise fV->(Bj a l).Pairwise fV
 | [],_=>by simp [Bj]
 | b::l,h=>by
  rw [Bj]
  obtain ⟨h1,h2⟩:=wH.1 h
  split
  ·rename_i hb
   refine wH.2 ⟨fun c hc=>?_,Az a l h2⟩
   rcases bX.1 ((za a l).mem_iff.1 hc) with rfl | hc
   ·exact hb
   ·exact h1 c hc
  ·rename_i hb
   have hab:fV a b:=fV.total hb
   refine wH.2 ⟨fun c hc=>?_,h⟩
   rcases bX.1 hc with rfl | hc
   ·exact hab
   ·exact hab.trans (h1 c hc)
theorem uY:∀l:List RT,(Mk l).Pairwise fV
 | []=>List.Pairwise.nil
 | a::l=>Az a _ (uY l)
theorem fV.anti {a b:RT} (ha:l8 a) (hb:l8 b) (h1:fV a b) (h2:fV b a):a=b:=by
 unfold fV at *;have h3:=nG (cr a) (cr b);have h4:cr a=cr b:=pI (by omega);exact OA ha hb (List.append_cancel_right h4)
theorem xx:∀ {l m:List RT},l.Perm m->l.Pairwise fV->m.Pairwise fV->(∀r∈l,l8 r)->l=m
 | [],m,h,_,_,_=>(List.nil_perm.1 h).symm
 | a::l,[],h,_,_,_=>absurd (List.perm_nil.1 h) (by simp)
 | a::l,b::m,h,h1,h2,ho=>by
  obtain ⟨a1,a2⟩:=wH.1 h1
  obtain ⟨b1,b2⟩:=wH.1 h2
  have e:a=b:=by
   have hb:b∈a::l:=h.mem_iff.2 (by simp)
   have ha:a∈b::m:=h.mem_iff.1 (by simp)
   rcases bX.1 hb with hb' | hb'
   ·exact hb'.symm
   rcases bX.1 ha with ha' | ha'
   ·exact ha'
   exact fV.anti (ho a (by simp)) (ho b hb) (a1 b hb') (b1 a ha')
  subst e
  rw [xx ((List.perm_cons a).1 h) a2 b2 fun r hr=>ho r (by simp [hr])]
def uB (acw:List ByteArray) (r:BT ByteArray):BT ByteArray:=.node (.leaf (gs acw 0)) r
def uR (acw:List ByteArray) (r:BT ByteArray):RT:=aY (dy (uB acw r))
def bQ (acw:List ByteArray):List RT:=Mk ((rt acw.length acw.tail).map (uR acw))
def allT (acw:List ByteArray):List aF:=(bQ acw).map flat
structure dU (acw:List ByteArray):Prop where
 lo:2<=acw.length
 hi:acw.length<=5
 nm:∀x∈acw,bu x.data.toList=true
 nd:acw.Nodup
theorem dU.cons {acw:List ByteArray} (h:dU acw):gs acw 0::acw.tail=acw:=by
 have:=h.lo;cases acw with
 | nil=>simp at this
 | cons a l=>rfl
theorem mF {acw:List ByteArray} (h:dU acw) {r:BT ByteArray} (hr:r.aP.Perm acw.tail):(uB acw r).aP.Perm acw:=by
 have h1:(uB acw r).aP=gs acw 0::r.aP:=rfl;rw [h1];exact (hr.cons _).trans (List.Perm.of_eq h.cons)
theorem Ml {acw:List ByteArray} (h:dU acw) {r:BT ByteArray} (hr:r.aP.Perm acw.tail):oZ (uB acw r) :=
 ⟨(mF h hr).symm.nodup h.nd,fun x hx=>h.nm x ((mF h hr).mem_iff.1 hx)⟩
theorem qa {acw:List ByteArray} {q:RT}:q∈bQ acw↔∃r∈rt acw.length acw.tail,uR acw r=q:=by
 unfold bQ;rw [(kF _).mem_iff,di]
theorem RF (acw:List ByteArray):(bQ acw).length=(rt acw.length acw.tail).length:=by
 unfold bQ;rw [(kF _).length_eq,aD]
theorem dU.Dr {acw:List ByteArray} (h:dU acw):acw.tail.Nodup:=by
 have:=h.nd;rw [<- h.cons] at this;exact (gz.1 this).2
theorem gI {acw:List ByteArray} (h:dU acw) {q:RT} (hq:q∈bQ acw):S3 q/\(gH q).Perm acw/\aK q+1=2*acw.length/\aY q=q/\aB (flat q)=0/\qX (flat q)=flat q:=by
 obtain ⟨r,hr,rfl⟩:=qa.1 hq;have hl:=iX _ _ _ hr;have ho:=Ml h hl;have hs:=zS (uB acw r);have hpl:=(mF h hl).length_eq;have hhi:=h.hi;have hz:aK (uR acw r)+1=2*acw.length:=by unfold uR;rw [LQ];omega
 have hg:kP (uR acw r):=ho.KI.good.sort;have h2:aY (uR acw r)=uR acw r:=wV _;have ht:=yJ hg (by omega);refine ⟨⟨(rR _).symm.nodup ho.KI.nd,fun s hs=>?_⟩,?_,hz,h2,ht,by rw [yH ht,l5,h2]⟩
 ·obtain ⟨u,hu,rfl⟩:=di.1 ((l6 _).mem_iff.1 hs)
  obtain ⟨p1,p2,p3⟩:=ho.KI.pt u hu;rw [GN,rQ,sX,(mZ _).length_eq,aD];exact ⟨fun hk=>p1 fun e=>hk (kQ.2 e),fun hk=>p2 (kQ.1 hk),p3⟩
 ·refine (rR _).trans ?_
  rw [ho.leaf];exact mF h hl
theorem Cw {acw:List ByteArray} (h:dU acw):(bQ acw).length=if acw.length=2 then 1 else if acw.length=3 then 1 else if acw.length=4 then 3 else 15:=by
 rw [RF];have hlo:=h.lo;have hhi:=h.hi;have e:acw.tail=((List.range' 1 (acw.length - 1)).map fun i=>gs acw i):=by
  apply tU
  ·simp
  ·intro i h1 h2
   simp at h1;simp [gs];rw [gP (by omega)];simp [Nat.add_comm]
 rw [e,Cv,aD];generalize acw.length=n at *;obtain rfl | rfl | rfl | rfl:n=2\/n=3\/n=4\/n=5:=by omega
 ·decide +kernel
 ·decide +kernel
 ·decide +kernel
 ·decide +kernel
end
end Go.Proofs.YthgabkgmkolobaaGreat
