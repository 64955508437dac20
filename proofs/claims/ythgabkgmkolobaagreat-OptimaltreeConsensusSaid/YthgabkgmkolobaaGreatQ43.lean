/- The reference's tree of splits, plain: .. -/
import Derived.Test.YthgabkgmkolobaaGreatQ41
set_option maxRecDepth 100000
namespace Go.Proofs.YthgabkgmkolobaaGreat
section
def wT (l:List (List Int)) (set:List Int) (i:Nat):Bool :=
 !decide (gl l i=set)&&(iV (gl l i) set&&(List.range l.length).all fun k=>!(!decide (gl l k=gl l i)&&(!decide (gl l k=set)&&(iV (gl l i) (gl l k)&&iV (gl l k) set)))&&!(decide (k<i)&&decide (gl l k=gl l i)))
def rK (l:List (List Int)) (set:List Int):Nat->List (List Int)
 | 0=>[]
 | n+1=>rK l set n++if wT l set n then [gl l n] else []
def W5 (a b:List Int):List Int:=a.filter fun x=>!b.contains x
def jb (l:List (List Int)) (set:List Int):Nat->List Int
 | 0=>set
 | n+1=>if wT l set n then W5 (jb l set n) (gl l n) else jb l set n
def kj (amd:List ByteArray) (x:Int):RT:=.node (gs amd x.toNat) []
def jv (amd:List ByteArray) (l:List (List Int)):Nat->List Int->RT
 | 0,_=>.node ByteArray.empty []
 | d+1,set=>if set.length=1 then kj amd (gi set 0) else .node ByteArray.empty ((rK l set l.length).map (jv amd l d)++(jb l set l.length).map (kj amd))
theorem I5 {a b:List Int} {x:Int}:x∈W5 a b↔x∈a/\x∉b:=by
 unfold W5;rw [gP];constructor
 ·rintro ⟨h1,h2⟩
  exact ⟨h1,fun h=>by rw [dU.2 h] at h2;cases h2⟩
 ·rintro ⟨h1,h2⟩
  refine ⟨h1,?_⟩;cases e:b.contains x with
  | false=>rfl
  | true=>exact absurd (dU.1 e) h2
theorem LQ {l:List (List Int)} {set s:List Int}:∀ {n:Nat},s∈rK l set n↔∃i,i<n/\wT l set i=true/\s=gl l i
 | 0=>⟨fun h=>(by cases h),fun ⟨i,h,_⟩=>by omega⟩
 | n+1=>by
  rw [rK,ey,LQ]
  constructor
  ·rintro (⟨i,h1,h2⟩ | h)
   ·exact ⟨i,by omega,h2⟩
   ·split at h
    ·rename_i hb;exact ⟨n,by omega,hb,cN.1 h⟩
    ·cases h
  ·rintro ⟨i,h1,h2,h3⟩
   by_cases e:i=n
   ·subst e;right;rw [if_pos h2,h3];exact cN.2 rfl
   ·left;exact ⟨i,by omega,h2,h3⟩
theorem yy {l:List (List Int)} {set:List Int} {x:Int}:∀ {n:Nat},x∈jb l set n↔x∈set/\∀i,i<n->wT l set i=true->x∉gl l i
 | 0=>⟨fun h=>⟨h,fun i hi=>by omega⟩,fun h=>h.1⟩
 | n+1=>by
  rw [jb]
  split
  ·rename_i hb
   rw [I5,yy]
   constructor
   ·rintro ⟨⟨h1,h2⟩,h3⟩
    refine ⟨h1,fun i hi hg=>?_⟩
    by_cases e:i=n
    ·subst e;exact h3
    ·exact h2 i (by omega) hg
   ·rintro ⟨h1,h2⟩
    exact ⟨⟨h1,fun i hi=>h2 i (by omega)⟩,h2 n (by omega) hb⟩
  ·rename_i hb
   rw [yy]
   constructor
   ·rintro ⟨h1,h2⟩
    refine ⟨h1,fun i hi hg=>?_⟩
    by_cases e:i=n
    ·subst e;exact absurd hg hb
    ·exact h2 i (by omega) hg
   ·rintro ⟨h1,h2⟩
    exact ⟨h1,fun i hi=>h2 i (by omega)⟩
theorem CL {l:List (List Int)} {set:List Int} (h:set.Pairwise (· < ·)):∀n:Nat,(jb l set n).Pairwise (· < ·)
 | 0=>h
 | n+1=>by
  rw [jb]
  split
  ·exact (CL h n).filter _
  ·exact CL h n
theorem yz {l:List (List Int)} {set:List Int} {i:Nat}:wT l set i=true↔gl l i≠set/\(∀x∈gl l i,x∈set)/\∀k,k<l.length->(gl l k≠gl l i->gl l k≠set->(∀x∈gl l i,x∈gl l k)->¬∀x∈gl l k,x∈set)/\(k<i->gl l k≠gl l i):=by
 unfold wT;rw [eF,eF,s8,pR,zV,decide_eq_false_iff_not];refine and_congr Iff.rfl (and_congr Iff.rfl ⟨fun h k hk=>?_,fun h k hk=>?_⟩)
 ·have h1:=h k (bu.2 hk)
  rw [eF,zV,zV] at h1;refine ⟨fun a b c d=>?_,fun a b=>?_⟩
  ·have e:=h1.1
   rw [decide_eq_false a,decide_eq_false b,pR.2 c,pR.2 d] at e;cases e
  ·have e:=h1.2
   rw [decide_eq_true a,decide_eq_true b] at e;cases e
 ·obtain ⟨h1,h2⟩:=h k (bu.1 hk)
  rw [eF,zV,zV];constructor
  ·by_cases a:gl l k=gl l i
   ·rw [decide_eq_true a];rfl
   by_cases b:gl l k=set
   ·rw [decide_eq_false a,decide_eq_true b];rfl
   cases c:iV (gl l i) (gl l k) with
   | false=>rw [decide_eq_false a,decide_eq_false b];rfl
   | true =>
    cases d:iV (gl l k) set with
    | false=>rw [decide_eq_false a,decide_eq_false b];rfl
    | true=>exact absurd (pR.1 d) (h1 a b (pR.1 c))
  ·by_cases a:k<i
   ·rw [decide_eq_true a,decide_eq_false (h2 a)];rfl
   ·rw [decide_eq_false a];rfl
structure DK (l:List (List Int)):Prop where
 jM:∀s∈l,s.Pairwise (· < ·)/\2<=s.length
 cmp:∀a∈l,∀b∈l,(∀x∈a,x∉b)\/(∀x∈a,x∈b)\/∀x∈b,x∈a
theorem SE (P:Nat->Prop):∀n,(∃i,i<n/\P i)->∃i,i<n/\P i/\∀k,k<i->¬P k
 | 0,⟨i,h,_⟩=>by omega
 | n+1,⟨i,h,hp⟩=>by
  by_cases e:∃j,j<n/\P j
  ·obtain ⟨j,h1,h2⟩:=SE P n e
   exact ⟨j,by omega,h2⟩
  ·refine ⟨i,h,hp,fun k hk hq=>e ⟨k,by omega,hq⟩⟩
section
variable {l:List (List Int)} {set:List Int} {amd:List ByteArray}
theorem adk (h:DK l) {i j:Nat} (hi:i<l.length) (hj:j<l.length) (h1:wT l set i=true) (h2:wT l set j=true) (hne:i≠j):∀x∈gl l i,x∉gl l j:=by
 obtain ⟨a1,a2,a3⟩:=yz.1 h1;obtain ⟨b1,b2,b3⟩:=yz.1 h2;have hd:gl l i≠gl l j:=by
  rcases Nat.lt_or_gt_of_ne hne with c | c
  ·exact (b3 i hi).2 c
  ·exact fun e=>(a3 j hj).2 c e.symm
 rcases h.cmp _ (lI hi) _ (lI hj) with c | c | c
 ·exact c
 ·exact absurd b2 ((a3 j hj).1 (fun e=>hd e.symm) b1 c)
 ·exact absurd a2 ((b3 i hi).1 hd a1 c)
theorem SF (h:DK l) (hs:set.Pairwise (· < ·)):∀(d:Nat) (s:List Int),set.length - s.length<=d->s∈l->s≠set->(∀x∈s,x∈set)->∃i,i<l.length/\wT l set i=true/\∀x∈s,x∈gl l i
 | d,s,hd,hm,hne,hsub=>by
  by_cases c:∃u∈l,u≠s/\u≠set/\(∀x∈s,x∈u)/\∀x∈u,x∈set
  ·obtain ⟨u,u1,u2,u3,u4,u5⟩:=c
   have l1:=gu (h.jM s hm).1 (h.jM u u1).1 u4
   have l2:=gu (h.jM u u1).1 hs u5
   have l3:s.length≠u.length:=fun e=>u2 (rZ (h.jM u u1).1 (h.jM s hm).1 fun x=>⟨pJ (h.jM s hm).1 (h.jM u u1).1 u4 e x,u4 x⟩)
   cases d with
   | zero=>omega
   | succ d =>
    obtain ⟨i,i1,i2,i3⟩:=SF h hs d u (by omega) u1 u3 u5
    exact ⟨i,i1,i2,fun x hx=>i3 x (u4 x hx)⟩
  ·obtain ⟨k0,nj,e0⟩:=Ds hm
   obtain ⟨i,i1,i2,i3⟩:=SE (fun i=>gl l i=s) l.length ⟨k0,nj,e0⟩
   refine ⟨i,i1,yz.2 ⟨by rw [i2];exact hne,by rw [i2];exact hsub,fun k hk=>⟨fun a b c1 d1=>?_,fun a=>by rw [i2];exact i3 k a⟩⟩,by rw [i2];exact fun x hx=>hx⟩
   rw [i2] at a c1
   exact c ⟨gl l k,lI hk,a,b,c1,d1⟩
theorem adl {a b:List Int} (ha:a.Nodup) (hb:b.Nodup) (h:∀x∈b,x∈a):(b++W5 a b).Perm a:=by
 refine (Eo ?_ ha).2 fun x=>?_
 ·rw [ua]
  exact ⟨hb,ha.filter _,fun x hx y hy e=>(I5.1 hy).2 (by rw [<- e];exact hx)⟩
 ·rw [ey,I5]
  constructor
  ·rintro (c | c)
   ·exact h x c
   ·exact c.1
  ·intro c
   by_cases d:x∈b
   ·exact .inl d
   ·exact .inr ⟨c,d⟩
theorem LR (h:DK l) (hs:set.Pairwise (· < ·)):∀n,n<=l.length->((rK l set n).flatMap id++jb l set n).Perm set
 | 0,_=>by rw [rK,jb];exact mM _
 | n+1,hn=>by
  have ih:=LR h hs n (by omega)
  rw [rK,jb]
  split
  ·rename_i hb
   rw [qq,dS]
   show ((rK l set n).flatMap id++(List.flatMap id [gl l n]++_)).Perm _
   rw [gj,List.flatMap_nil,eG]
   refine List.Perm.trans (List.Perm.append_left _ ?_) ih
   refine adl (Fi (CL hs n)) (Fi (h.jM _ (lI (show n<l.length by omega))).1) fun x hx=>yy.2 ⟨(yz.1 hb).2.1 x hx,fun i hi hg hm=>?_⟩
   exact adk h (by omega) (by omega) hg hb (by omega) x hm hx
  ·rw [eG];exact ih
theorem DL {Y:List Int} (h0:∀x∈Y,0<=x) {y:ByteArray}:y∈Y.map (fun x=>gs amd x.toNat)↔∃b:Nat,(b:Int)∈Y/\y=gs amd b:=by
 rw [bI];constructor
 ·rintro ⟨x,hx,rfl⟩
  obtain ⟨b,rfl⟩:=oa (h0 x hx);exact ⟨b,hx,by rw [fc]⟩
 ·rintro ⟨b,hb,rfl⟩
  exact ⟨b,hb,by rw [fc]⟩
theorem rL {x:Int} (h:bq (gs amd x.toNat).data.toList=true):bM (kj amd x)=[gs amd x.toNat]:=nA (gK h)
theorem r7 {x:Int} {s:RT}:s∈bh (kj amd x)↔s=kj amd x:=by
 unfold kj;rw [bh,dO,cN]
theorem rM {nm:ByteArray} {ks:List RT} {s:RT}:s∈bh (.node nm ks)↔s=.node nm ks\/∃k∈ks,s∈bh k:=by
 rw [bh,pH,bA,iA]
theorem I6 {x:Int} (h:bq (gs amd x.toNat).data.toList=true):rz (kj amd x):=⟨fun e=>absurd rfl e,fun _=>h,by simp [kj,RT.kids]⟩
theorem aak (h:DK l) (hs:set.Pairwise (· < ·)) {d:Nat} (h1:∀s∈rK l set l.length,(bM (jv amd l d s)).Perm (s.map fun x=>gs amd x.toNat)) (hnm:∀x∈set,bq (gs amd x.toNat).data.toList=true) :
  (bM (.node ByteArray.empty ((rK l set l.length).map (jv amd l d)++(jb l set l.length).map (kj amd)))).Perm (set.map fun x=>gs amd x.toNat):=by
 rw [iX rfl,qq,CQ,CQ];have e2:(jb l set l.length).flatMap (fun a=>bM (kj amd a))=(jb l set l.length).map fun x=>gs amd x.toNat:=by rw [<- List.flatMap_singleton' ((jb l set l.length).map fun x=>gs amd x.toNat),CQ];refine jV fun x hx=>?_;exact rL (hnm x (yy.1 hx).1)
 have e3:((rK l set l.length).flatMap fun s=>s.map fun x=>gs amd x.toNat)=((rK l set l.length).flatMap id).map fun x=>gs amd x.toNat:=by rw [CS];rfl
 rw [e2];refine ((E4 _ h1).append_right _).trans ?_;rw [e3,<- cg];exact (LR h hs _ (ah _)).map _
theorem aal (h:DK l) (hnm:∀k,k<amd.length->bq (gs amd k).data.toList=true):∀(d:Nat) (set:List Int),set.length<=d->set≠[]->set.Pairwise (· < ·)->(∀x∈set,0<=x/\x<(amd.length:Int)) ->
  (bM (jv amd l d set)).Perm (set.map fun x=>gs amd x.toNat)/\(∀s∈bh (jv amd l d set),rz s) /\
  ∀X:ByteArray->Prop,QF (jv amd l d set) X↔∃Y:List Int,(Y=set\/(Y∈l/\∀x∈Y,x∈set)\/∃x∈set,Y=[x])/\∀y,X y↔∃b:Nat,(b:Int)∈Y/\y=gs amd b
 | 0,set,hd,hne,_,_=>absurd (od (by omega)) hne
 | d+1,set,hd,hne,hs,hb=>by
  have hnx:∀x∈set,bq (gs amd x.toNat).data.toList=true:=fun x hx=>hnm _ (by have:=hb x hx;omega)
  rw [jv]
  by_cases h1:set.length=1
  ·rw [if_pos h1]
   obtain ⟨x,rfl⟩:=zZ.1 h1
   show (bM (kj amd x)).Perm _/\(∀s∈bh (kj amd x),rz s)/\_
   have hx:=hnx x (by simp)
   refine ⟨by rw [rL hx];exact mM _,fun s hs=>by rw [r7.1 hs];exact I6 hx,fun X=>?_⟩
   have hL:∀y,y∈bM (kj amd x)↔∃b:Nat,(b:Int)∈[x]/\y=gs amd b:=fun y=>by
    rw [rL hx,<- DL (fun z hz=>(hb z hz).1)];rfl
   constructor
   ·rintro ⟨s,hs,hX⟩
    rw [r7.1 hs] at hX
    exact ⟨[x],.inl rfl,fun y=>(hX y).trans (hL y)⟩
   ·rintro ⟨Y,hY,hX⟩
    have hYx:Y=[x]:=by
     rcases hY with hY | ⟨hY,hsub⟩ | ⟨z,hz,hY⟩
     ·exact hY
     ·have:=gu (h.jM Y hY).1 hs hsub
      have:=(h.jM Y hY).2
      simp at h1
      rw [z8] at *
      omega
     ·rw [hY,cN.1 hz]
    subst hYx
    exact ⟨kj amd x,r7.2 rfl,fun y=>(hX y).trans (hL y).symm⟩
  ·rw [if_neg h1]
   have h2:2<=set.length:=by
    have:=z7.2 hne;omega
   have hgr:∀s∈rK l set l.length,s∈l/\s≠set/\(∀x∈s,x∈set)/\s.length<set.length/\s≠[]:=fun s hm=>by
    obtain ⟨i,i1,i2,rfl⟩:=LQ.1 hm
    obtain ⟨a1,a2,_⟩:=yz.1 i2
    have hl:=h.jM _ (lI i1)
    have l1:=gu hl.1 hs a2
    have l2:(gl l i).length≠set.length:=fun e=>a1 (rZ hl.1 hs fun x=>⟨a2 x,pJ hl.1 hs a2 e x⟩)
    exact ⟨lI i1,a1,a2,by omega,fun e=>by rw [e] at hl;simp at hl⟩
   have ih:∀s∈rK l set l.length,_:=fun s hm=>by
    obtain ⟨g1,g2,g3,g4,g5⟩:=hgr s hm
    exact aal h hnm d s (by omega) g5 (h.jM s g1).1 (fun x hx=>hb x (g3 x hx))
   have kB:=aak (amd:=amd) h hs (d:=d) (fun s hm=>(ih s hm).1) hnx
   have I7:=LR h hs l.length (ah _)
   have hlf:∀x∈jb l set l.length,x∈set:=fun x hx=>(yy.1 hx).1
   refine ⟨kB,fun s hm=>?_,fun X=>?_⟩
   ·rcases rM.1 hm with rfl | ⟨k,hk,hm⟩
    ·refine ⟨fun _=>rfl,fun e=>?_,fun e=>?_⟩
     ·have e:(rK l set l.length).map (jv amd l d)++(jb l set l.length).map (kj amd)=[]:=e
      rw [e,iX rfl] at kB
      have:=kB.length_eq
      simp at this;omega
     ·have e:((rK l set l.length).map (jv amd l d)++(jb l set l.length).map (kj amd)).length=1:=e
      rw [bg,aD,aD] at e
      have hl:=I7.length_eq
      rw [bg] at hl
      cases hg:rK l set l.length with
      | nil=>rw [hg] at e hl;simp at e hl;omega
      | cons g gs2 =>
       rw [hg] at e hl I7
       have hz:jb l set l.length=[]:=od (by simp at e;omega)
       have hg2:gs2=[]:=od (by simp at e;omega)
       rw [hz,hg2] at I7
       have I7:g.Perm set:=by simpa using I7
       obtain ⟨g1,g2,g3,g4,g5⟩:=hgr g (by rw [hg];simp)
       have:=I7.length_eq
       omega
    ·rcases ey.1 hk with hk | hk
     ·obtain ⟨g,hg,rfl⟩:=bI.1 hk
      exact (ih g hg).2.1 s hm
     ·obtain ⟨x,hx,rfl⟩:=bI.1 hk
      rw [r7.1 hm];exact I6 (hnx x (hlf x hx))
   ·have hL:∀y,y∈bM (.node ByteArray.empty ((rK l set l.length).map (jv amd l d)++(jb l set l.length).map (kj amd)))↔∃b:Nat,(b:Int)∈set/\y=gs amd b:=fun y=>by
     rw [kB.mem_iff];exact DL (fun x hx=>(hb x hx).1)
    constructor
    ·rintro ⟨s,hm,hX⟩
     rcases rM.1 hm with rfl | ⟨k,hk,hm⟩
     ·exact ⟨set,.inl rfl,fun y=>(hX y).trans (hL y)⟩
     ·rcases ey.1 hk with hk | hk
      ·obtain ⟨g,hg,rfl⟩:=bI.1 hk
       obtain ⟨g1,g2,g3,g4,g5⟩:=hgr g hg
       obtain ⟨Y,hY,hX2⟩:=((ih g hg).2.2 X).1 ⟨s,hm,hX⟩
       refine ⟨Y,?_,hX2⟩
       rcases hY with rfl | ⟨y1,y2⟩ | ⟨x,hx,rfl⟩
       ·exact .inr (.inl ⟨g1,g3⟩)
       ·exact .inr (.inl ⟨y1,fun x hx=>g3 x (y2 x hx)⟩)
       ·exact .inr (.inr ⟨x,g3 x hx,rfl⟩)
      ·obtain ⟨x,hx,rfl⟩:=bI.1 hk
       rw [r7.1 hm] at hX
       refine ⟨[x],.inr (.inr ⟨x,hlf x hx,rfl⟩),fun y=>(hX y).trans ?_⟩
       rw [rL (hnx x (hlf x hx)),<- DL (fun z hz=>(by rw [cN.1 hz];exact (hb x (hlf x hx)).1))];rfl
    ·rintro ⟨Y,hY,hX⟩
     have up:∀ {g:List Int} {s:RT},g∈rK l set l.length->s∈bh (jv amd l d g)->s∈bh (.node ByteArray.empty ((rK l set l.length).map (jv amd l d)++(jb l set l.length).map (kj amd))):=fun hg hs =>
      rM.2 (.inr ⟨_,Je _ (List.mem_map_of_mem hg),hs⟩)
     rcases hY with rfl | ⟨y1,y2⟩ | ⟨x,hx,rfl⟩
     ·exact ⟨_,dm _,fun y=>(hX y).trans (hL y).symm⟩
     ·by_cases e:Y=set
      ·subst e
       exact ⟨_,dm _,fun y=>(hX y).trans (hL y).symm⟩
      ·obtain ⟨i,i1,i2,i3⟩:=SF h hs _ Y (ah _) y1 e y2
       have hg:gl l i∈rK l set l.length:=LQ.2 ⟨i,i1,i2,rfl⟩
       obtain ⟨s,s1,s2⟩:=((ih _ hg).2.2 X).2 ⟨Y,.inr (.inl ⟨y1,i3⟩),hX⟩
       exact ⟨s,up hg s1,s2⟩
     ·rcases ey.1 (I7.mem_iff.2 hx) with hm | hm
      ·obtain ⟨g,hg,hxg⟩:=iA.1 hm
       obtain ⟨s,s1,s2⟩:=((ih _ hg).2.2 X).2 ⟨[x],.inr (.inr ⟨x,hxg,rfl⟩),hX⟩
       exact ⟨s,up hg s1,s2⟩
      ·refine ⟨kj amd x,rM.2 (.inr ⟨kj amd x,Jf _ (List.mem_map_of_mem hm),r7.2 rfl⟩),fun y=>(hX y).trans ?_⟩
       rw [rL (hnx x hx),<- DL (fun z hz=>(by rw [cN.1 hz];exact (hb x hx).1))];rfl
theorem iZ.ah4 (h:iZ amd l):DK l:=⟨fun s hs=>⟨(h.AW s hs).set.jM,(h.AW s hs).len.1⟩,fun _ ha _ hb=>h.lam ha hb⟩
def oI (amd:List ByteArray) (l:List (List Int)):RT:=.node ByteArray.empty [kj amd 0,jv amd l amd.length (bG amd.length [0])]
theorem N9 (h:iZ amd l) (h2:2<=amd.length):mR (oI amd l)/\aP (oI amd l)<=64/\∀X:ByteArray->Prop,QF (oI amd l) X↔∃Y,UZ amd.length l Y/\∀x,X x↔∃b:Nat,(b:Int)∈Y/\x=gs amd b:=by
 have hrl:=rE (n:=amd.length) (by omega);have hrs:(bG amd.length [0]).Pairwise (· < ·):=nS _ _;have hrb:∀x∈bG amd.length [0],0<=x/\x<(amd.length:Int):=fun x hx=>by have:=jH.1 hx;omega
 obtain ⟨p1,p2,p3⟩:=aal h.ah4 h.nm amd.length (bG amd.length [0]) (by omega) (fun e=>by rw [e] at hrl;simp at hrl;omega) hrs hrb;have hn0:=h.nm 0 (by omega);have hlf:bM (oI amd l)=gs amd 0::bM (jv amd l amd.length (bG amd.length [0])):=by unfold oI;rw [iX rfl,gj,gj,List.flatMap_nil,eG,rL hn0];rfl
 have D5:(bM (oI amd l)).Perm ((allI amd.length).map fun x=>gs amd x.toNat):=by rw [hlf,<- NC (n:=amd.length) (by omega)];exact p1.cons _
 have iF:(bM (oI amd l)).Nodup:=by refine D5.symm.nodup ?_;rw [Aa,sI];refine ((Du amd.length).imp_of_mem fun ha hb hab e=>?_);have ha:=mF.1 ha;have hb:=mF.1 hb;have:=Ka h.nd (by omega) (by omega) e;omega
 have hpt:∀s∈bh (oI amd l),rz s:=fun s hs=>by
  rcases rM.1 hs with rfl | ⟨k,hk,hs⟩
  ·exact ⟨fun _=>rfl,(fun e=>by cases e),(fun e=>by cases e)⟩
  ·rcases bA.1 hk with rfl | hk
   ·rw [r7.1 hs];exact I6 hn0
   ·rw [cN.1 hk] at hs;exact p2 s hs
 refine ⟨⟨iF,hpt⟩,?_,fun X=>?_⟩
 ·have h3:=size_le _ hpt
  have h4:=D5.length_eq;rw [aD,zn] at h4;have:=h.le;omega
 ·have hall:∀y,y∈bM (oI amd l)↔∃b:Nat,(b:Int)∈allI amd.length/\y=gs amd b:=fun y=>by
   rw [D5.mem_iff];exact DL (fun x hx=>(mF.1 hx).1)
  constructor
  ·rintro ⟨s,hs,hX⟩
   rcases rM.1 hs with rfl | ⟨k,hk,hs⟩
   ·exact ⟨_,.inl rfl,fun y=>(hX y).trans (hall y)⟩
   ·rcases bA.1 hk with rfl | hk
    ·rw [r7.1 hs] at hX
     refine ⟨[0],.inr (.inl rfl),fun y=>(hX y).trans ?_⟩
     rw [rL hn0,<- DL (fun z hz=>(by rw [cN.1 hz];exact qm 0))];rfl
    ·rw [cN.1 hk] at hs
     obtain ⟨Y,hY,hX2⟩:=(p3 X).1 ⟨s,hs,hX⟩
     refine ⟨Y,.inr (.inr ?_),hX2⟩
     rcases hY with rfl | ⟨y1,y2⟩ | ⟨x,hx,rfl⟩
     ·exact ⟨fun e=>by have:=jH.1 e;omega,fun e=>by rw [e] at hrl;simp at hrl;omega,hrb,hrs,.inr (.inl hrl)⟩
     ·have ho:=h.AW Y y1
      exact ⟨fun e=>by have:=ho.bd _ e;omega,fun e=>by have:=ho.len.1;rw [e] at this;simp at this,fun x hx=>by have:=ho.bd x hx;omega,ho.set.jM,.inr (.inr y1)⟩
     ·have:=jH.1 hx
      exact ⟨fun e=>by have:=cN.1 e;omega,by simp,fun z hz=>by rw [cN.1 hz];omega,List.pairwise_singleton _ _,.inl rfl⟩
  ·rintro ⟨Y,hY,hX⟩
   have up:∀ {s:RT},s∈bh (jv amd l amd.length (bG amd.length [0]))->s∈bh (oI amd l):=fun hs=>rM.2 (.inr ⟨_,by simp,hs⟩)
   rcases hY with rfl | rfl | ⟨y0,yn,yb,ya,hY⟩
   ·exact ⟨_,dm _,fun y=>(hX y).trans (hall y).symm⟩
   ·refine ⟨kj amd 0,rM.2 (.inr ⟨kj amd 0,by simp,r7.2 rfl⟩),fun y=>(hX y).trans ?_⟩
    rw [rL hn0,<- DL (fun z hz=>(by rw [cN.1 hz];exact qm 0))];rfl
   ·have hsub:∀x∈Y,x∈bG amd.length [0]:=fun x hx=>jH.2 (by
     have:=yb x hx
     have:x≠0:=fun e=>y0 (by rw [<- e];exact hx)
     omega)
    have h4:Y=bG amd.length [0]\/(Y∈l/\∀x∈Y,x∈bG amd.length [0])\/∃x∈bG amd.length [0],Y=[x]:=by
     rcases hY with hY | hY | hY
     ·obtain ⟨x,rfl⟩:=zZ.1 hY
      exact .inr (.inr ⟨x,hsub x (by simp),rfl⟩)
     ·exact .inl (LG (by omega) y0 yb ya hY)
     ·exact .inr (.inl ⟨hY,hsub⟩)
    obtain ⟨s,s1,s2⟩:=(p3 X).2 ⟨Y,h4,hX⟩
    exact ⟨s,up s1,s2⟩
theorem afr (h:iZ amd l) (h2:2<=amd.length):aA (flat (oI amd l))=0/\kW (flat (oI amd l))=zG amd l:=by
 obtain ⟨h3,h4,h5⟩:=N9 h h2;have ht:=uv h3.good h4;have key:∀ {T:ax} {S:Nat->List Int},bB amd T S->(∀Y,(∃i,i<T.ps.length/\Y=S i)↔UZ amd.length l Y)->kW (flat (oI amd l))=kW T:=fun {T S} hN hS=>by
  have e2:bJ (oI amd l)=bJ (jE T):=agE h3 hN.QI fun X=>by rw [h5 X,hN.aka hS X]
  rw [oQ hN.tree,oQ ht,vw,e2]
 refine ⟨ht,?_⟩;unfold zG;rw [if_neg (by omega)];by_cases c:amd.length=2
 ·rw [if_pos c]
  exact key (IK h c) (ae8 c (h.few (by omega)))
 ·rw [if_neg c]
  exact key (Dw h (by omega) (FE h (by omega))) (ae9 h (by omega))
end
end
section
open Go.RowKit Go.Deep
section
variable {tb B0:Nat} {w W X:World} {P N P' N':Value} {t u:ax}
theorem GW.akk (h:GW tb B0 W P N t) (hk:GK tb W X P N P' N) (hs:X.heap[tb]? = W.heap[tb]?) (ht:TL B0 X P' N u.ps u.ns) :
  GW tb B0 (X.setCell ⟨tb,0,none⟩ P') P' N u/\GK tb W (X.setCell ⟨tb,0,none⟩ P') P N P' N:=by
 have h1:=hs.trans h.box;have hl:=h.lt;have hp:P'.ownBlock≠some tb:=fun e=>by
  rcases hk.jX tb e with h2 | h2
  ·exact h.lo.1.1 h2
  ·omega
 have cA:∀b,b≠tb->(X.setCell ⟨tb,0,none⟩ P').heap[b]? = X.heap[b]?:=fun b hb=>by rw [blk_setCell_other _ _ _ _ hb]
 have hsz:(X.setCell ⟨tb,0,none⟩ P').heap.size=X.heap.size:=by simp [World.size_setCell]
 refine ⟨⟨by simp [World.setCell,Array.getElem?_modify,h1],⟨ht.cn.eH fun b hb=>cA b (fun e=>hp (by rw [hb,e])),ht.cD.eH fun b hb=>cA b (fun e=>h.lo.1.2 (by rw [hb,e])),ht.apart⟩,⟨hp,h.lo.1.2⟩,by rw [hsz];exact aB h.lo.2 hk.size⟩,hk.os,hk.tape,hk.output,by rw [hsz];exact hk.size,fun b hb h2 h3 h4=>(cA b h2).trans (hk.block b hb h2 h3 h4),hk.jX,hk.jY⟩
theorem GW.ah5 (h:GW tb B0 W P N t) (hk:GK tb W X P N P N') (hs:X.heap[tb]? = W.heap[tb]?) (ht:TL B0 X P N' u.ps u.ns) :
  GW tb B0 (X.setCell ⟨tb,1,none⟩ N') P N' u/\GK tb W (X.setCell ⟨tb,1,none⟩ N') P N P N':=by
 have h1:=hs.trans h.box;have hl:=h.lt;have hn:N'.ownBlock≠some tb:=fun e=>by
  rcases hk.jY tb e with h2 | h2
  ·exact h.lo.1.2 h2
  ·omega
 have cA:∀b,b≠tb->(X.setCell ⟨tb,1,none⟩ N').heap[b]? = X.heap[b]?:=fun b hb=>by rw [blk_setCell_other _ _ _ _ hb]
 have hsz:(X.setCell ⟨tb,1,none⟩ N').heap.size=X.heap.size:=by simp [World.size_setCell]
 refine ⟨⟨by simp [World.setCell,Array.getElem?_modify,h1],⟨ht.cn.eH fun b hb=>cA b (fun e=>h.lo.1.1 (by rw [hb,e])),ht.cD.eH fun b hb=>cA b (fun e=>hn (by rw [hb,e])),ht.apart⟩,⟨h.lo.1.1,hn⟩,by rw [hsz];exact aB h.lo.2 hk.size⟩,hk.os,hk.tape,hk.output,by rw [hsz];exact hk.size,fun b hb h2 h3 h4=>(cA b h2).trans (hk.block b hb h2 h3 h4),hk.jX,hk.jY⟩
theorem GW.KM (h:GW tb B0 W P N t) {g cap k:Nat} {z:Int} (ho:au B0 3 X (.slice (some ⟨g,0,none⟩) k cap) (t.ps.map (Value.int .i64)++[.int .i64 z])) (hg:W.grownBy X P.ownBlock) (gH:P.ownBlock=some g\/W.heap.size<=g):X.cell? ⟨tb,0,none⟩=some P/\X.frozen? ⟨tb,0,none⟩=false:=by
 have hR:=(RW.start h.tl ⟨⟨h.lt,h.lo.1⟩,h.lo.2⟩).vo ho hg gH;exact ⟨(hR.cells h.box).1,hR.frozen h.box 0⟩
theorem GW.W9 (h:GW tb B0 W P N t) {g cap k:Nat} {z:ByteArray} (ho:au B0 9 X (.slice (some ⟨g,0,none⟩) k cap) (t.ns.map Value.string++[.string z])) (hg:W.grownBy X N.ownBlock) (gH:N.ownBlock=some g\/W.heap.size<=g):X.cell? ⟨tb,1,none⟩=some N/\X.frozen? ⟨tb,1,none⟩=false:=by
 have hR:=(RW.start h.tl ⟨⟨h.lt,h.lo.1⟩,h.lo.2⟩).ur ho hg gH;exact ⟨(hR.cells h.box).2,hR.frozen h.box 1⟩
theorem GW.ad4 (h:GW tb B0 W P N t) {g cap k:Nat} {z:Int} (ho:au B0 3 X (.slice (some ⟨g,0,none⟩) k cap) (t.ps.map (Value.int .i64)++[.int .i64 z])) (hg:W.grownBy X P.ownBlock) (gH:P.ownBlock=some g\/W.heap.size<=g) :
  GW tb B0 (X.setCell ⟨tb,0,none⟩ (.slice (some ⟨g,0,none⟩) k cap)) (.slice (some ⟨g,0,none⟩) k cap) N ⟨t.ps++[z],t.ns⟩/\GK tb W (X.setCell ⟨tb,0,none⟩ (.slice (some ⟨g,0,none⟩) k cap)) P N (.slice (some ⟨g,0,none⟩) k cap) N:=by
 have hR:=(RW.start h.tl ⟨⟨h.lt,h.lo.1⟩,h.lo.2⟩).vo ho hg gH;exact h.akk hR.gk hR.same hR.tl
theorem GW.aiX (h:GW tb B0 W P N t) {g cap k:Nat} {z:ByteArray} (ho:au B0 9 X (.slice (some ⟨g,0,none⟩) k cap) (t.ns.map Value.string++[.string z])) (hg:W.grownBy X N.ownBlock) (gH:N.ownBlock=some g\/W.heap.size<=g) :
  GW tb B0 (X.setCell ⟨tb,1,none⟩ (.slice (some ⟨g,0,none⟩) k cap)) P (.slice (some ⟨g,0,none⟩) k cap) ⟨t.ps,t.ns++[z]⟩/\GK tb W (X.setCell ⟨tb,1,none⟩ (.slice (some ⟨g,0,none⟩) k cap)) P N P (.slice (some ⟨g,0,none⟩) k cap):=by
 have hR:=(RW.start h.tl ⟨⟨h.lt,h.lo.1⟩,h.lo.2⟩).ur ho hg gH;exact h.ah5 hR.gk hR.same hR.tl
end
section
variable {l:List (List Int)} {set:List Int} {amd:List ByteArray}
theorem afs (h:DK l) (hs:set.Pairwise (· < ·)) {i:Nat} (hi:i<l.length) (hb:wT l set i=true):(gl l i).length<set.length/\gl l i≠[]/\∀x∈gl l i,x∈set:=by
 obtain ⟨a1,a2,_⟩:=yz.1 hb;have hl:=h.jM _ (lI hi);have l1:=gu hl.1 hs a2;have l2:(gl l i).length≠set.length:=fun e=>a1 (rZ hl.1 hs fun x=>⟨a2 x,pJ hl.1 hs a2 e x⟩);exact ⟨by omega,fun e=>by rw [e] at hl;simp at hl,a2⟩
def xJ (amd:List ByteArray) (l:List (List Int)) (d:Nat) (set:List Int) (n:Nat):List RT:=(rK l set n).map (jv amd l d)
def tW (amd:List ByteArray) (l:List (List Int)) (d:Nat) (set:List Int) (n:Nat):List RT:=xJ amd l d set l.length++((jb l set l.length).take n).map (kj amd)
theorem SG (amd:List ByteArray) (l:List (List Int)) (d:Nat) (set:List Int) (n:Nat):xJ amd l d set (n+1)=xJ amd l d set n++if wT l set n then [jv amd l d (gl l n)] else []:=by
 unfold xJ;rw [rK,cg];congr 1;split<;>rfl
theorem aft (amd:List ByteArray) (l:List (List Int)) (d:Nat) (set:List Int):∀ {n m:Nat},n<=m->xJ amd l d set n <+: xJ amd l d set m:=by
 intro n m h
 induction m with
 | zero=>rw [Nat.le_zero.1 h];exact BS _
 | succ m ih =>
  by_cases e:n=m+1
  ·rw [e];exact BS _
  ·rw [SG]
   exact (ih (by omega)).trans (List.prefix_append _ _)
theorem SH (amd:List ByteArray) (l:List (List Int)) (d:Nat) (set:List Int):tW amd l d set 0=xJ amd l d set l.length:=by unfold tW;simp
theorem adm (amd:List ByteArray) (l:List (List Int)) (d:Nat) (set:List Int) {n:Nat} (hn:n<(jb l set l.length).length):tW amd l d set (n+1)=tW amd l d set n++[kj amd (gi (jb l set l.length) n)]:=by
 unfold tW;have hg:gi (jb l set l.length) n=(jb l set l.length)[n]:=by simp [gi,hn]
 rw [jQ hn,cg,<- dS,hg];rfl
theorem LS (amd:List ByteArray) (l:List (List Int)) (d:Nat) {set:List Int} (h:set.length≠1):jv amd l (d+1) set=.node ByteArray.empty (tW amd l d set (jb l set l.length).length):=by
 rw [jv,if_neg h];unfold tW xJ;rw [fT]
theorem Vh (amd:List ByteArray) (l:List (List Int)) (d:Nat) (x:Int):jv amd l (d+1) [x]=kj amd x:=by rw [jv,if_pos (by simp)];rfl
theorem DM {a b:List RT} (h:a <+: b):aK a<=aK b:=by
 obtain ⟨c,rfl⟩:=h;have hX:∀x:List RT,aK (x++c)=aK x+aK c:=fun x=>by
  induction x with
  | nil=>rw [aK];simp
  | cons y x ih=>rw [cm,aK,aK,ih];omega
 rw [hX];omega
theorem Vi (amd:List ByteArray) (l:List (List Int)) (d:Nat) (set:List Int) (n:Nat):tW amd l d set n <+: tW amd l d set (jb l set l.length).length:=by
 unfold tW;rw [fT];exact List.prefix_append_right_inj _ |>.2 ((List.take_prefix _ _).map _)
theorem SI (l:List (List Int)) (set:List Int) (n:Nat):jb l set (n+1)=if wT l set n then (jb l set n).filter (fun x=>!(gl l n).contains x) else jb l set n:=rfl
theorem LU {n:Nat} {x:Int} (h:x∈jb l set n):x∈set:=(yy.1 h).1
theorem LV (l:List (List Int)) (set:List Int):∀n,(jb l set n).length<=set.length
 | 0=>ah _
 | n+1=>by
  have:=LV l set n
  rw [SI]
  split
  ·exact aB (mN _ _) this
  ·exact this
def SJ (l:List (List Int)) (set:List Int) (i k:Nat):Bool:=!decide (gl l k=gl l i)&&(!decide (gl l k=set)&&(iV (gl l i) (gl l k)&&iV (gl l k) set))
def Vj (l:List (List Int)) (i k:Nat):Bool:=decide (k<i)&&decide (gl l k=gl l i)
def Hg (l:List (List Int)) (set:List Int) (i n:Nat):Bool:=(List.range n).all fun k=>!SJ l set i k&&!Vj l i k
theorem adn (l:List (List Int)) (set:List Int) (i n:Nat):Hg l set i (n+1)=(Hg l set i n&&(!SJ l set i n&&!Vj l i n)):=by
 unfold Hg;rw [pU,List.all_append];simp
theorem ah6 (l:List (List Int)) (set:List Int) (i:Nat):wT l set i=(!decide (gl l i=set)&&(iV (gl l i) set&&Hg l set i l.length)):=rfl
end
end
end Go.Proofs.YthgabkgmkolobaaGreat
