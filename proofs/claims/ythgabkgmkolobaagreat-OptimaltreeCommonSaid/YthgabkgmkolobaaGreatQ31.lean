/- Between two rounds of slices.AppendSeq at ints: cut out of V1. Trees whose nodes stand .. -/
import Derived.Test.YthgabkgmkolobaaGreatQ30
import Derived.Test.YthgabkgmkolobaaGreatQ21
set_option maxRecDepth 100000
namespace Go.Proofs.YthgabkgmkolobaaGreat
section
open Go.RowKit Go.Shelf Go.Deep
attribute [local go_sem] y5
theorem ax.mono_baseZ {base base':Nat} {e:TypeId} {w:World} {v:Value} {vs:List Value} (h:ax base e w v vs) (hb:base'<=base):ax base' e w v vs:=by
 obtain ⟨hl,h | ⟨g,cap,cur,rfl,hg,hc,hr⟩⟩:=h
 ·exact ⟨hl,.inl h⟩
 ·exact ⟨hl,.inr ⟨g,cap,cur,rfl,aJ hb hg,hc,hr⟩⟩
def RR (w0:World) (pre:List Int) (W:World):Prop:=Below w0.heap.size w0 W/\w0.heap.size+1<=W.heap.size/\∃v,W.heap[w0.heap.size]? = some (Obj.cells #[v] 26 (0,0))/\ax (w0.heap.size+1) 3 W v (pre.map (Value.int .i64))
theorem RR.own (w0:World) {B:Nat} (hB:w0.heap.size+1<=B):OwnFrom B (RR w0):=by
 rintro s X Y row ⟨hb,hsz,v,jF,hown⟩ hg hr
 have hcell:∀(b:Nat) (c:Array Value) (e:TypeId) (z:Nat×Nat),X.heap[b]? = some (Obj.cells c e z)->Y.heap[b]? = X.heap[b]?:=fun b c e z hc=>hg.block b (fR.1 hc).1 (fun e2=>by
  obtain ⟨_,o,h1,h2⟩:=hr b e2.symm
  rw [hc] at h1;injection h1 with h1;subst h1;cases h2)
 refine ⟨⟨hg.os.trans hb.os,hg.tape.trans hb.tape,hg.output.trans hb.output,aJ hb.size hg.size,fun b hb2=>(hg.block b (by have:=hb.size;omega) (fun e=>by obtain ⟨h1,_⟩:=hr b e.symm;omega)).trans (hb.block b hb2)⟩,aJ hsz hg.size,v,(hcell _ _ _ _ jF).trans jF,hown.AA fun b hb2=>?_⟩;obtain ⟨c,hc⟩:=hown.mC hb2;exact hcell _ _ _ _ hc
end
section
open Go.RowKit Go.Shelf Go.Deep
def E9 (w:World) (xs:List Int) (e:Ending) (w':World):Prop:=Up w w'/\∃v,e=.returned v/\ax w.heap.size 3 w' v (xs.map (Value.int .i64))
theorem RR.next {w W We:World} {pre:List Int} {x:Int} {v v':Value} (kJ:Below w.heap.size w W) (hsz:w.heap.size+1<=W.heap.size) (jF:W.heap[w.heap.size]? = some (Obj.cells #[v] 26 (0,0))) (hown:ax (w.heap.size+1) 3 W v (pre.map (Value.int .i64)))
  (ho:ax (w.heap.size+1) 3 We v' (pre.map (Value.int .i64)++[.int .i64 x])) (hg:(W.alloc (.cells #[.int .i64 x] 3)).grownBy We v.ownBlock) :
  KeepsFrom (w.heap.size+1) W (We.setCell ⟨w.heap.size,0,none⟩ v')/\KS (· < w.heap.size) W (We.setCell ⟨w.heap.size,0,none⟩ v')/\RR w (pre++[x]) (We.setCell ⟨w.heap.size,0,none⟩ v'):=by
 have dR:∀b,b≠w.heap.size->(We.setCell ⟨w.heap.size,0,none⟩ v').heap[b]? = We.heap[b]?:=fun b hb=>blk_setCell_other _ _ _ _ hb;have hszs:(We.setCell ⟨w.heap.size,0,none⟩ v').heap.size=We.heap.size:=by simp [World.size_setCell]
 have hga:∀b,b<W.heap.size->some b≠v.ownBlock->We.heap[b]? = W.heap[b]?:=fun b hb hne=>(hg.block b (by rw [aQ];exact Nat.lt_succ_of_lt hb) hne).trans (Hr W _ b hb);have hsize:W.heap.size+1<=We.heap.size:=by have h:=hg.size;rw [aQ] at h;exact h
 have su:∀b,b<w.heap.size+1->We.heap[b]? = W.heap[b]?:=fun b hb=>hga b (by omega) (fun e=>by have:=(av hown e.symm).1;omega);have zP:=(su w.heap.size (pI _)).trans jF;refine ⟨⟨by omega,fun k o hk KU hc=>?_⟩,fun b (hb:b<w.heap.size)=>(dR b (by omega)).trans (su b (by omega)),⟨hg.os.trans kJ.os,hg.tape.trans kJ.tape,hg.output.trans kJ.output,by omega,fun b hb=>((dR b (by omega)).trans (su b (by omega))).trans (kJ.block b hb)⟩,by omega,v',?_,?_⟩
 ·have gz:k<W.heap.size:=(fR.1 KU).1
  rw [dR k (by omega),hga k gz (fun e=>by
   obtain ⟨c,h⟩:=hown.mC e.symm
   rw [KU] at h;injection h with h;subst h;cases hc)]
  exact KU
 ·simp [World.setCell,Array.getElem?_modify,zP]
 ·rw [cg]
  exact ho.AA fun b hb=>dR b (by have:=(av ho hb).1;omega)
end
section
structure bM (aac:List ByteArray) (t:az) (S:Nat->List Int):Prop where
 nm:∀k,k<aac.length->b7 (gs aac k).data.toList=true
 nd:∀j k,j<k->k<aac.length->gs aac k≠gs aac j
 n0:0<t.ps.length
 n64:t.ps.length<=64
 len:t.ns.length=t.ps.length
 root:gi t.ps 0 = -1
 top:∀b:Nat,b<aac.length->(b:Int)∈S 0
 bd:∀i,i<t.ps.length->(∀x∈S i,0<=x/\x<(aac.length:Int))/\S i≠[]
 par:∀i,0<i->i<t.ps.length->∃p,p<i/\gi t.ps i=(p:Int)/\(∀x∈S i,x∈S p)/\∀j,j<t.ps.length->j≠i->(∀x∈S i,x∈S j)->∀x∈S p,x∈S j
 inj:∀i j,i<t.ps.length->j<t.ps.length->(∀x∈S i,x∈S j)->(∀x∈S j,x∈S i)->i=j
 sing:∀b:Nat,b<aac.length->∃i,i<t.ps.length/\S i=[(b:Int)]
 nms:∀i,i<t.ps.length->gs t.ns i=RO aac (S i)
 xD:∀i,i<t.ps.length->(S i).Nodup
section
variable {aac:List ByteArray} {t:az} {S:Nat->List Int}
theorem bM.PF (h:bM aac t S) {i c:Nat} (hc:c<t.ps.length) (h0:0<c) (e:gi t.ps c=(i:Int)):(∀x∈S c,x∈S i)/\i<c:=by
 obtain ⟨p,p1,p2,p3,_⟩:=h.par c h0 hc;rw [e] at p2;have:i=p:=by omega
 subst this;exact ⟨p3,p1⟩
theorem bM.meet (h:bM aac t S) {i:Nat} (hi:i<t.ps.length):∃x,x∈S i:=Fs _ (h.bd i hi).2
theorem bM.kid (h:bM aac t S) {i:Nat} (hi:i<t.ps.length):∀(d p:Nat),p<=d->p<t.ps.length->p≠i->(∀x∈S p,x∈S i)->∃c,c<t.ps.length/\i<c/\gi t.ps c=(i:Int)/\∀x∈S p,x∈S c:=by
 have z:∀p,p<t.ps.length->p≠i->(∀x∈S p,x∈S i)->0<p:=fun p hp hne hs=>by
  rcases yY p with e | e
  ·subst e
   refine absurd (h.inj 0 i hp hi hs fun x hx=>?_) hne;obtain ⟨x0,xn⟩:=(h.bd i hi).1 x hx;have:=h.top x.toNat (by omega)
   rwa [Int.toNat_of_nonneg x0] at this
  ·exact e
 intro d
 induction d with
 | zero=>intro p hd hp hne hs;have:=z p hp hne hs;omega
 | succ d ih =>
  intro p hd hp hne hs;obtain ⟨q,q1,q2,q3,q4⟩:=h.par p (z p hp hne hs) hp;by_cases c:q=i
  ·subst c;exact ⟨p,hp,q1,q2,fun x hx=>hx⟩
  ·obtain ⟨k,k1,k2,k3,k4⟩:=ih q (by omega) (by omega) c (q4 i hi (fun e=>hne e.symm) hs)
   exact ⟨k,k1,k2,k3,fun x hx=>k4 x (q3 x hx)⟩
theorem bM.VP (h:bM aac t S) {i:Nat} (hi:i<t.ps.length) (h2:(S i).length≠1) {x:Int} (hx:x∈S i):∃c,c<t.ps.length/\i<c/\gi t.ps c=(i:Int)/\x∈S c:=by
 obtain ⟨x0,xn⟩:=(h.bd i hi).1 x hx;obtain ⟨k,rfl⟩:∃k:Nat,x=k:=⟨x.toNat,by omega⟩;obtain ⟨p,hp,e⟩:=h.sing k (by omega);have hne:p≠i:=fun q=>by subst q;rw [e] at h2;exact h2 rfl
 obtain ⟨c,c1,c2,c3,c4⟩:=h.kid hi p p (af _) hp hne (fun y hy=>by rw [e,dP] at hy;subst hy;exact hx);exact ⟨c,c1,c2,c3,c4 _ (by rw [e];simp)⟩
theorem bM.wm (h:bM aac t S) {i:Nat} (hi:i<t.ps.length):isIn t.ps i=true↔(S i).length≠1:=by
 unfold isIn Ht;rw [eO];constructor
 ·rintro ⟨c,hc,e⟩ h1
  have hc:=bh.1 hc;rw [gD,decide_eq_true_eq,beq_iff_eq] at e;obtain ⟨s1,s2⟩:=h.PF hc e.1 e.2;obtain ⟨b,hb⟩:=CK.1 h1;obtain ⟨z,hz⟩:=h.meet hc;have hzb:=s1 z hz;rw [hb,dP] at hzb;have:=h.inj i c hi hc (fun x hx=>by rw [hb,dP] at hx;rw [hx,<- hzb];exact hz) s1;omega
 ·intro h1
  obtain ⟨x,hx⟩:=h.meet hi;obtain ⟨c,c1,c2,c3,_⟩:=h.VP hi h1 hx;exact ⟨c,bh.2 c1,by rw [c3];simp;omega⟩
theorem bM.one (h:bM aac t S) {i:Nat} (hi:i<t.ps.length) (h1:(S i).length=1):∃b:Nat,b<aac.length/\S i=[(b:Int)]/\gs t.ns i=gs aac b:=by
 obtain ⟨x,hx⟩:=CK.1 h1;obtain ⟨x0,xn⟩:=(h.bd i hi).1 x (by rw [hx];simp);refine ⟨x.toNat,by omega,by rw [hx];congr 1;omega,?_⟩;rw [h.nms i hi,RO,if_pos h1,hx];rfl
theorem bM.big (h:bM aac t S) {i:Nat} (hi:i<t.ps.length) (h1:(S i).length≠1):(gs t.ns i).size=0:=by
 rw [h.nms i hi,RO,if_neg h1];rfl
theorem bM.pok (h:bM aac t S):k8 t.ps=true:=by
 unfold k8;rw [wL];intro i hi;have hi:=bh.1 hi;unfold qq;by_cases c:i=0
 ·subst c;rw [h.root];rfl
 ·rw [if_neg c]
  obtain ⟨p,h1,h2,_⟩:=h.par i (by omega) hi;rw [h2];simp;omega
theorem bM.tree (h:bM aac t S):aH t=0:=by
 have hp:=h.n0;have Cn:=h.n64;unfold aH;rw [if_neg (by omega),if_neg (by omega),if_neg (by rw [h.len];simp),if_pos h.pok];refine cR fun i hi=>?_;unfold oZ;by_cases h1:(S i).length=1
 ·rw [if_neg (fun q=>(h.wm hi).1 q h1)]
  obtain ⟨b,hb,e,en⟩:=h.one hi h1;have hn:=h.nm b hb;rw [en,if_pos hn,if_neg];intro q;unfold fk at q;obtain ⟨j,hj,e2⟩:=eO.1 q;have hj:=bh.1 hj;have e2:=of_decide_eq_true e2;rw [en] at e2;by_cases j1:(S j).length=1
  ·obtain ⟨b',hb',e',en'⟩:=h.one (show j<t.ps.length by omega) j1
   rw [en'] at e2;have:b'=b:=by
    rcases rY b' b with c | c | c
    ·exact absurd e2.symm (h.nd b' b c hb)
    ·exact c
    ·exact absurd e2 (h.nd b b' c hb')
   subst this;have:=h.inj j i (by omega) hi (by rw [e',e];exact fun x hx=>hx) (by rw [e',e];exact fun x hx=>hx);omega
  ·have:=h.big (show j<t.ps.length by omega) j1
   rw [e2] at this;exact jR hn this
 ·rw [if_pos ((h.wm hi).2 h1),if_pos (h.big hi h1)]
theorem bM.NN (h:bM aac t S) {i:Nat} (hi:i<t.ps.length) (h1:(S i).length=1):bq t.ps i=[]:=by
 rw [JP];intro c hc;obtain ⟨c1,c2,c3⟩:=cD.1 hc;refine (h.wm hi).1 ?_ h1;unfold isIn Ht;rw [eO];exact ⟨c,bh.2 c1,by rw [c3];simp;omega⟩
theorem bM.leaves (h:bM aac t S):∀d i,t.ps.length - i<=d->i<t.ps.length->Lv aac (bB (fJ t) (dU t) i) (S i)
 | 0,i,hd,hi=>by omega
 | d+1,i,hd,hi=>by
  have ht:=h.tree
  intro y
  rw [fO (eu ht).wf hi,iY,show (fJ t).nm i=gs t.ns i from rfl]
  by_cases h1:(S i).length=1
  ·obtain ⟨b,hb,e,en⟩:=h.one hi h1
   rw [h.NN hi h1,wQ,en,FU (jR (h.nm b hb)),e]
   constructor
   ·intro hy;exact ⟨b,by simp,by simpa using hy⟩
   ·rintro ⟨b',hb',rfl⟩
    have:b'=b:=by have:=dP.1 hb';omega
    subst this;simp
  ·rw [kT (h.big hi h1),jP]
   constructor
   ·rintro ⟨q,hq,hy⟩
    obtain ⟨c,hc,rfl⟩:=cm.1 hq
    obtain ⟨c1,c2,c3⟩:=cD.1 hc
    obtain ⟨b,hb,e⟩:=(bM.leaves h d c (by omega) c1 y).1 hy
    exact ⟨b,(h.PF c1 (by omega) c3).1 _ hb,e⟩
   ·rintro ⟨b,hb,rfl⟩
    obtain ⟨c,c1,c2,c3,c4⟩:=h.VP hi h1 hb
    exact ⟨_,cm.2 ⟨c,cD.2 ⟨c1,c2,c3⟩,rfl⟩,(bM.leaves h d c (by omega) c1 _).2 ⟨b,c4,rfl⟩⟩
theorem bM.part (h:bM aac t S) {i:Nat} (hi:i<t.ps.length):IK (bB (fJ t) (dU t) i):=by
 have ht:=h.tree;unfold IK;rw [A2 (eu ht).wf hi,CZ (eu ht).wf hi,iY,show (fJ t).nm i=gs t.ns i from rfl];by_cases h1:(S i).length=1
 ·obtain ⟨b,hb,e,en⟩:=h.one hi h1
  rw [h.NN hi h1,en];exact ⟨fun q=>absurd rfl q,fun _=>h.nm b hb,by simp⟩
 ·have tF:∀x∈S i,∃c∈bq t.ps i,x∈S c:=fun x hx=>by
   obtain ⟨c,c1,c2,c3,c4⟩:=h.VP hi h1 hx
   exact ⟨c,cD.2 ⟨c1,c2,c3⟩,c4⟩
  refine ⟨fun _=>h.big hi h1,fun q=>?_,fun q=>?_⟩
  ·have q:bq t.ps i=[]:=by simpa using q
   obtain ⟨x,hx⟩:=h.meet hi
   obtain ⟨c,hc,_⟩:=tF x hx
   rw [q] at hc;cases hc
  ·rw [aG] at q
   obtain ⟨c,hc⟩:=CK.1 q
   obtain ⟨c1,c2,c3⟩:=cD.1 (show c∈bq t.ps i by rw [hc];simp)
   have:=h.inj i c hi c1 (fun x hx=>by
    obtain ⟨c',hc',hx'⟩:=tF x hx
    rw [hc,dP] at hc'
    subst hc';exact hx') (h.PF c1 (by omega) c3).1
   omega
theorem bM.Ri (h:bM aac t S):GZ (iZ t):=by
 have ht:=h.tree;refine ⟨(ou ht).nd,fun s hs=>?_⟩;rw [oo ht] at hs;obtain ⟨j,hj,rfl⟩:=cm.1 hs;exact h.part (jH ht hj)
theorem bM.node (h:bM aac t S):∀(d i:Nat),i<=d->i<t.ps.length->bB (fJ t) (dU t) i∈bH (iZ t)
 | d,i,hd,hi=>by
  have ht:=h.tree
  by_cases h0:i=0
  ·subst h0;exact ja _
  ·obtain ⟨p,p1,p2,_⟩:=h.par i (by omega) hi
   cases d with
   | zero=>omega
   | succ d =>
    have ih:=bM.node h d p (by omega) (by omega)
    refine jT _ ih ?_
    rw [fO (eu ht).wf (show p<t.ps.length by omega),iY]
    exact A9 (cm.2 ⟨i,cD.2 ⟨hi,p1,p2⟩,rfl⟩)
theorem bM.parts (h:bM aac t S):(∀s∈bH (iZ t),∃i,i<t.ps.length/\Lv aac s (S i))/\∀i,i<t.ps.length->∃s∈bH (iZ t),Lv aac s (S i):=by
 have ht:=h.tree;constructor
 ·intro s hs
  rw [oo ht] at hs;obtain ⟨j,hj,rfl⟩:=cm.1 hs;have:=jH ht hj;exact ⟨j,this,h.leaves _ j (af _) this⟩
 ·exact fun i hi=>⟨_,h.node i i (af _) hi,h.leaves _ i (af _) hi⟩
end
end
section
section
variable {t:az}
theorem sortL_pair (l:List Int):(jC l).Pairwise (· <= ·):=by
 have h:=List.pairwise_mergeSort (le:=fun x y:Int=>decide (x<=y)) (fun a b c h1 h2=>by simp at h1 h2 ⊢;omega) (fun a b=>by
  simp only [Ah,decide_eq_true_eq];omega) l
 exact h.imp fun h=>by simpa using h
theorem RU {α β:Type} {f:α->β}:∀ {l:List α},l.Nodup->(∀x∈l,∀y∈l,f x=f y->x=y)->(l.map f).Nodup
 | [],_,_=>yV
 | a::l,hn,h=>by
  rw [cK,iR]
  have hn2:=iR.1 hn
  refine ⟨fun hm=>?_,RU hn2.2 fun x hx y hy e=>h x (pH _ hx) y (pH _ hy) e⟩
  obtain ⟨y,hy,e⟩:=cm.1 hm
  exact hn2.1 (h y (pH _ hy) a (tL ..) e ▸ hy)
theorem lv_leafOk (he:aH t=0) {x:Int} (hx:x∈aD t.ns):∃j:Nat,x=j/\eL t j:=by
 obtain ⟨_,_,hl,_,_⟩:=aF he;obtain ⟨j,rfl,h1,h2⟩:=qh.1 hx;exact ⟨j,rfl,he,by omega,h2⟩
end
end
section
def fc (n:Nat) (S:List Int):List Int:=if S.contains 0 then dZ n S else S
def Md (aac:List ByteArray):Bool:=(List.range aac.length).any (fk aac)
def jD (t:az) (aac:List ByteArray):Int :=
 if aH t≠0 then 1 else if 32<aac.length then 4 else if Md aac then 7 else if (aD t.ns).length≠aac.length\/xA t aac=true then 9 else 0
def Me (t:az) (aac:List ByteArray):List (List Int):=(((List.range t.ps.length).filter (fun k=>decide (0<k))).map fun k=>fc aac.length (cu t aac k)).filter fun s=>decide (cM aac.length s=0)
def cW (t:az) (aac:List ByteArray):List (List Int):=if jD t aac=0 then oH (Me t aac) else []
theorem Zx {aac:List ByteArray}:Md aac=false↔∀j k,j<k->k<aac.length->gs aac k≠gs aac j:=by
 constructor
 ·intro h j k hjk hk e
  have h1:=any_false h hk;unfold fk at h1;have:=any_false h1 hjk;rw [decide_eq_true e.symm] at this;cases this
 ·intro h
  refine any_none fun k hk=>any_none fun j hj=>decide_eq_false fun e=>h j k hj hk e.symm
theorem kV {t:az} {aac:List ByteArray}:jD t aac=0↔dK t aac:=by
 unfold jD;constructor
 ·intro h
  split at h
  ·cases h
  ·rename_i h1
   have h1:=Fo.1 h1;obtain ⟨_,_,hl,_,_⟩:=aF h1;split at h
   ·cases h
   ·split at h
    ·cases h
    ·rename_i h3
     split at h
     ·cases h
     ·rename_i h4
      (have h3:Md aac=false:=by simpa using h3);have h4a:(aD t.ns).length=aac.length:=tK fun e=>h4 (.inl e);have h4b:xA t aac=false:=by
       cases e:xA t aac with
       | false=>rfl
       | true=>exact absurd (.inr e) h4
      refine ⟨h1,by omega,Zx.1 h3,h4a,fun j hj h0=>?_⟩;have hm:(j:Int)∈aD t.ns:=qh.2 ⟨j,rfl,by omega,h0⟩;obtain ⟨i,hi,e⟩:=S4 hm;have:=any_false h4b hi;rw [e,cZ] at this;have:=of_decide_eq_false this;exact J8.1 (by omega)
 ·intro h
  obtain ⟨_,_,hl,_,_⟩:=aF h.te;have hle:=h.le;rw [if_neg (fun e=>e h.te),if_neg (by omega),Zx.2 h.nd,if_neg (by decide),if_neg];rintro (e | e)
  ·exact e h.len
  ·obtain ⟨i,hi,e⟩:=eO.1 e
   have hi:=bh.1 hi;obtain ⟨j,e1,e2,e3⟩:=qh.1 (mq hi);have e:=of_decide_eq_true e;rw [e1,cZ] at e;have:=J8.2 (h.has j (by omega) e3);omega
section
variable {t:az} {aac:List ByteArray}
theorem Jm (h:aH t=0) (k:Nat) (hk:k<t.ps.length):ew t.ps 0 k=true:=LO h k k (af _) hk
theorem ym (h:dK t aac) {b:Nat} (hb:b<aac.length):∃j,j<t.ps.length/\(gs t.ns j).size≠0/\gs t.ns j=gs aac b:=by
 obtain ⟨_,_,hl,_,_⟩:=aF h.te;have hp:∀x∈aD t.ns,∃j:Nat,x=j/\eL t j:=fun x hx=>lv_leafOk h.te hx;have fe:((aD t.ns).map fun x=>iD aac (gs t.ns x.toNat)).Nodup:=by
  refine RU ((X0 t.ns).imp fun h e=>by omega) fun x hx y hy e=>?_;obtain ⟨j,rfl,hj⟩:=hp x hx;obtain ⟨k,rfl,hk⟩:=hp y hy;rw [cZ,cZ] at e;obtain ⟨b1,c1,e1⟩:=h.has j hj.lt hj.nm;obtain ⟨b2,c2,e2⟩:=h.has k hk.lt hk.nm;rw [<- e1,<- e2,sR h.nd c1,sR h.nd c2] at e;have:b1=b2:=by omega
  subst this;have:=hj.inj hj.lt hk.lt hj.nm (by rw [<- e1,<- e2]);rw [this]
 have qB:=RP (q:=allI aac.length) fe (fun x hx=>by
  obtain ⟨y,hy,rfl⟩:=cm.1 hx;obtain ⟨j,rfl,hj⟩:=hp y hy;obtain ⟨b1,c1,e1⟩:=h.has j hj.lt hj.nm;rw [cZ,<- e1,sR h.nd c1]
  exact tE.2 ⟨by omega,by omega⟩) (by rw [Ge,aG,h.len];exact af _)
 have hb':(b:Int)∈(aD t.ns).map fun x=>iD aac (gs t.ns x.toNat):=qB.mem_iff.2 (tE.2 ⟨by omega,by omega⟩);obtain ⟨y,hy,e⟩:=cm.1 hb';obtain ⟨j,rfl,hj⟩:=hp y hy;rw [cZ] at e;refine ⟨j,hj.lt,hj.nm,?_⟩;obtain ⟨b1,c1,e1⟩:=h.has j hj.lt hj.nm;rw [<- e1,sR h.nd c1] at e;have:b1=b:=by omega
 rw [<- e1,this]
theorem Ba (t:az) (aac:List ByteArray) (k:Nat):(cu t aac k).Pairwise (· < ·):=vM _ _
theorem uX (h:dK t aac) {k:Nat} (hk:k<t.ps.length):Lv aac (bB (fJ t) (dU t) k) (cu t aac k):=fun y=>by
 rw [und_iff h.te hk]
 constructor
 ·rintro ⟨j,hj,h1,h2,rfl⟩
  obtain ⟨b,hb,e⟩:=h.has j hj h2
  refine ⟨b,nP.2 ⟨by omega,by omega,j,hj,h1,h2,?_⟩,e.symm⟩
  rw [<- e,sR h.nd hb]
 ·rintro ⟨b,hb,rfl⟩
  obtain ⟨_,h1,j,hj,h2,h3,h4⟩:=nP.1 hb
  obtain ⟨b',hb',e⟩:=h.has j hj h3
  rw [<- e,sR h.nd hb'] at h4
  refine ⟨j,hj,h2,h3,?_⟩
  rw [<- e]
  congr 1
  omega
theorem Ow (hn:∀j k,j<k->k<aac.length->gs aac k≠gs aac j) {s:RT} {X Y:List Int} (hX:X.Pairwise (· < ·)) (hY:Y.Pairwise (· < ·)) (bX:∀x∈X,0<=x/\x<(aac.length:Int)) (bY:∀x∈Y,0<=x/\x<(aac.length:Int)) (h1:Lv aac s X) (h2:Lv aac s Y):X=Y:=by
 have key:∀ {X Y:List Int},(∀x∈X,0<=x/\x<(aac.length:Int))->(∀x∈Y,0<=x/\x<(aac.length:Int))->Lv aac s X->Lv aac s Y->∀x∈X,x∈Y:=fun {X Y} bX bY h1 h2 x hx=>by obtain ⟨x0,xn⟩:=bX x hx;obtain ⟨b,rfl⟩:=pE x0;obtain ⟨b',hb',e⟩:=(h2 (gs aac b)).1 ((h1 _).2 ⟨b,hx,rfl⟩);have:=bY _ hb';have:=U0 hn (a:=b) (b:=b') (by omega) (by omega) e;rw [this];exact hb'
 exact E6 hX hY fun x=>⟨key bX bY h1 h2 x,key bY bX h2 h1 x⟩
theorem Co (h:dK t aac) {s:List Int}:s∈cW t aac↔yP aac.length s/\∃q∈bH (iZ t),∃X,X.Pairwise (· < ·)/\(∀x∈X,0<=x/\x<(aac.length:Int))/\Lv aac q X/\s=fc aac.length X:=by
 unfold cW;rw [if_pos (kV.2 h),rU];unfold Me;rw [fL,cm,decide_eq_true_eq,nJ];constructor
 ·rintro ⟨⟨k,hk,rfl⟩,h2⟩
  have hk:=bh.1 (fL.1 hk).1;refine ⟨h2,bB (fJ t) (dU t) k,?_,cu t aac k,Ba _ _ _,fun x hx=>by have:=nP.1 hx;exact ⟨this.1,this.2.1⟩,uX h hk,rfl⟩;rw [oo h.te];refine cm.2 ⟨k,?_,rfl⟩;have h0:=(aF h.te).1;refine (gO (eu h.te).wf h0 (af _)).2 ?_;rw [A5 h.te _ 0 k (af _) h0 hk];exact Jm h.te k hk
 ·rintro ⟨h2,q,hq,X,hX,bX,hL,rfl⟩
  refine ⟨?_,h2⟩;rw [oo h.te] at hq;obtain ⟨k,hk,rfl⟩:=cm.1 hq;have hk:=jH h.te hk;have e:=Ow h.nd hX (Ba t aac k) bX (fun x hx=>by have:=nP.1 hx;exact ⟨this.1,this.2.1⟩) hL (uX h hk);refine ⟨k,fL.2 ⟨bh.2 hk,decide_eq_true ?_⟩,by rw [e]⟩;rcases yY k with e0 | e0
  ·exfalso
   subst e0;(have hall:∀b:Nat,b<aac.length->(b:Int)∈X:=fun b hb=>by rw [e];obtain ⟨j,hj,h3,h4⟩:=ym h hb;exact nP.2 ⟨by omega,by omega,j,hj,Jm h.te j hj,h3,by rw [h4,sR h.nd hb]⟩);have h0:=h2.n1;have h3:X.contains 0=true:=iP.2 (hall 0 (by omega));have h4:=h2.len;(have h5:fc aac.length X=[]:=by unfold fc;rw [if_pos h3,JP];intro x hx;obtain ⟨x0,xn,hx⟩:=ny.1 hx;obtain ⟨b,rfl⟩:=pE x0;exact hx (hall b (by omega)));rw [h5] at h4;simp at h4
  ·exact e0
end
end
section
def Mf (ps:List Int):Nat->Nat->List Nat
 | 0,_=>[]
 | d+1,i=>(bq ps i).flatMap (Mf ps d)++if i=0 then [] else [i]
def kH (t:az) (i:Nat):List Nat:=Mf t.ps (t.ps.length - i) i
theorem Cq {α β:Type} {f g:α->List β}:∀ {l:List α},(∀x∈l,f x=g x)->l.flatMap f=l.flatMap g
 | [],_=>rfl
 | a::l,h=>by
  rw [gU,gU,h a (by simp),Cq fun x hx=>h x (pH _ hx)]
theorem RV (ps:List Int):∀(d e i:Nat),ps.length - i<=d->ps.length - i<=e->i<ps.length->Mf ps d i=Mf ps e i
 | 0,e,i,h,_,hi=>by omega
 | d+1,0,i,_,h,hi=>by omega
 | d+1,e+1,i,h1,h2,hi=>by
  rw [Mf,Mf]
  congr 1
  refine Cq fun c hc=>?_
  obtain ⟨c1,c2,_⟩:=cD.1 hc
  exact RV ps d e c (by omega) (by omega) c1
theorem Kg (t:az) {i:Nat} (hi:i<t.ps.length):kH t i=(bq t.ps i).flatMap (kH t)++if i=0 then [] else [i]:=by
 unfold kH;obtain ⟨d,hd⟩:∃d,t.ps.length - i=d+1:=⟨t.ps.length - i - 1,by omega⟩;rw [hd,Mf];congr 1;refine Cq fun c hc=>?_;obtain ⟨c1,c2,_⟩:=cD.1 hc;exact RV t.ps _ _ c (by omega) (af _) c1
section
variable {t:az} {aac:List ByteArray}
theorem Gf (h:aH t=0):∀(d i:Nat),t.ps.length - i<=d->i<t.ps.length->(∀k,k∈kH t i↔k∈dw (fJ t) (dU t) i/\k≠0)/\(kH t i).length<=(dw (fJ t) (dU t) i).length
 | 0,i,hd,hi=>by omega
 | d+1,i,hd,hi=>by
  have e:=fh (eu h).wf hi
  rw [iY] at e
  have ih:∀c∈bq t.ps i,(∀k,k∈kH t c↔k∈dw (fJ t) (dU t) c/\k≠0)/\(kH t c).length<=(dw (fJ t) (dU t) c).length:=fun c hc=>by
   obtain ⟨c1,c2,_⟩:=cD.1 hc
   exact Gf h d c (by omega) c1
  rw [Kg t hi,e]
  constructor
  ·intro k
   rw [dV,jP,aW,jP]
   constructor
   ·rintro (⟨c,hc,hk⟩ | hk)
    ·obtain ⟨h1,h2⟩:=((ih c hc).1 k).1 hk
     exact ⟨.inr ⟨c,hc,h1⟩,h2⟩
    ·by_cases h0:i=0
     ·rw [if_pos h0] at hk;cases hk
     ·rw [if_neg h0,dP] at hk
      subst hk;exact ⟨.inl rfl,h0⟩
   ·rintro ⟨rfl | ⟨c,hc,hk⟩,h2⟩
    ·rw [if_neg h2];exact .inr (by simp)
    ·exact .inl ⟨c,hc,((ih c hc).1 k).2 ⟨hk,h2⟩⟩
  ·have hs:∀l:List Nat,(∀c∈l,(kH t c).length<=(dw (fJ t) (dU t) c).length)->(l.flatMap (kH t)).length<=(l.flatMap (dw (fJ t) (dU t))).length:=fun l=>by
    induction l with
    | nil=>intro _;exact af _
    | cons a l ihl =>
     intro hl
     have h1:=hl a (by simp)
     have h2:=ihl fun c hc=>hl c (pH _ hc)
     rw [gU,gU,aZ,aZ];omega
   have h1:=hs _ fun c hc=>(ih c hc).2
   have h2:(if i=0 then ([]:List Nat) else [i]).length<=1:=by split<;>simp
   rw [aZ,aT]
   show _<=((bq t.ps i).flatMap (dw (fJ t) (dU t))).length+1
   omega
theorem Zy (h:aH t=0) {k:Nat}:k∈kH t 0↔0<k/\k<t.ps.length:=by
 have h0:=(aF h).1;rw [(Gf h _ 0 (af _) h0).1,(tS h).mem_iff,bh];omega
theorem Zz (h:aH t=0):(kH t 0).length<=t.ps.length:=by
 have h0:=(aF h).1;refine aJ (Gf h _ 0 (af _) h0).2 ?_;rw [(tS h).length_eq,wP];exact af _
theorem VQ (h:dK t aac) {i:Nat} (hi:i<t.ps.length):0<(cu t aac i).length:=by
 have hg:iq (bB (fJ t) (dU t) i):=(ou h.te).sub (by
  rw [oo h.te]
  exact cm.2 ⟨i,(tS h.te).mem_iff.2 (bh.2 hi),rfl⟩)
 obtain ⟨x,hx⟩:=hg.meet (ja _);obtain ⟨b,hb,_⟩:=(uX h hi x).1 hx;exact Fv hb
theorem lvS_leaf (h:dK t aac) {i:Nat} (hi:i<t.ps.length) (hk:bq t.ps i=[]):cu t aac i=[iD aac (gs t.ns i)]:=by
 have hz:=jR (uP h.te hi hk);obtain ⟨b,hb,e⟩:=h.has i hi hz;have hf:iD aac (gs t.ns i)=(b:Int):=by rw [<- e];exact sR h.nd hb
 refine Ow h.nd (Ba t aac i) (by simp) (fun x hx=>by have:=nP.1 hx;exact ⟨this.1,this.2.1⟩) (fun x hx=>by
  rw [dP.1 hx,hf];omega) (uX h hi) fun y=>?_
 rw [fO (eu h.te).wf hi,iY,hk,wQ,show (fJ t).nm i=gs t.ns i from rfl,FU hz,hf];constructor
 ·intro hy;exact ⟨b,by simp,by rw [e];simpa using hy⟩
 ·rintro ⟨c,hc,rfl⟩
  have:c=b:=by have:=dP.1 hc;omega
  subst this;rw [e];simp
theorem lvS_node (h:dK t aac) {i:Nat} (hi:i<t.ps.length) (hk:bq t.ps i≠[]):jC ((bq t.ps i).flatMap (cu t aac))=cu t aac i:=by
 have hmem:bB (fJ t) (dU t) i∈bH (iZ t):=by rw [oo h.te];exact cm.2 ⟨i,(tS h.te).mem_iff.2 (bh.2 hi),rfl⟩
 have hg:iq (bB (fJ t) (dU t) i):=(ou h.te).sub hmem;have eT:=fO (eu h.te).wf hi;rw [iY] at eT;have hz:((fJ t).nm i).size=0:=by have:=hg.wm _ (ja _);rw [eT] at this;exact this (by show List.map _ _≠[];simpa using hk)
 have hlf:dx (bB (fJ t) (dU t) i)=((bq t.ps i).map (bB (fJ t) (dU t))).flatMap dx:=by rw [eT];exact kT hz
 have kl:∀c∈bq t.ps i,c<t.ps.length:=fun c hc=>(cD.1 hc).1;have hbd:∀c,∀x∈cu t aac c,0<=x/\x<(aac.length:Int):=fun c x hx=>by have:=nP.1 hx;exact ⟨this.1,this.2.1⟩
 have fe:((bq t.ps i).flatMap (cu t aac)).Nodup:=by have hn:=hg.nd;rw [hlf,Ef,Hs] at hn;have h2:=uD.1 hn.2;rw [Ef,Hs];refine ⟨fun c _=>(Ba t aac c).imp fun h e=>by omega,h2.imp_of_mem fun {a b} ha hb hab x hx y hy e=>?_⟩;subst e;obtain ⟨q,rfl⟩:=pE (hbd a x hx).1;exact hab _ ((uX h (kl a ha) _).2 ⟨q,hx,rfl⟩) _ ((uX h (kl b hb) _).2 ⟨q,hy,rfl⟩) rfl
 have hasc:(jC ((bq t.ps i).flatMap (cu t aac))).Pairwise (· < ·):=by have h1:=sortL_pair ((bq t.ps i).flatMap (cu t aac));have h2:(jC ((bq t.ps i).flatMap (cu t aac))).Nodup:=(Ee _ _).nodup_iff.2 fe;rw [Ef] at h2;exact (h1.and h2).imp fun ⟨a,b⟩=>by omega
 refine Ow h.nd hasc (Ba t aac i) (fun x hx=>?_) (hbd i) (fun y=>?_) (uX h hi)
 ·obtain ⟨c,_,hc⟩:=jP.1 ((Ee _ _).mem_iff.1 hx)
  exact hbd c x hc
 ·rw [hlf,jP]
  constructor
  ·rintro ⟨r,hr,hy⟩
   obtain ⟨c,hc,rfl⟩:=cm.1 hr;obtain ⟨b,hb,e⟩:=(uX h (kl c hc) y).1 hy;exact ⟨b,(Ee _ _).mem_iff.2 (jP.2 ⟨c,hc,hb⟩),e⟩
  ·rintro ⟨b,hb,e⟩
   obtain ⟨c,hc,hb⟩:=jP.1 ((Ee _ _).mem_iff.1 hb);exact ⟨_,cm.2 ⟨c,hc,rfl⟩,(uX h (kl c hc) y).2 ⟨b,hb,e⟩⟩
end
theorem par_lt {t:az} (h:aH t=0) {k i:Nat} (hk:k<t.ps.length) (e:gi t.ps k=(i:Int)):i<k:=by
 have hok:=(aF h).2.2.2.1;by_cases h0:k=0
 ·subst h0
  have h1:=JV hok hk;unfold qq at h1;simp at h1;omega
 ·have:=jb hok hk (by omega)
  omega
end
end Go.Proofs.YthgabkgmkolobaaGreat
