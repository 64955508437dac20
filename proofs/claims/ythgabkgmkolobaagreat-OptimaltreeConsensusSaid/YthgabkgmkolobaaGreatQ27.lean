/- split.Of: what its loop keeps. The .. -/
import Derived.Test.YthgabkgmkolobaaGreatQ25
import Derived.Test.YthgabkgmkolobaaGreatQ26
set_option maxRecDepth 100000
set_option maxHeartbeats 2000000
namespace Go.Proofs.YthgabkgmkolobaaGreat
section
open Go.RowKit Go.Deep Go.Shelf
def Fp (t:ax) (amd:List ByteArray) (l:List Nat):List (List Int):=(l.map fun k=>cu amd.length (bD t amd k)).filter fun s=>decide (aV amd.length s=0)
theorem Nu (t:ax) (amd:List ByteArray) (l:List Nat) (k:Nat):Fp t amd (l++[k])=Fp t amd l++if aV amd.length (cu amd.length (bD t amd k))=0 then [cu amd.length (bD t amd k)] else []:=by
 unfold Fp;rw [cg,rO];congr 1;by_cases h:aV amd.length (cu amd.length (bD t amd k))=0<;>simp [h]
theorem aq.grown {S:Nat->Prop} {X Y:World} {v:Value} {n:Nat} {f:Nat->Value} {row:Option Nat} (h:aq S X v n f) (hg:X.grownBy Y row) (hr:∀r,row=some r->∃o,X.heap[r]? = some o/\o.isCells=false):aq S Y v n f:=by
 obtain ⟨p,cap,rfl,hn,h⟩:=h;refine ⟨p,cap,rfl,hn,?_⟩;by_cases h0:n=0
 ·exact .inl h0
 ·rcases h with h | ⟨g,off,rfl,hS,hc⟩
  ·exact absurd h h0
  ·refine .inr ⟨g,off,rfl,hS,fun k hk=>?_⟩
   have h1:=hc k hk;have hl:=dL X _ h1;refine (cU (a:=⟨g,off+k,none⟩) (hg.block g hl fun e=>?_)).trans h1;obtain ⟨o,h2,h3⟩:=hr g e.symm;simp only [World.cell?] at h1;rw [h2] at h1;cases o<;>simp [Obj.isCells] at h3<;>simp at h1
def uL (W:World) (b:Nat):Prop:=∃c z,W.heap[b]? = some (Obj.cells c 3 z)
theorem uL.same {W W':World} {b:Nat} (h:uL W b) (e:W'.heap[b]? = W.heap[b]?):uL W' b:=by
 obtain ⟨c,z,h⟩:=h;exact ⟨c,z,e.trans h⟩
structure qJ (w6:World) (t:ax) (amd:List ByteArray) (pre:List El) (L:Nat->Prop) (W:World):Prop where
 up:Up w6 W
 sz:w6.heap.size+2<=W.heap.size
 lo:∀b,L b->w6.heap.size<=b
 nL:¬L w6.heap.size/\¬L (w6.heap.size+1)
 nb:W.heap[w6.heap.size]? = some (Obj.cells #[.int .i64 (amd.length:Int)] 3 (0,0))
 ex:∃(ov:Value) (ps:List (List Int×Value)),W.heap[w6.heap.size+1]? = some (Obj.cells #[ov] 23 (0,0))/\au (w6.heap.size+2) 26 W ov (ps.map (·.2))/\ps.map (·.1)=Fp t amd (pre.map (·.1))/\ps.length<=pre.length /\
  (∀p∈ps,∃q c,p.2=.slice q p.1.length c)/\(∀p∈ps,af (fun b=>ov.ownBlock≠some b/\b≠w6.heap.size+1/\(¬L b/\uL W b)) W p.2 p.1)/\∀g,ov.ownBlock=some g->¬L g
section
variable {w6:World} {t:ax} {amd:List ByteArray}
theorem qJ.ab:QN (qJ w6 t amd):=by
 rintro s L L' W W' h hs;obtain ⟨ov,ps,h1,h2,h3,h4,h5,h6,h7⟩:=h.ex;have hsz:=h.sz;have hnl:∀b,b<W.heap.size->¬L b->¬L' b:=fun b hb hn hb'=>by
  rcases hs.more b hb' with e | e
  ·exact hn e.1
  ·omega
 refine ⟨⟨hs.os.trans h.up.os,hs.tape.trans h.up.tape,hs.output.trans h.up.output,aB h.up.size hs.size,fun b hb=>(hs.block b (by omega) fun e=>by have:=h.lo b e;omega).trans (h.up.block b hb)⟩,by have:=hs.size;omega,fun b hb=>?_,⟨hnl _ (by omega) h.nL.1,hnl _ (by omega) h.nL.2⟩,
  (hs.block _ (by omega) h.nL.1).trans h.nb,ov,ps,(hs.block _ (by omega) h.nL.2).trans h1,au.yc h2 fun b hb=>hs.block b (av h2 hb).2 (h7 b hb),h3,h4,h5,fun p hp=>?_,fun g hg=>hnl g (av h2 hg).2 (h7 g hg)⟩
 ·rcases hs.more b hb with e | e
  ·exact h.lo b e.1
  ·omega
 ·have hk:=h6 p hp
  obtain ⟨q,cap,hv,hn,hx⟩:=hk;refine ⟨q,cap,hv,hn,?_⟩;by_cases h0:p.1.length=0
  ·exact .inl h0
  ·rcases hx with hx | ⟨g,off,e,⟨s1,s2,s3⟩,hc⟩
   ·exact absurd hx h0
   ·have hl:=dL W _ (hc 0 (by omega))
    exact .inr ⟨g,off,e,⟨s1,s2,hnl g hl s3.1,s3.2.same (hs.block g hl s3.1)⟩,fun k hk=>(cU (a:=⟨g,off+k,none⟩) (hs.block g hl s3.1)).trans (hc k hk)⟩
theorem qJ.own {B:Nat} (hB:w6.heap.size+2<=B) (L:Nat->Prop):OwnFrom B (fun s W=>qJ w6 t amd s L W):=by
 intro s X Y row h hg hr;obtain ⟨ov,ps,h1,h2,h3,h4,h5,h6,h7⟩:=h.ex;have hsz:=h.sz;have qj:∀b,b<w6.heap.size+2->Y.heap[b]? = X.heap[b]?:=fun b hb=>hg.block b (by omega) fun e=>by have:=(hr b e.symm).1;omega
 have tyi:∀b,uL X b->uL Y b:=fun b ⟨c,z,hc⟩=>⟨c,z,(hg.block b (fq.1 hc).1 fun e=>by
  obtain ⟨_,o,h8,h9⟩:=hr b e.symm
  rw [hc] at h8;injection h8 with h8;subst h8;cases h9).trans hc⟩
 refine ⟨⟨hg.os.trans h.up.os,hg.tape.trans h.up.tape,hg.output.trans h.up.output,aB h.up.size hg.size,fun b hb=>(qj b (by omega)).trans (h.up.block b hb)⟩,by have:=hg.size;omega,h.lo,h.nL,(qj _ (by omega)).trans h.nb,ov,ps,(qj _ (by omega)).trans h1,
  au.yc h2 fun b hb=>hg.block b (av h2 hb).2 fun e=>?_,h3,h4,h5,fun p hp=>af.sub (show af _ Y p.2 p.1 from aq.grown (h6 p hp) hg fun r e=>(hr r e).2) fun b hb _=>⟨hb.1,hb.2.1,hb.2.2.1,tyi b hb.2.2.2⟩,h7⟩
 obtain ⟨_,o,h8,h9⟩:=hr b e.symm;obtain ⟨c,h10⟩:=au.kL h2 hb;rw [h10] at h8;injection h8 with h8;subst h8;cases h9
theorem aeP {B:Nat} (x:El) (L:Nat->Prop):OwnFrom B (fun (_:Unit) W=>Q4 t amd x L W):=by
 intro s X Y row h hg hr;obtain ⟨h1,h2,p,c,e,h3,h4⟩:=h;refine ⟨h1,h2,p,c,e,aq.grown h3 hg fun r e=>(hr r e).2,fun g uW=>?_⟩;obtain ⟨cc,z,h5⟩:=h4 g uW;refine ⟨cc,z,(hg.block g (fq.1 h5).1 fun e=>?_).trans h5⟩;obtain ⟨_,o,h8,h9⟩:=hr g e.symm;rw [h5] at h8;injection h8 with h8;subst h8;cases h9
theorem ag3 (x:El) (L:Nat->Prop) (W:World) (b:Nat) (h:Q4 t amd x L W) (hb:x.2.ownBlock=some b):∃o,W.heap[b]? = some o/\o.isCells=true:=by
 obtain ⟨_,_,_,_,_,_,h4⟩:=h;obtain ⟨c,z,h5⟩:=h4 b hb;exact ⟨_,h5,rfl⟩
theorem qJ.grow {pre:List El} {L:Nat->Prop} {W W':World} (h:qJ w6 t amd pre L W) (hL:∀b,L b->b<W.heap.size) (hu:Up W W'):qJ w6 t amd pre L W' :=
 qJ.ab pre L L W W' h ⟨hu.os,hu.tape,hu.output,hu.size,fun b hb _=>bH hu b hb,fun b hb=>.inl ⟨hb,hL b hb⟩⟩
theorem qJ.pass {pre:List El} {L:Nat->Prop} {W:World} (h:qJ w6 t amd pre L W) {x:El} (hx:aV amd.length (cu amd.length (bD t amd x.1))≠0):qJ w6 t amd (pre++[x]) L W:=by
 obtain ⟨ov,ps,h1,h2,h3,h4,h5,h6,h7⟩:=h.ex;exact ⟨h.up,h.sz,h.lo,h.nL,h.nb,ov,ps,h1,h2,by rw [cg,List.map_singleton,Nu,if_neg hx,eG];exact h3,by simp;omega,h5,h6,h7⟩
theorem Y5 {base:Nat} {e:TypeId} {W:World} {v:Value} {a b:List Value} (h:au base e W v a) (k:au base e W v b):a=b:=by
 obtain ⟨_,⟨h1,h2⟩ | ⟨g,cap,cur,h1,_,h2,_,_,_,h3⟩⟩:=h<;>obtain ⟨_,⟨k1,k2⟩ | ⟨g',cap',cur',k1,_,k2,_,_,_,k3⟩⟩:=k
 ·rw [xO.1 h2,xO.1 k2]
 ·rw [h1] at k1;cases k1
 ·rw [h1] at k1;cases k1
 ·rw [h1] at k1
  injection k1 with e1 e2 _;injection e1 with e1;injection e1 with e1 _ _;subst e1;rw [h2] at k2;injection k2 with k2;injection k2 with k2 _ _;subst k2;rw [<- h3,<- k3,e2]
theorem qJ.push {pre:List El} {L:Nat->Prop} {W:World} (h:qJ w6 t amd pre L W) (hL:∀b,L b->b<W.heap.size) {x:El} (hx:aV amd.length (cu amd.length (bD t amd x.1))=0) {u:Value} (hu:∃q c,u=.slice q (cu amd.length (bD t amd x.1)).length c)
  (hi:af (fun b=>¬L b) W u (cu amd.length (bD t amd x.1))) (ht:∀g,u.ownBlock=some g->∃c z,W.heap[g]? = some (Obj.cells c 3 z)) {ov:Value} (wK:W.heap[w6.heap.size+1]? = some (Obj.cells #[ov] 23 (0,0))) {W3:World} {v':Value}
  {vs:List Value} (hvs:au (w6.heap.size+2) 26 W ov vs) (hno:au (w6.heap.size+2) 26 W3 v' (vs++[u])) (hg:W.grownBy W3 ov.ownBlock) (hb:∀g,v'.ownBlock=some g->ov.ownBlock=some g\/W.heap.size<=g) :
  qJ w6 t amd (pre++[x]) L (W3.setCell ⟨w6.heap.size+1,0,none⟩ v')/\KeepsFrom (w6.heap.size+2) W (W3.setCell ⟨w6.heap.size+1,0,none⟩ v')/\∀b,b<W.heap.size->ov.ownBlock≠some b->b≠w6.heap.size+1->(W3.setCell ⟨w6.heap.size+1,0,none⟩ v').heap[b]? = W.heap[b]?:=by
 obtain ⟨ov',ps,h1,h2,h3,h4,h5,h6,h7⟩:=h.ex;rw [wK] at h1;injection h1 with h1;injection h1 with h1 _ _;injection h1 with h1;injection h1 with h1;subst h1;have hsz:=h.sz;have cA:∀b,b≠w6.heap.size+1->(W3.setCell ⟨w6.heap.size+1,0,none⟩ v').heap[b]? = W3.heap[b]?:=fun b hb=>blk_setCell_other _ _ _ _ hb;have ajJ:W3.heap[w6.heap.size+1]? = some (Obj.cells #[ov] 23 (0,0)):=(hg.block _ (by omega) fun e=>by have:=(av h2 e.symm).1;omega).trans wK;have hall:∀b,b<W.heap.size->ov.ownBlock≠some b->b≠w6.heap.size+1->(W3.setCell ⟨w6.heap.size+1,0,none⟩ v').heap[b]? = W.heap[b]?:=fun b h1 h2 h3=>(cA b h3).trans (hg.block b h1 fun e=>h2 e.symm);have evs:=Y5 hvs h2;subst evs;have qj:∀b,b<w6.heap.size+1->(W3.setCell ⟨w6.heap.size+1,0,none⟩ v').heap[b]? = W.heap[b]?:=fun b hb=>hall b (by omega) (fun e=>by have:=(av h2 e).1;omega) (by omega);have hkeep:∀ {v:Value} {xs:List Int},af (fun b=>ov.ownBlock≠some b/\b≠w6.heap.size+1/\(¬L b/\uL W b)) W v xs->af (fun b=>v'.ownBlock≠some b/\b≠w6.heap.size+1/\(¬L b/\uL (W3.setCell ⟨w6.heap.size+1,0,none⟩ v') b)) (W3.setCell ⟨w6.heap.size+1,0,none⟩ v') v xs:=fun {v xs} hk=>by
  obtain ⟨q,cap,hv,hn,hx⟩:=hk;refine ⟨q,cap,hv,hn,?_⟩;by_cases h0:xs.length=0
  ·exact .inl h0
  ·rcases hx with hx | ⟨g,off,e,⟨s1,s2,s3⟩,hc⟩
   ·exact absurd hx h0
   ·have hl:=dL W _ (hc 0 (by omega))
    have hl:g<W.heap.size:=hl;refine .inr ⟨g,off,e,⟨fun e2=>?_,s2,s3.1,s3.2.same (hall g hl s1 s2)⟩,fun k hk=>(cU (a:=⟨g,off+k,none⟩) (hall g hl s1 s2)).trans (hc k hk)⟩;rcases hb g e2 with e3 | e3
    ·exact s1 e3
    ·omega
 refine ⟨⟨⟨hg.os.trans h.up.os,hg.tape.trans h.up.tape,hg.output.trans h.up.output,by rw [nh];have:=hg.size;have:=h.up.size;omega,fun b hb=>(qj b (by omega)).trans (h.up.block b hb)⟩,by rw [nh];have:=hg.size;omega,h.lo,h.nL,(qj _ (by omega)).trans h.nb,v',ps++[(cu amd.length (bD t amd x.1),u)],?_,?_,?_,by simp;omega,?_,?_,?_⟩,⟨by rw [nh];exact hg.size,fun k o hk hk2 hk3=>?_⟩,hall⟩
 ·simp [World.setCell,Array.getElem?_modify,ajJ]
 ·rw [cg]
  exact au.yc hno fun b hb=>cA b (by have:=(av hno hb).1;omega)
 ·rw [cg,h3,cg,List.map_singleton,List.map_singleton,Nu,if_pos hx]
 ·intro p hp
  rcases ey.1 hp with hp | hp
  ·exact h5 p hp
  ·rw [cN.1 hp];exact hu
 ·intro p hp
  rcases ey.1 hp with hp | hp
  ·exact hkeep (h6 p hp)
  ·rw [cN.1 hp]
   refine hkeep ?_;obtain ⟨q,cap,hv,hn,hxx⟩:=hi;refine ⟨q,cap,hv,hn,hxx.imp id fun ⟨g,off,e,s3,hc⟩=>⟨g,off,e,⟨fun e2=>?_,fun e2=>?_,s3,ht g (by show u.ownBlock=some g;rw [show u=_ from hv,e];rfl)⟩,hc⟩⟩
   ·obtain ⟨c,z,h8⟩:=ht g (by show u.ownBlock=some g;rw [show u=_ from hv,e];rfl)
    obtain ⟨c2,h9⟩:=au.kL h2 e2;rw [h8] at h9;injection h9 with h9;injection h9 with _ h9 _;exact absurd h9 (by decide)
   ·obtain ⟨c,z,h8⟩:=ht g (by show u.ownBlock=some g;rw [show u=_ from hv,e];rfl)
    rw [e2,wK] at h8;injection h8 with h8;injection h8 with _ h8 _;exact absurd h8 (by decide)
 ·intro g uW hL'
  rcases hb g uW with e | e
  ·exact h7 g e hL'
  ·have:=hL g hL';omega
 ·have jt:=(fq.1 hk2).1
  rw [hall k jt (fun e=>?_) (by omega)]
  ·exact hk2
  ·obtain ⟨c,h9⟩:=au.kL h2 e
   rw [hk2] at h9;injection h9 with h9;subst h9;cases hk3
theorem qJ.Re {B:Nat} {pre:List El} {L:Nat->Prop} {W W':World} (h:qJ w6 t amd pre L W) (hL:∀b,L b->b<W.heap.size) (hu:Up W W') {x:El} (hg:∀g,x.2.ownBlock=some g->∃c z,W.heap[g]? = some (Obj.cells c 3 z)) (hx:aV amd.length (cu amd.length (bD t amd x.1))≠0) :
  KeepsFrom B W W'/\Below w6.heap.size w6 W'/\(∀b,(L b\/x.2.ownBlock=some b)->W'.heap[b]? = W.heap[b]?)/\qJ w6 t amd (pre++[x]) L W':=by
 have h2:=(h.grow hL hu).pass hx;refine ⟨KeepsFrom.of_grownBy (IE hu none) (fun j e=>by cases e),h2.up,fun b hb=>bH hu b ?_,h2⟩;rcases hb with hb | hb
 ·exact hL b hb
 ·obtain ⟨c,z,h5⟩:=hg b hb
  exact (fq.1 h5).1
theorem qJ.Rf {B:Nat} (hB:w6.heap.size+2<=B) {pre:List El} {L:Nat->Prop} {W W2:World} (h:qJ w6 t amd pre L W) (hL:∀b,L b->b<W.heap.size) (aI:Up W W2) {x:El} (hgx:∀g,x.2.ownBlock=some g->∃c z,W.heap[g]? = some (Obj.cells c 3 z)) (hx:aV amd.length (cu amd.length (bD t amd x.1))=0) {u:Value} (hu:∃q c,u=.slice q (cu amd.length (bD t amd x.1)).length c)
  (hi:af (fun b=>¬L b) W2 u (cu amd.length (bD t amd x.1))) (ht:∀g,u.ownBlock=some g->∃c z,W2.heap[g]? = some (Obj.cells c 3 z)) {ov:Value} (wK:W2.heap[w6.heap.size+1]? = some (Obj.cells #[ov] 23 (0,0))) {W3:World} {v':Value}
  {vs:List Value} (hvs:au (w6.heap.size+2) 26 W2 ov vs) (hno:au (w6.heap.size+2) 26 W3 v' (vs++[u])) (hg:W2.grownBy W3 ov.ownBlock) (hb:∀g,v'.ownBlock=some g->ov.ownBlock=some g\/W2.heap.size<=g) :
  KeepsFrom B W (W3.setCell ⟨w6.heap.size+1,0,none⟩ v')/\Below w6.heap.size w6 (W3.setCell ⟨w6.heap.size+1,0,none⟩ v')/\(∀b,(L b\/x.2.ownBlock=some b)->(W3.setCell ⟨w6.heap.size+1,0,none⟩ v').heap[b]? = W.heap[b]?)/\qJ w6 t amd (pre++[x]) L (W3.setCell ⟨w6.heap.size+1,0,none⟩ v'):=by
 have h2:=h.grow hL aI;have hL2:∀b,L b->b<W2.heap.size:=fun b hb=>iI (hL b hb) aI.size;obtain ⟨p1,p2,p3⟩:=h2.push hL2 hx hu hi ht wK hvs hno hg hb;have k1:KeepsFrom B W W2:=KeepsFrom.of_grownBy (IE aI none) (fun j e=>by cases e);have k2:KeepsFrom B W2 (W3.setCell ⟨w6.heap.size+1,0,none⟩ v'):=⟨p2.size,fun k o hk=>p2.same k o (by omega)⟩;refine ⟨k1.trans k2,p1.up,fun b hb=>?_,p1⟩;have hbl:b<W.heap.size:=by
  rcases hb with hb | hb
  ·exact hL b hb
  ·obtain ⟨c,z,h5⟩:=hgx b hb
   exact (fq.1 h5).1
 refine (p3 b (iI hbl aI.size) (fun e=>?_) (fun e=>?_)).trans (bH aI b hbl)
 ·rcases hb with hb | hb
  ·obtain ⟨ov',ps,h3,h4,_,_,_,_,h5⟩:=h2.ex
   rw [wK] at h3;injection h3 with h3;injection h3 with h3 _ _;injection h3 with h3;injection h3 with h3;subst h3;exact h5 b e hb
  ·obtain ⟨c,z,h5⟩:=hgx b hb
   obtain ⟨c2,h6⟩:=au.kL hvs e;rw [bH aI b hbl,h5] at h6;injection h6 with h6;injection h6 with _ h6 _;exact absurd h6 (by decide)
 ·rcases hb with hb | hb
  ·exact h2.nL.2 (e ▸ hb)
  ·obtain ⟨c,z,h5⟩:=hgx b hb
   have h6:=(bH aI b hbl).trans h5;rw [e,wK] at h6;injection h6 with h6;injection h6 with _ h6 _;exact absurd h6 (by decide)
end
theorem Fq (xs:List Int) (x:Int):((List.range xs.length).any fun j=>decide (x=gi xs j))=xs.contains x:=by
 rw [mW,dx,dU];constructor
 ·rintro ⟨j,hj,e⟩
  rw [of_decide_eq_true e];exact gi_in (bu.1 hj)
 ·intro h
  obtain ⟨k,hk,e⟩:=Dm h;exact ⟨k,bu.2 hk,decide_eq_true e.symm⟩
theorem sk.rows {base:Nat} {w:World} {v:Value} {ps:List (List Int×Value)} (h:sk base w v ps):aT Any w v (ps.map (·.1)):=by
 have h1:=h.own.uf;rw [aD] at h1;refine ⟨_,by rw [aD];exact h1.sub fun _ _ _=>trivial,fun k hk=>?_⟩;have hk':k<ps.length:=by simpa using hk
 have h2:=(h.row ps[k] (jy hk')).sub (T:=Any) fun _ _ _=>trivial;have e:gl (ps.map (·.1)) k=ps[k].1:=by simp [gl,hk']
 rw [e];simpa [hk'] using h2
theorem sk.aiK {S:Nat->Prop} {base:Nat} {w:World} {v:Value} {ps:List (List Int×Value)} (h:sk base w v ps) (ht:∀p∈ps,af S w p.2 p.1):∃f,aq (fun b=>base<=b) w v (ps.map (·.1)).length f/\∀k,k<(ps.map (·.1)).length->af S w (f k) (gl (ps.map (·.1)) k):=by
 have h1:=h.own.uf;rw [aD] at h1;refine ⟨_,by rw [aD];exact h1,fun k hk=>?_⟩;have hk':k<ps.length:=by simpa using hk
 have h2:=ht ps[k] (jy hk');have e:gl (ps.map (·.1)) k=ps[k].1:=by simp [gl,hk']
 rw [e];simpa [hk'] using h2
theorem IG {W W':World} {row:Option Nat} {v:Value} {xs:List Int} (h:af (uL W) W v xs) (hg:W.grownBy W' row) (hr:∀r,row=some r->¬uL W r):af (uL W') W' v xs:=by
 have hs:∀b,uL W b->W'.heap[b]? = W.heap[b]?:=fun b hb=>hg.block b (by obtain ⟨c,z,hc⟩:=hb;exact (fq.1 hc).1) fun e=>hr b e.symm hb;exact (af.keep h fun b hb _=>hs b hb).sub fun b hb _=>hb.same (hs b hb)
theorem Rg {base:Nat} {W:World} {v:Value} {vs:List Value} (h:au base 26 W v vs):∀r,v.ownBlock=some r->¬uL W r:=fun r hr ⟨c,z,hc⟩=>by
 obtain ⟨c2,h9⟩:=au.kL h hr
 rw [hc] at h9;injection h9 with h9;injection h9 with _ h9 _;exact absurd h9 (by decide)
theorem ab0 {t:ax} {amd:List ByteArray} (h:aA t=0) {s:List Int}:s∈Fp t amd (js t 0)↔s∈IC t amd:=by
 unfold Fp IC;rw [gP,gP,bI,bI];constructor
 ·rintro ⟨⟨k,hk,e⟩,h2⟩
  have:=(Ul h).1 hk;exact ⟨⟨k,gP.2 ⟨bu.2 this.2,decide_eq_true this.1⟩,e⟩,h2⟩
 ·rintro ⟨⟨k,hk,e⟩,h2⟩
  obtain ⟨h3,h4⟩:=gP.1 hk;exact ⟨⟨k,(Ul h).2 ⟨of_decide_eq_true h4,bu.1 h3⟩,e⟩,h2⟩
theorem Y6 {t:ax} {amd:List ByteArray} (h:jG t amd) {l:List (List Int)} (hp:l.Perm (Fp t amd (js t 0))) (hs:l.Pairwise fun a b=>cmpL a b<=0):jd l=dP t amd:=by
 have e:=Wj hp hs;unfold dP;rw [if_pos (oD.2 h),e];show wX _=_;exact Wk fun s=>ab0 h.te
end
section
open Go.RowKit Go.Shelf Go.Deep Go.Sort
theorem Tc (w:World) (mp:Option Addr) (n c:Nat):Calls Tryz.prog 164 #[.slice mp n c] w fun e w'=>e=.returned (.func (.func 215) #[] #[.pointer (some ⟨w.heap.size,0,none⟩)])/\w'=w.alloc (.cells #[.slice mp n c] 22):=by
 go_in;go_wp2;go_ret;exact ⟨by simp,rfl⟩
abbrev Dv:=Nat×Value×Value
def GvD (amd:List ByteArray) (x:Dv) (L:Nat->Prop) (W:World):Prop:=(1<=x.1/\x.1<2 ^ (amd.length - 1))/\aj L W x.2.1 (dA amd x.1)/\aj L W x.2.2 (dB amd x.1)
theorem aeQ {amd:List ByteArray} {B:Nat} (x:Dv) (L:Nat->Prop):OwnFrom B (fun (_:Unit) W=>GvD amd x L W):=by
 intro s X Y row h hg hr;obtain ⟨h1,h2,h3⟩:=h;exact ⟨h1,aq.grown h2 hg fun r e=>(hr r e).2,aq.grown h3 hg fun r e=>(hr r e).2⟩
theorem ab1:∀q:Nat,q<8->bits BinOp.and IntKind.i64 ((q:Nat):Int) 1=((q:Nat):Int) % 2:=by decide +kernel
theorem aeR (k i:Nat):(((k / 2 ^ i:Nat):Int)) % 2=if k.testBit i then 1 else 0:=by
 rw [Nat.testBit_eq_decide_div_mod_eq];generalize k / 2 ^ i=q;by_cases h:q % 2=1
 ·rw [decide_eq_true h,if_pos rfl];omega
 ·rw [decide_eq_false h,if_neg (by decide)];omega
structure Dup (B:Nat) (W:World) (a b:Value) (A C:List ByteArray):Prop where
 ao:au B 9 W a (A.map Value.string)
 bo:au B 9 W b (C.map Value.string)
 ap:∀g,a.ownBlock=some g->b.ownBlock≠some g
theorem Dup.ajK {B:Nat} {W W':World} {a b:Value} {A C:List ByteArray} {g cap k:Nat} {s:ByteArray} (h:Dup B W a b A C) (ho:au B 9 W' (.slice (some ⟨g,0,none⟩) k cap) (A.map Value.string++[.string s])) (hg:W.grownBy W' a.ownBlock) (gH:a.ownBlock=some g\/W.heap.size<=g):Dup B W' (.slice (some ⟨g,0,none⟩) k cap) b (A++[s]) C:=by
 refine ⟨by rw [cg];exact ho,h.bo.eH fun x hx=>hg.block x (av h.bo hx).2 fun e=>h.ap x e.symm hx,fun x hx hx2=>?_⟩;have hx:some g=some x:=hx;injection hx with hx;subst hx;rcases gH with e | e
 ·exact h.ap g e hx2
 ·have:=(av h.bo hx2).2;omega
theorem Dup.ajL {B:Nat} {W W':World} {a b:Value} {A C:List ByteArray} {g cap k:Nat} {s:ByteArray} (h:Dup B W a b A C) (ho:au B 9 W' (.slice (some ⟨g,0,none⟩) k cap) (C.map Value.string++[.string s])) (hg:W.grownBy W' b.ownBlock) (gH:b.ownBlock=some g\/W.heap.size<=g):Dup B W' a (.slice (some ⟨g,0,none⟩) k cap) A (C++[s]):=by
 refine ⟨h.ao.eH fun x hx=>hg.block x (av h.ao hx).2 fun e=>h.ap x hx e.symm,by rw [cg];exact ho,fun x hx hx2=>?_⟩;have hx2:some g=some x:=hx2;injection hx2 with hx2;subst hx2;rcases gH with e | e
 ·exact h.ap g hx e
 ·have:=(av h.ao hx).2;omega
section
variable {w0 w9:World} {amd:List ByteArray} {Bt N:Nat}
theorem ab2 (m:Nat) {mp:Option Addr} {mc:Nat} (h2:2<=amd.length) (h4:amd.length<=4) (hB:w0.heap.size<=Bt)
  (hb:w9.cell? ⟨Bt,0,none⟩=some (.slice mp amd.length mc)) (AP:aj Any w0 (.slice mp amd.length mc) amd) (hN:2 ^ (amd.length - 1) - 1<=N) :
  abK Fence.wide m Tryz.prog 215 #[.pointer (some ⟨Bt,0,none⟩)] (fun x:Dv=>#[x.2.1,x.2.2]) (GvD amd) (fun _ _=>False) (fun xs=>xs.map (·.1)=List.range' 1 (2 ^ (amd.length - 1) - 1)) N w0 w9 (fun b=>b=Bt):=by
 intro l J W hW Us hW9 hA hY hJ;obtain ⟨lt1,YX⟩:=Us Bt rfl;have wB:=(cU (a:=⟨Bt,0,none⟩) YX).trans hb;obtain ⟨nb,no,rfl,hc0⟩:=cH AP (k:=0) (by omega);obtain ⟨M,hM⟩:∃M,M=2 ^ (amd.length - 1):=⟨_,rfl⟩;have hM8:M<=8:=by rw [hM];exact Nat.pow_le_pow_right (n:=2) (by decide) (show amd.length - 1<=3 by omega)
 have hM1:1<=M:=by rw [hM];exact Nat.one_le_two_pow
 have hWM:wrap64 ((2:Int) ^ (amd.length - 1))=(M:Int):=by
  have:(2:Int) ^ (amd.length - 1)=((2 ^ (amd.length - 1):Nat):Int):=by simp
  rw [this,<- hM];unfold wrap64;omega
 have hmc:amd.length<=mc:=by obtain ⟨_,_,e,h,_⟩:=aq.open AP;injection e with e1 e2 e3;omega
 have jD:Hid (∀i,i<amd.length->∀W,Up w0 W->W.cell? ⟨nb,no+i,none⟩=some (.string (gs amd i))):=fun i hi W hW=>hW.cell (aq.mP AP hi);rw [<- hM] at hN;have Nn:Hid (J [] (fun b=>b=Bt) W):=hJ;have HY:=aa hY;have HA:=aa hA;have HW:=aa hW;have HWB:=aa wB;have HL:Hid (Bt<W.heap.size):=iI lt1 hW9;have HM:=aa hM;have HN:=aa hN;have HB:=aa hB;have HMB:Hid (M<=8):=hM8;clear hW Us hW9 hA hY hJ YX lt1 AP hc0 hb hM hN hB;refine callsIn_of_wp Tryz.func215 rfl trivial ?_ rfl;simp only [Tryz.ntmps215,dY,aW,dw,Nat.reduceAdd,Nat.reduceSub,iu,iw,dX,s9,di,cm];gi_wp2
 gi_loopw [3,4,5,6,7] (fun i _ _ _ _ wr=>∃(k:Nat) (ys:List Dv) (L':Nat->Prop),1<=k/\k<=M/\i=.int .i64 k/\Hid (ys.map (·.1)=List.range' 1 (k - 1))/\Hid (J ys L' wr)/\Hid (Below w0.heap.size w0 wr)/\Hid (∀b,L' b->w0.heap.size<=b/\b<wr.heap.size)/\Hid (L' Bt)/\Hid (wr.cell? ⟨Bt,0,none⟩=some (.slice (some ⟨nb,no,none⟩) amd.length mc))) (fun i _ _ _ _ _=>M - (intOf i).toNat)
 case atStart=>exact ⟨1,[],_,ah _,hM1,rfl,rfl,Nn.out,HW.out,fun b hb=>by rw [hb];exact ⟨HB.out,HL.out⟩,rfl,HWB.out⟩
 case round =>
  obtain ⟨k,ys,L',hk1,hk,rfl,hys,hJk,Nw,Jw,hLB,hcB⟩:=hrel;obtain ⟨wo,rfl⟩:=eM wr;have hcb:=hcB.out;have hn0:=jD.out 0 (by omega) wo Nw.out;rw [mZ] at hn0;have i0:(0:Int)<=(k:Int):=by omega
  by_cases hlt:k<M
  ·have i1:(k:Int)<(M:Int):=by omega
   (have i2:(k:Int)<8:=by omega);(have i3:0<amd.length:=by omega);(have i4:(0:Int)<(amd.length:Int):=by omega);(have i5:(1:Int)<=(amd.length:Int):=by omega);(have i6:1<=amd.length:=by omega);(have i7:¬mc=1:=by omega);have i8:amd.length<=mc:=hmc;have bK:=Up.alloc wo (.cells #[.string (gs amd 0)] 9);have hD0:Dup wo.heap.size (wo.alloc (.cells #[.string (gs amd 0)] 9)) (.slice (some ⟨wo.heap.size,0,none⟩) 1 1) (.slice none 0 0) [gs amd 0] []:=⟨Q6 wo _ _ _ (ah _),au.nil _ _ _,fun g _ e=>by cases e⟩;have HD0:=aa hD0;have cB:=aa bK;have al3:=bK.cell hcb;clear hD0 bK;gi_wp2;generalize wo.alloc (.cells #[.string (gs amd 0)] 9)=w1 at *;simp only [hWM];clear hWM
   gi_loopw [4,5,6,7,23] (fun a b _ _ i wr=>∃j:Nat,j<=amd.length - 1/\i=.int .i64 j/\Hid (Dup wo.heap.size wr a b (gs amd 0::dW (fun i=>!k.testBit i) amd.tail j) (dW (fun i=>k.testBit i) amd.tail j))/\Hid (Up wo wr)) (fun _ _ _ _ i _=>amd.length - 1 - (intOf i).toNat)
   case atStart=>exact ⟨0,aF _,rfl,HD0.out,cB.out⟩
   case round =>
    obtain ⟨j,hj,rfl,hD,hU⟩:=hrel;obtain ⟨wi,rfl⟩:=eM wr;(have j0:(0:Int)<=(j:Int):=by omega);by_cases hlj:j<amd.length - 1
    ·have B5:=jD.out (j+1) (by omega) wi (Nw.out.trans (hU.out.mono Nw.out.size))
     rw [show no+(j+1)=no+1+j by omega] at B5;(have j1:(j:Int)<((amd.length - 1:Nat):Int):=by omega);(have j2:(j:Int)<4:=by omega);(have Uy:bits BinOp.and IntKind.i64 ((k:Int) / 2 ^ j) 1=if k.testBit j then 1 else 0:=by (have e:(k:Int) / 2 ^ j=((k / 2 ^ j:Nat):Int):=by simp);have:k / 2 ^ j<=k:=Nat.div_le_self _ _;rw [e,ab1 _ (by omega),aeR]);have uH:=aa (rT (fun i=>!k.testBit i) amd.tail j);have fo:=aa (rT (fun i=>k.testBit i) amd.tail j);have Uz:Hid (amd.tail.getD j default=gs amd (j+1)):=by
      unfold Hid gs;cases amd with
      | nil=>simp at hlj
      | cons a l=>rfl
     have Kg:=aa hlj;(have DV:Hid (((gs amd 0::dW (fun i=>!k.testBit i) amd.tail j).map Value.string).length<=1000000/\((dW (fun i=>k.testBit i) amd.tail j).map Value.string).length<=1000000):=by have a1:=Ag (fun i=>!k.testBit i) amd.tail j;have a2:=Ag (fun i=>k.testBit i) amd.tail j;unfold Hid;rw [aD,aD,aW];omega);have dM:Hid (wo.heap.size<=wi.heap.size):=hU.out.size;obtain ⟨ap,ac,rfl,-⟩:=hD.out.ao.form rfl;obtain ⟨bp,bc,rfl,-⟩:=hD.out.bo.form rfl;rw [Uz.out] at uH fo;clear hlj;cases hb:k.testBit j
     ·rw [hb] at Uy uH fo
      have Uy:bits BinOp.and IntKind.i64 ((k:Int) / 2 ^ j) 1=0:=Uy;have uH:Hid (dW (fun i=>!k.testBit i) amd.tail (j+1)=dW (fun i=>!k.testBit i) amd.tail j++[gs amd (j+1)]):=uH.out;(have fo:Hid (dW (fun i=>k.testBit i) amd.tail (j+1)=dW (fun i=>k.testBit i) amd.tail j):=by unfold Hid;rw [fo.out];simp);clear hb;gi_wp2_with (gi_at_builtin;refine wY wi rfl _ _ 22 rfl wo.heap.size 9 (.string ⟨#[]⟩) 16 Tryz.underlying22 Tryz.mD rfl (by decide) hD.out.ao rfl (.string (gs amd (j+1))) rfl rfl _ rfl DV.out.1 dM.out ?_;intro g8 kM w8 gp jr uG;have hD8:=aa (hD.out.ajK gp jr uG);have iH:=aa (hD.out.ao.fF jr dM.out);clear gp jr uG)
      go_roundw
      case rel=>exact ⟨j+1,by have:=Kg.out;omega,by go_num,by rw [uH.out,fo.out];have q:=hD8.out;simp only [aD,aW] at q;exact q,iz (show Below wo.heap.size wo wi from hU.out) iH.out⟩
      case measure=>have:=Kg.out;simp [intOf];omega
     ·rw [hb] at Uy uH fo
      have Uy:bits BinOp.and IntKind.i64 ((k:Int) / 2 ^ j) 1=1:=Uy;(have uH:Hid (dW (fun i=>!k.testBit i) amd.tail (j+1)=dW (fun i=>!k.testBit i) amd.tail j):=by unfold Hid;rw [uH.out];simp);have fo:Hid (dW (fun i=>k.testBit i) amd.tail (j+1)=dW (fun i=>k.testBit i) amd.tail j++[gs amd (j+1)]):=fo.out;clear hb;gi_wp2_with (gi_at_builtin;refine wY wi rfl _ _ 22 rfl wo.heap.size 9 (.string ⟨#[]⟩) 16 Tryz.underlying22 Tryz.mD rfl (by decide) hD.out.bo rfl (.string (gs amd (j+1))) rfl rfl _ rfl DV.out.2 dM.out ?_;intro g8 kM w8 gp jr uG;have hD8:=aa (hD.out.ajL gp jr uG);have iH:=aa (hD.out.bo.fF jr dM.out);clear gp jr uG)
      go_roundw
      case rel=>exact ⟨j+1,by have:=Kg.out;omega,by go_num,by rw [uH.out,fo.out];have q:=hD8.out;simp only [aD,aW] at q;exact q,iz (show Below wo.heap.size wo wi from hU.out) iH.out⟩
      case measure=>have:=Kg.out;simp [intOf];omega
    ·obtain rfl:j=amd.length - 1:=by omega
     obtain ⟨ap,ac,hae,-⟩:=hD.out.ao.form rfl;obtain ⟨bp,bc,xu,-⟩:=hD.out.bo.form rfl;subst hae;subst xu;obtain ⟨va,hva⟩:∃va,va=Value.slice ap ((gs amd 0::dW (fun i=>!k.testBit i) amd.tail (amd.length - 1)).map Value.string).length ac:=⟨_,rfl⟩;obtain ⟨vb,hvb⟩:∃vb,vb=Value.slice bp ((dW (fun i=>k.testBit i) amd.tail (amd.length - 1)).map Value.string).length bc:=⟨_,rfl⟩;rw [<- hva,<- hvb] at hD;have Np:J ys (fun b=>L' b\/(wo.heap.size<=b/\b<wi.heap.size)) wi:=HA.out ys L' _ wo wi hJk.out ⟨hU.out.os,hU.out.tape,hU.out.output,hU.out.size,fun b hb _=>bH hU.out b hb,fun b hb=>hb.imp (fun e=>⟨e,(Jw.out b e).2⟩) id⟩;have Fh:GvD amd (k,va,vb) (fun b=>L' b\/(wo.heap.size<=b/\b<wi.heap.size)) wi:=⟨⟨hk1,by rw [<- HM.out];exact hlt⟩,hD.out.ao.strs.sub fun b hb hl=>.inr ⟨hb,hl⟩,hD.out.bo.strs.sub fun b hb hl=>.inr ⟨hb,hl⟩⟩;have ag5:=congrArg List.length hys.out;rw [aD,List.length_range'] at ag5;have hwi:=hU.out.size;have Rb:=Nw.out.size
     obtain ⟨fn,tmps,assign,body,hy,hR⟩:=HY.out ys (k,va,vb) _ wi Np Fh (Nw.out.trans (hU.out.mono Rb)) (fun b hb=>by
      rcases hb with hb | hb
      ·have:=Jw.out b hb;omega
      ·omega) (by have:=HN.out;omega)
     have HYS:Hid ((ys++[(k,va,vb)]).map (·.1)=List.range' 1 k):=by
      unfold Hid;rw [cg,hys.out];have:k=(k - 1)+1:=by omega
      conv=>rhs;rw [this,List.range'_concat]
      simp;omega
     have oM:Hid (∀b,(L' b\/(wo.heap.size<=b/\b<wi.heap.size))->w0.heap.size<=b/\b<wi.heap.size):=fun b hb=>by
      rcases hb with hb | hb
      ·have:=Jw.out b hb;omega
      ·omega
     have ajM:=hU.out.cell hcb;have ajN:=aa ajM;have aR:=aa hlt;simp only at hy;clear Np Fh ag5 hD hwi Rb HD0;rw [<- hva,<- hvb];clear hva hvb;gi_wp2
     first | refine ⟨trivial,fun h=>(by cases h),?_⟩ | refine ⟨fun h=>(by cases h),?_⟩
     refine hR.mono ?_;rintro e W7 ⟨rfl,Nq,iH,Nr,Ns⟩;have H8:=aa (⟨Nq,iH,Nr,Ns⟩:_/\_/\_/\_);clear Nq iH Nr Ns hR;gi_wp2
     go_roundw
     case rel=>exact ⟨k+1,ys++[(k,va,vb)],_,by omega,aR.out,by go_num,HYS.out,H8.out.1,H8.out.2.1,fun b hb=>by have h1:=oM.out b hb;have h2:=H8.out.2.2.1;omega,.inl hLB.out,(cU (a:=⟨Bt,0,none⟩) (H8.out.2.2.2 Bt (.inl (.inl hLB.out)))).trans ajN.out⟩
     case measure=>have:=aR.out;simp [intOf];omega
  ·obtain rfl:k=M:=by omega
   gi_wp2
   go_end0
   exact ⟨⟨_,rfl⟩,ys,L',by rw [hys.out,HM.out],hJk.out⟩
end
end
end Go.Proofs.YthgabkgmkolobaaGreat
