/- split.Of: what its loop keeps. The tree of splits: plain. The tree of splits: its nodes .. -/
import Derived.Test.YthgabkgmkolobaaGreatQ32
set_option maxRecDepth 100000
namespace Go.Proofs.YthgabkgmkolobaaGreat
section
open Go.RowKit Go.Deep Go.Shelf
def Jn (t:az) (aac:List ByteArray) (l:List Nat):List (List Int):=(l.map fun k=>fc aac.length (cu t aac k)).filter fun s=>decide (cM aac.length s=0)
theorem R1 (t:az) (aac:List ByteArray) (l:List Nat) (k:Nat):Jn t aac (l++[k])=Jn t aac l++if cM aac.length (fc aac.length (cu t aac k))=0 then [fc aac.length (cu t aac k)] else []:=by
 unfold Jn;rw [cg,vg];congr 1;by_cases h:cM aac.length (fc aac.length (cu t aac k))=0<;>simp [h]
def wF (W:World) (b:Nat):Prop:=∃c z,W.heap[b]? = some (Obj.cells c 3 z)
theorem wF.same {W W':World} {b:Nat} (h:wF W b) (e:W'.heap[b]? = W.heap[b]?):wF W' b:=by
 obtain ⟨c,z,h⟩:=h;exact ⟨c,z,e.trans h⟩
structure sV (w6:World) (t:az) (aac:List ByteArray) (pre:List El) (L:Nat->Prop) (W:World):Prop where
 up:Up w6 W
 sz:w6.heap.size+2<=W.heap.size
 lo:∀b,L b->w6.heap.size<=b
 nL:¬L w6.heap.size/\¬L (w6.heap.size+1)
 nb:W.heap[w6.heap.size]? = some (Obj.cells #[.int .i64 (aac.length:Int)] 3 (0,0))
 ex:∃(ov:Value) (ps:List (List Int×Value)),W.heap[w6.heap.size+1]? = some (Obj.cells #[ov] 23 (0,0))/\ax (w6.heap.size+2) 26 W ov (ps.map (·.2))/\ps.map (·.1)=Jn t aac (pre.map (·.1))/\ps.length<=pre.length /\
  (∀p∈ps,∃q c,p.2=.slice q p.1.length c)/\(∀p∈ps,ah (fun b=>ov.ownBlock≠some b/\b≠w6.heap.size+1/\(¬L b/\wF W b)) W p.2 p.1)/\∀g,ov.ownBlock=some g->¬L g
section
variable {w6:World} {t:az} {aac:List ByteArray}
theorem sV.ab:UK (sV w6 t aac):=by
 rintro s L L' W W' h hs;obtain ⟨ov,ps,h1,h2,h3,h4,h5,h6,h7⟩:=h.ex;have hsz:=h.sz;have hnl:∀b,b<W.heap.size->¬L b->¬L' b:=fun b hb hn hb'=>by
  rcases hs.more b hb' with e | e
  ·exact hn e.1
  ·omega
 refine ⟨⟨hs.os.trans h.up.os,hs.tape.trans h.up.tape,hs.output.trans h.up.output,aJ h.up.size hs.size,fun b hb=>(hs.block b (by omega) fun e=>by have:=h.lo b e;omega).trans (h.up.block b hb)⟩,by have:=hs.size;omega,fun b hb=>?_,⟨hnl _ (by omega) h.nL.1,hnl _ (by omega) h.nL.2⟩,
  (hs.block _ (by omega) h.nL.1).trans h.nb,ov,ps,(hs.block _ (by omega) h.nL.2).trans h1,ax.AA h2 fun b hb=>hs.block b (av h2 hb).2 (h7 b hb),h3,h4,h5,fun p hp=>?_,fun g hg=>hnl g (av h2 hg).2 (h7 g hg)⟩
 ·rcases hs.more b hb with e | e
  ·exact h.lo b e.1
  ·omega
 ·have hk:=h6 p hp
  obtain ⟨q,cap,hv,hn,hx⟩:=hk;refine ⟨q,cap,hv,hn,?_⟩;by_cases h0:p.1.length=0
  ·exact .inl h0
  ·rcases hx with hx | ⟨g,off,e,⟨s1,s2,s3⟩,hc⟩
   ·exact absurd hx h0
   ·have hl:=eG W _ (hc 0 (by omega))
    exact .inr ⟨g,off,e,⟨s1,s2,hnl g hl s3.1,s3.2.same (hs.block g hl s3.1)⟩,fun k hk=>(eX (a:=⟨g,off+k,none⟩) (hs.block g hl s3.1)).trans (hc k hk)⟩
theorem sV.own {B:Nat} (hB:w6.heap.size+2<=B) (L:Nat->Prop):OwnFrom B (fun s W=>sV w6 t aac s L W):=by
 intro s X Y row h hg hr;obtain ⟨ov,ps,h1,h2,h3,h4,h5,h6,h7⟩:=h.ex;have hsz:=h.sz;have su:∀b,b<w6.heap.size+2->Y.heap[b]? = X.heap[b]?:=fun b hb=>hg.block b (by omega) fun e=>by have:=(hr b e.symm).1;omega
 have tyi:∀b,wF X b->wF Y b:=fun b ⟨c,z,hc⟩=>⟨c,z,(hg.block b (fR.1 hc).1 fun e=>by
  obtain ⟨_,o,h8,h9⟩:=hr b e.symm
  rw [hc] at h8;injection h8 with h8;subst h8;cases h9).trans hc⟩
 refine ⟨⟨hg.os.trans h.up.os,hg.tape.trans h.up.tape,hg.output.trans h.up.output,aJ h.up.size hg.size,fun b hb=>(su b (by omega)).trans (h.up.block b hb)⟩,by have:=hg.size;omega,h.lo,h.nL,(su _ (by omega)).trans h.nb,ov,ps,(su _ (by omega)).trans h1,
  ax.AA h2 fun b hb=>hg.block b (av h2 hb).2 fun e=>?_,h3,h4,h5,fun p hp=>ah.sub (show ah _ Y p.2 p.1 from ay.grown (h6 p hp) hg fun r e=>(hr r e).2) fun b hb _=>⟨hb.1,hb.2.1,hb.2.2.1,tyi b hb.2.2.2⟩,h7⟩
 obtain ⟨_,o,h8,h9⟩:=hr b e.symm;obtain ⟨c,h10⟩:=ax.mC h2 hb;rw [h10] at h8;injection h8 with h8;subst h8;cases h9
theorem gvB_own {B:Nat} (x:El) (L:Nat->Prop):OwnFrom B (fun (_:Unit) W=>VR t aac x L W):=by
 intro s X Y row h hg hr;obtain ⟨h1,h2,p,c,e,h3,h4⟩:=h;refine ⟨h1,h2,p,c,e,ay.grown h3 hg fun r e=>(hr r e).2,fun g Cs=>?_⟩;obtain ⟨cc,z,h5⟩:=h4 g Cs;refine ⟨cc,z,(hg.block g (fR.1 h5).1 fun e=>?_).trans h5⟩;obtain ⟨_,o,h8,h9⟩:=hr g e.symm;rw [h5] at h8;injection h8 with h8;subst h8;cases h9
theorem gvB_gb (x:El) (L:Nat->Prop) (W:World) (b:Nat) (h:VR t aac x L W) (hb:x.2.ownBlock=some b):∃o,W.heap[b]? = some o/\o.isCells=true:=by
 obtain ⟨_,_,_,_,_,_,h4⟩:=h;obtain ⟨c,z,h5⟩:=h4 b hb;exact ⟨_,h5,rfl⟩
theorem sV.grow {pre:List El} {L:Nat->Prop} {W W':World} (h:sV w6 t aac pre L W) (hL:∀b,L b->b<W.heap.size) (hu:Up W W'):sV w6 t aac pre L W' :=
 sV.ab pre L L W W' h ⟨hu.os,hu.tape,hu.output,hu.size,fun b hb _=>bI hu b hb,fun b hb=>.inl ⟨hb,hL b hb⟩⟩
theorem sV.pass {pre:List El} {L:Nat->Prop} {W:World} (h:sV w6 t aac pre L W) {x:El} (hx:cM aac.length (fc aac.length (cu t aac x.1))≠0):sV w6 t aac (pre++[x]) L W:=by
 obtain ⟨ov,ps,h1,h2,h3,h4,h5,h6,h7⟩:=h.ex;exact ⟨h.up,h.sz,h.lo,h.nL,h.nb,ov,ps,h1,h2,by rw [cg,List.map_singleton,R1,if_neg hx,gN];exact h3,by simp;omega,h5,h6,h7⟩
theorem owns_uniq {base:Nat} {e:TypeId} {W:World} {v:Value} {a b:List Value} (h:ax base e W v a) (k:ax base e W v b):a=b:=by
 obtain ⟨_,⟨h1,h2⟩ | ⟨g,cap,cur,h1,_,h2,_,_,_,h3⟩⟩:=h<;>obtain ⟨_,⟨k1,k2⟩ | ⟨g',cap',cur',k1,_,k2,_,_,_,k3⟩⟩:=k
 ·rw [CL.1 h2,CL.1 k2]
 ·rw [h1] at k1;cases k1
 ·rw [h1] at k1;cases k1
 ·rw [h1] at k1
  injection k1 with e1 e2 _;injection e1 with e1;injection e1 with e1 _ _;subst e1;rw [h2] at k2;injection k2 with k2;injection k2 with k2 _ _;subst k2;rw [<- h3,<- k3,e2]
theorem sV.push {pre:List El} {L:Nat->Prop} {W:World} (h:sV w6 t aac pre L W) (hL:∀b,L b->b<W.heap.size) {x:El} (hx:cM aac.length (fc aac.length (cu t aac x.1))=0) {u:Value} (hu:∃q c,u=.slice q (fc aac.length (cu t aac x.1)).length c)
  (hi:ah (fun b=>¬L b) W u (fc aac.length (cu t aac x.1))) (ht:∀g,u.ownBlock=some g->∃c z,W.heap[g]? = some (Obj.cells c 3 z)) {ov:Value} (xx:W.heap[w6.heap.size+1]? = some (Obj.cells #[ov] 23 (0,0))) {W3:World} {v':Value}
  {vs:List Value} (hvs:ax (w6.heap.size+2) 26 W ov vs) (hno:ax (w6.heap.size+2) 26 W3 v' (vs++[u])) (hg:W.grownBy W3 ov.ownBlock) (hb:∀g,v'.ownBlock=some g->ov.ownBlock=some g\/W.heap.size<=g) :
  sV w6 t aac (pre++[x]) L (W3.setCell ⟨w6.heap.size+1,0,none⟩ v')/\KeepsFrom (w6.heap.size+2) W (W3.setCell ⟨w6.heap.size+1,0,none⟩ v')/\∀b,b<W.heap.size->ov.ownBlock≠some b->b≠w6.heap.size+1->(W3.setCell ⟨w6.heap.size+1,0,none⟩ v').heap[b]? = W.heap[b]?:=by
 obtain ⟨ov',ps,h1,h2,h3,h4,h5,h6,h7⟩:=h.ex;rw [xx] at h1;injection h1 with h1;injection h1 with h1 _ _;injection h1 with h1;injection h1 with h1;subst h1;have hsz:=h.sz;have dR:∀b,b≠w6.heap.size+1->(W3.setCell ⟨w6.heap.size+1,0,none⟩ v').heap[b]? = W3.heap[b]?:=fun b hb=>blk_setCell_other _ _ _ _ hb;have hov3:W3.heap[w6.heap.size+1]? = some (Obj.cells #[ov] 23 (0,0)):=(hg.block _ (by omega) fun e=>by have:=(av h2 e.symm).1;omega).trans xx
 have hall:∀b,b<W.heap.size->ov.ownBlock≠some b->b≠w6.heap.size+1->(W3.setCell ⟨w6.heap.size+1,0,none⟩ v').heap[b]? = W.heap[b]?:=fun b h1 h2 h3=>(dR b h3).trans (hg.block b h1 fun e=>h2 e.symm);have evs:=owns_uniq hvs h2;subst evs;have su:∀b,b<w6.heap.size+1->(W3.setCell ⟨w6.heap.size+1,0,none⟩ v').heap[b]? = W.heap[b]?:=fun b hb=>hall b (by omega) (fun e=>by have:=(av h2 e).1;omega) (by omega)
 have hkeep:∀ {v:Value} {xs:List Int},ah (fun b=>ov.ownBlock≠some b/\b≠w6.heap.size+1/\(¬L b/\wF W b)) W v xs->ah (fun b=>v'.ownBlock≠some b/\b≠w6.heap.size+1/\(¬L b/\wF (W3.setCell ⟨w6.heap.size+1,0,none⟩ v') b)) (W3.setCell ⟨w6.heap.size+1,0,none⟩ v') v xs:=fun {v xs} hk=>by
  obtain ⟨q,cap,hv,hn,hx⟩:=hk;refine ⟨q,cap,hv,hn,?_⟩;by_cases h0:xs.length=0
  ·exact .inl h0
  ·rcases hx with hx | ⟨g,off,e,⟨s1,s2,s3⟩,hc⟩
   ·exact absurd hx h0
   ·have hl:=eG W _ (hc 0 (by omega))
    have hl:g<W.heap.size:=hl;refine .inr ⟨g,off,e,⟨fun e2=>?_,s2,s3.1,s3.2.same (hall g hl s1 s2)⟩,fun k hk=>(eX (a:=⟨g,off+k,none⟩) (hall g hl s1 s2)).trans (hc k hk)⟩;rcases hb g e2 with e3 | e3
    ·exact s1 e3
    ·omega
 refine ⟨⟨⟨hg.os.trans h.up.os,hg.tape.trans h.up.tape,hg.output.trans h.up.output,by rw [mW];have:=hg.size;have:=h.up.size;omega,fun b hb=>(su b (by omega)).trans (h.up.block b hb)⟩,by rw [mW];have:=hg.size;omega,h.lo,h.nL,(su _ (by omega)).trans h.nb,v',ps++[(fc aac.length (cu t aac x.1),u)],?_,?_,?_,by simp;omega,?_,?_,?_⟩,⟨by rw [mW];exact hg.size,fun k o hk hk2 hk3=>?_⟩,hall⟩
 ·simp [World.setCell,Array.getElem?_modify,hov3]
 ·rw [cg]
  exact ax.AA hno fun b hb=>dR b (by have:=(av hno hb).1;omega)
 ·rw [cg,h3,cg,List.map_singleton,List.map_singleton,R1,if_pos hx]
 ·intro p hp
  rcases dV.1 hp with hp | hp
  ·exact h5 p hp
  ·rw [dP.1 hp];exact hu
 ·intro p hp
  rcases dV.1 hp with hp | hp
  ·exact hkeep (h6 p hp)
  ·rw [dP.1 hp]
   refine hkeep ?_;obtain ⟨q,cap,hv,hn,hxx⟩:=hi;refine ⟨q,cap,hv,hn,hxx.imp id fun ⟨g,off,e,s3,hc⟩=>⟨g,off,e,⟨fun e2=>?_,fun e2=>?_,s3,ht g (by show u.ownBlock=some g;rw [show u=_ from hv,e];rfl)⟩,hc⟩⟩
   ·obtain ⟨c,z,h8⟩:=ht g (by show u.ownBlock=some g;rw [show u=_ from hv,e];rfl)
    obtain ⟨c2,h9⟩:=ax.mC h2 e2;rw [h8] at h9;injection h9 with h9;injection h9 with _ h9 _;exact absurd h9 (by decide)
   ·obtain ⟨c,z,h8⟩:=ht g (by show u.ownBlock=some g;rw [show u=_ from hv,e];rfl)
    rw [e2,xx] at h8;injection h8 with h8;injection h8 with _ h8 _;exact absurd h8 (by decide)
 ·intro g Cs hL'
  rcases hb g Cs with e | e
  ·exact h7 g e hL'
  ·have:=hL g hL';omega
 ·have gz:=(fR.1 hk2).1
  rw [hall k gz (fun e=>?_) (by omega)]
  ·exact hk2
  ·obtain ⟨c,h9⟩:=ax.mC h2 e
   rw [hk2] at h9;injection h9 with h9;subst h9;cases hk3
theorem sV.VY {B:Nat} {pre:List El} {L:Nat->Prop} {W W':World} (h:sV w6 t aac pre L W) (hL:∀b,L b->b<W.heap.size) (hu:Up W W') {x:El} (hg:∀g,x.2.ownBlock=some g->∃c z,W.heap[g]? = some (Obj.cells c 3 z)) (hx:cM aac.length (fc aac.length (cu t aac x.1))≠0) :
  KeepsFrom B W W'/\Below w6.heap.size w6 W'/\(∀b,(L b\/x.2.ownBlock=some b)->W'.heap[b]? = W.heap[b]?)/\sV w6 t aac (pre++[x]) L W':=by
 have h2:=(h.grow hL hu).pass hx;refine ⟨KeepsFrom.of_grownBy (Mg hu none) (fun j e=>by cases e),h2.up,fun b hb=>bI hu b ?_,h2⟩;rcases hb with hb | hb
 ·exact hL b hb
 ·obtain ⟨c,z,h5⟩:=hg b hb
  exact (fR.1 h5).1
theorem sV.VZ {B:Nat} (hB:w6.heap.size+2<=B) {pre:List El} {L:Nat->Prop} {W W2:World} (h:sV w6 t aac pre L W) (hL:∀b,L b->b<W.heap.size) (aK:Up W W2) {x:El} (hgx:∀g,x.2.ownBlock=some g->∃c z,W.heap[g]? = some (Obj.cells c 3 z)) (hx:cM aac.length (fc aac.length (cu t aac x.1))=0) {u:Value} (hu:∃q c,u=.slice q (fc aac.length (cu t aac x.1)).length c)
  (hi:ah (fun b=>¬L b) W2 u (fc aac.length (cu t aac x.1))) (ht:∀g,u.ownBlock=some g->∃c z,W2.heap[g]? = some (Obj.cells c 3 z)) {ov:Value} (xx:W2.heap[w6.heap.size+1]? = some (Obj.cells #[ov] 23 (0,0))) {W3:World} {v':Value}
  {vs:List Value} (hvs:ax (w6.heap.size+2) 26 W2 ov vs) (hno:ax (w6.heap.size+2) 26 W3 v' (vs++[u])) (hg:W2.grownBy W3 ov.ownBlock) (hb:∀g,v'.ownBlock=some g->ov.ownBlock=some g\/W2.heap.size<=g) :
  KeepsFrom B W (W3.setCell ⟨w6.heap.size+1,0,none⟩ v')/\Below w6.heap.size w6 (W3.setCell ⟨w6.heap.size+1,0,none⟩ v')/\(∀b,(L b\/x.2.ownBlock=some b)->(W3.setCell ⟨w6.heap.size+1,0,none⟩ v').heap[b]? = W.heap[b]?)/\sV w6 t aac (pre++[x]) L (W3.setCell ⟨w6.heap.size+1,0,none⟩ v'):=by
 have h2:=h.grow hL aK;have hL2:∀b,L b->b<W2.heap.size:=fun b hb=>js (hL b hb) aK.size;obtain ⟨p1,p2,p3⟩:=h2.push hL2 hx hu hi ht xx hvs hno hg hb;have k1:KeepsFrom B W W2:=KeepsFrom.of_grownBy (Mg aK none) (fun j e=>by cases e);have k2:KeepsFrom B W2 (W3.setCell ⟨w6.heap.size+1,0,none⟩ v'):=⟨p2.size,fun k o hk=>p2.same k o (by omega)⟩;refine ⟨k1.trans k2,p1.up,fun b hb=>?_,p1⟩;have hbl:b<W.heap.size:=by
  rcases hb with hb | hb
  ·exact hL b hb
  ·obtain ⟨c,z,h5⟩:=hgx b hb
   exact (fR.1 h5).1
 refine (p3 b (js hbl aK.size) (fun e=>?_) (fun e=>?_)).trans (bI aK b hbl)
 ·rcases hb with hb | hb
  ·obtain ⟨ov',ps,h3,h4,_,_,_,_,h5⟩:=h2.ex
   rw [xx] at h3;injection h3 with h3;injection h3 with h3 _ _;injection h3 with h3;injection h3 with h3;subst h3;exact h5 b e hb
  ·obtain ⟨c,z,h5⟩:=hgx b hb
   obtain ⟨c2,h6⟩:=ax.mC hvs e;rw [bI aK b hbl,h5] at h6;injection h6 with h6;injection h6 with _ h6 _;exact absurd h6 (by decide)
 ·rcases hb with hb | hb
  ·exact h2.nL.2 (e ▸ hb)
  ·obtain ⟨c,z,h5⟩:=hgx b hb
   have h6:=(bI aK b hbl).trans h5;rw [e,xx] at h6;injection h6 with h6;injection h6 with _ h6 _;exact absurd h6 (by decide)
end
theorem Jo (xs:List Int) (x:Int):((List.range xs.length).any fun j=>decide (x=gi xs j))=xs.contains x:=by
 rw [lR,eO,iP];constructor
 ·rintro ⟨j,hj,e⟩
  rw [of_decide_eq_true e];exact gi_in (bh.1 hj)
 ·intro h
  obtain ⟨k,hk,e⟩:=S4 h;exact ⟨k,bh.2 hk,decide_eq_true e.symm⟩
theorem uu.rowsT {S:Nat->Prop} {base:Nat} {w:World} {v:Value} {ps:List (List Int×Value)} (h:uu base w v ps) (ht:∀p∈ps,ah S w p.2 p.1):∃f,ay (fun b=>base<=b) w v (ps.map (·.1)).length f/\∀k,k<(ps.map (·.1)).length->ah S w (f k) (gl (ps.map (·.1)) k):=by
 have h1:=h.own.vz;rw [aG] at h1;refine ⟨_,by rw [aG];exact h1,fun k hk=>?_⟩;have hk':k<ps.length:=by simpa using hk
 have h2:=ht ps[k] (lg hk');have e:gl (ps.map (·.1)) k=ps[k].1:=by simp [gl,hk']
 rw [e];simpa [hk'] using h2
theorem Mh {W W':World} {row:Option Nat} {v:Value} {xs:List Int} (h:ah (wF W) W v xs) (hg:W.grownBy W' row) (hr:∀r,row=some r->¬wF W r):ah (wF W') W' v xs:=by
 have hs:∀b,wF W b->W'.heap[b]? = W.heap[b]?:=fun b hb=>hg.block b (by obtain ⟨c,z,hc⟩:=hb;exact (fR.1 hc).1) fun e=>hr b e.symm hb;exact (ah.keep h fun b hb _=>hs b hb).sub fun b hb _=>hb.same (hs b hb)
theorem V0 {base:Nat} {W:World} {v:Value} {vs:List Value} (h:ax base 26 W v vs):∀r,v.ownBlock=some r->¬wF W r:=fun r hr ⟨c,z,hc⟩=>by
 obtain ⟨c2,h9⟩:=ax.mC h hr
 rw [hc] at h9;injection h9 with h9;injection h9 with _ h9 _;exact absurd h9 (by decide)
theorem mem_rawP {t:az} {aac:List ByteArray} (h:aH t=0) {s:List Int}:s∈Jn t aac (kH t 0)↔s∈Me t aac:=by
 unfold Jn Me;rw [fL,fL,cm,cm];constructor
 ·rintro ⟨⟨k,hk,e⟩,h2⟩
  have:=(Zy h).1 hk;exact ⟨⟨k,fL.2 ⟨bh.2 this.2,decide_eq_true this.1⟩,e⟩,h2⟩
 ·rintro ⟨⟨k,hk,e⟩,h2⟩
  obtain ⟨h3,h4⟩:=fL.1 hk;exact ⟨⟨k,(Zy h).2 ⟨of_decide_eq_true h4,bh.1 h3⟩,e⟩,h2⟩
theorem of_sorted {t:az} {aac:List ByteArray} (h:dK t aac) {l:List (List Int)} (hp:l.Perm (Jn t aac (kH t 0))) (hs:l.Pairwise fun a b=>cmpL a b<=0):jX l=cW t aac:=by
 have e:=sortX_uniq hp hs;unfold cW;rw [if_pos (kV.2 h),e];show oH _=_;exact ordX_congr fun s=>mem_rawP h.te
end
section
def nA (aac:List ByteArray) (i:Nat):Int:=if b7 (gs aac i).data.toList then (if fk aac i then 7 else 0) else 14
def jL (aac:List ByteArray) (l:List (List Int)):Int :=
 if aac.length=0 then 5 else if 32<aac.length\/64<l.length then 4
 else if bU (nA aac) aac.length≠0 then bU (nA aac) aac.length
 else if bU (fun k=>cM aac.length (gl l k)) l.length≠0 then bU (fun k=>cM aac.length (gl l k)) l.length
 else if 0<=oL l then 17 else 0
structure lu (aac:List ByteArray) (l:List (List Int)):Prop where
 pos:0<aac.length
 le:aac.length<=32
 l64:l.length<=64
 nm:∀k,k<aac.length->b7 (gs aac k).data.toList=true
 nd:∀j k,j<k->k<aac.length->gs aac k≠gs aac j
 Ct:∀s∈l,yP aac.length s
 cmp:∀i k,i<k->k<l.length->rT (gl l i) (gl l k)=true
theorem oM {l:List (List Int)} {k:Nat} (h:k<l.length):gl l k∈l:=by simp [gl,h]
theorem Oy {l:List (List Int)} {x:List Int} (h:x∈l):∃k,k<l.length/\gl l k=x:=by
 obtain ⟨k,hk,e⟩:=CO.1 h;exact ⟨k,hk,by simp [gl,hk,e]⟩
theorem Dx {l:List (List Int)}:oL l<0↔∀i k,i<k->k<l.length->rT (gl l i) (gl l k)=true:=by
 have h1:=gX (fun i=>decide (0<=pg l i)) l.length;have h2:∀i,decide (0<=pg l i)=(List.range l.length).any fun k=>decide (i<k)&&!rT (gl l i) (gl l k):=fun i=>gX _ _;constructor
 ·intro h i k hik hk
  have h3:(List.range l.length).any (fun i=>decide (0<=pg l i))=false:=by rw [<- h1];exact decide_eq_false (by unfold oL at h;omega)
  have h4:=any_false h3 (show i<l.length by omega);rw [h2] at h4;have h5:=any_false h4 hk;rw [decide_eq_true hik,Bool.true_and] at h5;simpa using h5
 ·intro h
  have h3:(List.range l.length).any (fun i=>decide (0<=pg l i))=false:=any_none fun i hi=>by
   rw [h2];refine any_none fun k hk=>?_;by_cases e:i<k
   ·rw [h i k e hk];simp
   ·rw [decide_eq_false e];rfl
  rw [<- h1] at h3;have:=of_decide_eq_false h3;unfold oL;omega
theorem Dy {aac:List ByteArray} {l:List (List Int)}:jL aac l=0↔lu aac l:=by
 unfold jL;constructor
 ·intro h
  split at h
  ·cases h
  ·split at h
   ·cases h
   ·split at h
    ·rename_i h3;exact absurd h h3
    ·rename_i h3
     have h3:=jB (Fo.1 h3);split at h
     ·rename_i h4;exact absurd h h4
     ·rename_i h4
      have h4:=jB (Fo.1 h4);split at h
      ·cases h
      ·rename_i h5
       refine ⟨by omega,by omega,by omega,fun k hk=>?_,fun j k hjk hk e=>?_,fun s hs=>?_,Dx.1 (by omega)⟩
       ·have:=h3 k hk
        unfold nA at this;split at this
        ·assumption
        ·cases this
       ·have:=h3 k hk
        unfold nA at this;split at this
        ·rw [if_pos] at this
         ·cases this
         ·exact eO.2 ⟨j,bh.2 hjk,decide_eq_true e.symm⟩
        ·cases this
       ·obtain ⟨k,hk,rfl⟩:=Oy hs
        exact nJ.1 (h4 k hk)
 ·intro h
  have h1:=h.pos;have h2:=h.le;have h3:=h.l64;have h4:bU (nA aac) aac.length=0:=cR fun k hk=>by unfold nA;rw [if_pos (h.nm k hk),if_neg];intro e;obtain ⟨j,hj,e⟩:=eO.1 e;exact h.nd j k (bh.1 hj) hk (of_decide_eq_true e).symm
  have h5:bU (fun k=>cM aac.length (gl l k)) l.length=0:=cR fun k hk=>nJ.2 (h.Ct _ (oM hk));have h6:=Dx.2 h.cmp;rw [if_neg (by omega),if_neg (by omega),if_neg (fun e=>e h4),if_neg (fun e=>e h5),if_neg (by omega)]
def mF (a b:List Int):Int:=if b.length<a.length then -1 else if a.length<b.length then 1 else cmpL a b
theorem wG {a b:List Int} (h:mF a b=0):a=b:=by
 unfold mF at h;split at h
 ·omega
 ·split at h
  ·omega
  ·exact rA h
theorem R2 (a:List Int):mF a a=0:=by unfold mF;rw [if_neg (by omega),if_neg (by omega)];exact Dr a
theorem Dz (a b:List Int):mF b a = - mF a b:=by
 unfold mF;by_cases h1:b.length<a.length
 ·simp only [if_pos h1,if_neg (show ¬a.length<b.length by omega)];rfl
 ·by_cases h2:a.length<b.length
  ·simp only [if_pos h2,if_neg h1]
  ·simp only [if_neg h1,if_neg h2];exact tD a b
theorem Oz {a b c:List Int} (h1:mF a b<0) (h2:mF b c<0):mF a c<0:=by
 unfold mF at *;by_cases x1:b.length<a.length
 ·by_cases y1:c.length<b.length
  ·rw [if_pos (by omega)];omega
  ·rw [if_neg y1] at h2
   by_cases y2:b.length<c.length
   ·rw [if_pos y2] at h2;omega
   ·rw [if_pos (by omega)];omega
 ·rw [if_neg x1] at h1
  by_cases x2:a.length<b.length
  ·rw [if_pos x2] at h1;omega
  ·rw [if_neg x2] at h1
   by_cases y1:c.length<b.length
   ·rw [if_pos (by omega)];omega
   ·rw [if_neg y1] at h2
    by_cases y2:b.length<c.length
    ·rw [if_pos y2] at h2;omega
    ·rw [if_neg y2] at h2
     rw [if_neg (by omega),if_neg (by omega)];exact AG h1 h2
def DA (a b:List Int):Prop:=mF a b<=0
theorem leQ_trans {a b c:List Int} (h1:DA a b) (h2:DA b c):DA a c:=by
 unfold DA at *;by_cases e1:mF a b=0
 ·rw [wG e1];exact h2
 ·by_cases e2:mF b c=0
  ·rw [<- wG e2];exact h1
  ·have h3:mF a b<0:=by omega
   (have h4:mF b c<0:=by omega);exact Int.le_of_lt (Oz h3 h4)
def Mi (a:List Int):List (List Int)->List (List Int)
 | []=>[a]
 | b::l=>if mF a b<=0 then a::b::l else b::Mi a l
def Gg:List (List Int)->List (List Int)
 | []=>[]
 | a::l=>Mi a (Gg l)
theorem Jp (a:List Int):∀l:List (List Int),(Mi a l).Perm (a::l)
 | []=>k9 _
 | b::l=>by
  rw [Mi]
  split
  ·exact k9 _
  ·exact (List.Perm.cons b (Jp a l)).trans (List.Perm.swap a b l)
theorem AJ:∀l:List (List Int),(Gg l).Perm l
 | []=>k9 _
 | a::l=>(Jp a _).trans (List.Perm.cons a (AJ l))
theorem Ld (a:List Int):∀ {l:List (List Int)},l.Pairwise DA->(Mi a l).Pairwise DA
 | [],_=>by simp [Mi]
 | b::l,h=>by
  rw [Mi]
  rw [iI] at h
  split
  ·rename_i h1
   refine iI.2 ⟨fun c hc=>?_,iI.2 h⟩
   rcases aW.1 hc with rfl | hc
   ·exact h1
   ·exact leQ_trans h1 (h.1 c hc)
  ·rename_i h1
   refine iI.2 ⟨fun c hc=>?_,Ld a h.2⟩
   rcases aW.1 ((Jp a l).mem_iff.1 hc) with rfl | hc
   ·unfold DA;have:=Dz c b;omega
   ·exact h.1 c hc
theorem Cu:∀l:List (List Int),(Gg l).Pairwise DA
 | []=>List.Pairwise.nil
 | a::l=>Ld a (Cu l)
theorem sortQ_uniq {a b:List (List Int)} (hp:a.Perm b) (h:a.Pairwise DA):a=Gg b :=
 List.Perm.eq_of_pairwise (le:=DA) (fun x y _ _ h1 h2=>wG (by unfold DA at h1 h2;have:=Dz x y;omega)) h (Cu b) (hp.trans (AJ b).symm)
def aP (l:List (List Int)):List (List Int):=jX (Gg l)
theorem yq {x:List Int} {l:List (List Int)}:x∈aP l↔x∈l:=by unfold aP;rw [yl];exact (AJ l).mem_iff
theorem D5:∀ {l:List (List Int)},l.Pairwise DA->(jX l).Pairwise fun a b=>mF a b<0
 | [],_=>List.Pairwise.nil
 | a::l,h=>by
  rw [iI] at h
  rw [jX]
  split
  ·exact D5 h.2
  ·rename_i hne
   refine iI.2 ⟨fun c hc=>?_,D5 h.2⟩
   have hc:=yl.1 hc
   have h1:=h.1 c hc
   unfold DA at h1
   by_cases e:mF a c=0
   ·exfalso
    have e:=wG e
    subst e
    cases l with
    | nil=>cases hc
    | cons b l =>
     rw [List.head?_cons] at hne
     have h2:=h.1 b (by simp)
     rcases aW.1 hc with rfl | hc
     ·exact hne rfl
     ·have h3:=(iI.1 h.2).1 _ hc
      unfold DA at h2 h3
      have:=Dz a b
      exact hne (by rw [wG (a:=a) (b:=b) (by omega)])
   ·omega
theorem X3 (l:List (List Int)):(aP l).Pairwise fun a b=>mF a b<0:=D5 (Cu l)
theorem Mj:∀l:List (List Int),(jX l).length<=l.length
 | []=>af _
 | a::l=>by
  rw [jX]
  have:=Mj l
  split<;>simp<;>omega
theorem ownQ_len (l:List (List Int)):(aP l).length<=l.length:=by unfold aP;rw [<- (AJ l).length_eq];exact Mj _
def gF (own:List (List Int)) (x:Int):Nat->Int
 | 0=>2
 | k+1=>if (gl own k).contains x then ((3+k:Nat):Int) else gF own x k
def bT (aac : List ByteArray) (own : List (List Int)) : az :=
  ⟨[-1, 0, 0] ++ ((List.range own.length).map (fun k => gF own (gi (gl own k) 0) k) ++ (List.range (aac.length - 1)).map fun b => gF own ((b + 1 : Nat) : Int) own.length),
   [ByteArray.empty, gs aac 0, ByteArray.empty] ++ (List.replicate own.length ByteArray.empty ++ (List.range (aac.length - 1)).map fun b => gs aac (b + 1))⟩
def Jq (aac:List ByteArray) (l:List (List Int)):az :=
 if aac.length=1 then ⟨[-1],[gs aac 0]⟩ else if aac.length=2 then o8 ⟨[-1,0,0],[ByteArray.empty,gs aac 0,gs aac 1]⟩ else o8 (bT aac (aP l))
def iz (aac:List ByteArray) (l:List (List Int)):az:=if jL aac l=0 then Jq aac l else ⟨[],[]⟩
def bS (aac:List ByteArray) (own:List (List Int)) (i:Nat):List Int :=
 if i=0 then allI aac.length else if i=1 then [0] else if i=2 then dZ aac.length [0] else if i<3+own.length then gl own (i - 3) else [((i - 2 - own.length:Nat):Int)]
theorem OA (own:List (List Int)) (x:Int):∀k,(gF own x k=2/\∀j,j<k->x∉gl own j)\/∃p,p<k/\gF own x k=((3+p:Nat):Int)/\x∈gl own p/\∀j,p<j->j<k->x∉gl own j
 | 0=>.inl ⟨rfl,fun j hj=>absurd hj (bG _)⟩
 | k+1=>by
  rw [gF]
  by_cases h:x∈gl own k
  ·rw [if_pos (iP.2 h)]
   exact .inr ⟨k,by omega,rfl,h,fun j h1 h2=>by omega⟩
  ·rw [if_neg (fun e=>h (iP.1 e))]
   rcases OA own x k with ⟨h1,h2⟩ | ⟨p,h1,h2,h3,h4⟩
   ·refine .inl ⟨h1,fun j hj=>?_⟩
    by_cases e:j=k
    ·subst e;exact h
    ·exact h2 j (by omega)
   ·refine .inr ⟨p,by omega,h2,h3,fun j hj1 hj2=>?_⟩
    by_cases e:j=k
    ·subst e;exact h
    ·exact h4 j hj1 (by omega)
section
variable {aac:List ByteArray} {l:List (List Int)}
theorem bT_len:(bT aac (aP l)).ps.length=3+(aP l).length+(aac.length - 1):=by simp [bT];omega
theorem bT_nlen:(bT aac (aP l)).ns.length=3+(aP l).length+(aac.length - 1):=by simp [bT];omega
theorem bT_ps {own:List (List Int)} (i:Nat):gi (bT aac own).ps i=if i=0 then -1 else if i<3 then 0 else if i<3+own.length then gF own (gi (gl own (i - 3)) 0) (i - 3) else if i<3+own.length+(aac.length - 1) then gF own ((i - 2 - own.length:Nat):Int) own.length else 0:=by
 by_cases h0:i=0
 ·subst h0;rfl
 by_cases h1:i=1
 ·subst h1;rfl
 by_cases h2:i=2
 ·subst h2;rfl
 obtain ⟨j,rfl⟩:∃j,i=3+j:=⟨i - 3,by omega⟩;rw [if_neg h0,if_neg (by omega)];have e:gi (bT aac own).ps (3+j)=gi ((List.range own.length).map (fun k=>gF own (gi (gl own k) 0) k)++(List.range (aac.length - 1)).map fun b=>gF own ((b+1:Nat):Int) own.length) j:=by have:=BR [-1,0,0] ((List.range own.length).map (fun k=>gF own (gi (gl own k) 0) k)++(List.range (aac.length - 1)).map fun b=>gF own ((b+1:Nat):Int) own.length) j;exact this
 rw [e];by_cases h3:j<own.length
 ·rw [if_pos (by omega),FL _ (by simpa using h3),show 3+j - 3=j by omega]
  simp [gi,h3]
 ·rw [if_neg (by omega)]
  obtain ⟨b,rfl⟩:∃b,j=own.length+b:=⟨j - own.length,by omega⟩;have e2:=BR ((List.range own.length).map (fun k=>gF own (gi (gl own k) 0) k)) ((List.range (aac.length - 1)).map fun b=>gF own ((b+1:Nat):Int) own.length) b;rw [aG,wP] at e2;rw [e2];by_cases h4:b<aac.length - 1
  ·rw [if_pos (by omega),show 3+(own.length+b) - 2 - own.length=b+1 by omega]
   simp [gi,h4]
  ·rw [if_neg (by omega)]
   simp [gi,h4]
end
end
section
theorem Mk (n:Nat):(allI n).Pairwise (· < ·):=by
 unfold allI;rw [uD];exact List.pairwise_lt_range.imp fun h=>by omega
theorem rest_cons {n:Nat} (hn:0<n):(0:Int)::dZ n [0]=allI n:=by
 refine E6 (iI.2 ⟨fun x hx=>?_,vM _ _⟩) (Mk n) fun x=>?_
 ·obtain ⟨h1,h2,h3⟩:=ny.1 hx
  have:x≠0:=fun e=>h3 (by rw [e];simp);omega
 ·rw [aW,ny,tE]
  constructor
  ·rintro (rfl | ⟨h1,h2,h3⟩)
   ·omega
   ·exact ⟨h1,h2⟩
  ·rintro ⟨h1,h2⟩
   by_cases e:x=0
   ·exact .inl e
   ·exact .inr ⟨h1,h2,fun h=>e (by simpa using h)⟩
theorem Cv {n:Nat} (hn:0<n):(dZ n [0]).length+1=n:=by
 have:=congrArg List.length (rest_cons hn);rw [Ge,aT] at this;exact this
theorem yt {n : Nat} {x : Int} : x ∈ dZ n [0] ↔ 1 <= x /\ x < (n : Int) := by
  rw [ny]
  constructor
  · rintro ⟨h1, h2, h3⟩
    have : x ≠ 0 := fun e => h3 (by rw [e]; simp)
    omega
  · rintro ⟨h1, h2⟩
    exact ⟨by omega, h2, fun h => by have : x = 0 := by simpa using h
                                     omega⟩
section
variable {aac:List ByteArray} {l:List (List Int)}
theorem lu.own (h:lu aac l) {k:Nat} (hk:k<(aP l).length):yP aac.length (gl (aP l) k):=h.Ct _ (yq.1 (oM hk))
theorem lu.lam (h:lu aac l) {a b:List Int} (ha:a∈l) (hb:b∈l):(∀x∈a,x∉b)\/(∀x∈a,x∈b)\/∀x∈b,x∈a:=by
 obtain ⟨i,hi,rfl⟩:=Oy ha;obtain ⟨k,hk,rfl⟩:=Oy hb;rcases rY i k with c | c | c
 ·exact (Jk (h.Ct _ ha).set (h.Ct _ hb).set).1 (h.cmp i k c hk)
 ·subst c;exact .inr (.inl fun x hx=>hx)
 ·rcases (Jk (h.Ct _ hb).set (h.Ct _ ha).set).1 (h.cmp k i c hi) with e | e | e
  ·exact .inl fun x h1 h2=>e x h2 h1
  ·exact .inr (.inr e)
  ·exact .inr (.inl e)
theorem PG {i k:Nat} (hik:i<k) (hk:k<(aP l).length):(gl (aP l) k).length<=(gl (aP l) i).length/\gl (aP l) i≠gl (aP l) k:=by
 have h:=nS.1 (X3 l) i k (by omega) hk hik;have e1:gl (aP l) i=(aP l)[i]:=by simp [gl,show i<(aP l).length by omega]
 have e2:gl (aP l) k=(aP l)[k]:=by simp [gl,hk]
 rw [<- e1,<- e2] at h;constructor
 ·unfold mF at h
  split at h
  ·omega
  ·split at h
   ·omega
   ·omega
 ·intro e;rw [e,R2] at h;omega
theorem lu.up (h:lu aac l) {i k:Nat} (hi:i<(aP l).length) (hk:k<(aP l).length) (hne:i≠k) (hs:∀x∈gl (aP l) k,x∈gl (aP l) i):i<k:=by
 rcases rY i k with c | c | c
 ·exact c
 ·exact absurd c hne
 ·obtain ⟨h1,h2⟩:=PG c hi
  have a1:=(h.own hi).set.xD;have a2:=(h.own hk).set.xD;have h3:=nK a2 a1 hs;exact absurd (E6 a2 a1 fun x=>⟨hs x,Gd a2 a1 hs (by omega) x⟩) h2
theorem lu.down (h:lu aac l) {i k:Nat} (hi:i<k) (hk:k<(aP l).length) {x:Int} (h1:x∈gl (aP l) i) (h2:x∈gl (aP l) k):∀y∈gl (aP l) k,y∈gl (aP l) i:=by
 rcases h.lam (yq.1 (oM (show i<(aP l).length by omega))) (yq.1 (oM hk)) with e | e | e
 ·exact absurd h2 (e x h1)
 ·have:=h.up (i:=k) (k:=i) hk (by omega) (by omega) e
  omega
 ·exact e
theorem oI {own:List (List Int)} {k:Nat} (hk:k<own.length):bS aac own (3+k)=gl own k:=by
 unfold bS;rw [if_neg (by omega),if_neg (by omega),if_neg (by omega),if_pos (by omega),show 3+k - 3=k by omega]
theorem sj {own:List (List Int)} {b:Nat} (hb:1<=b):bS aac own (2+own.length+b)=[(b:Int)]:=by
 unfold bS;rw [if_neg (by omega),if_neg (by omega),if_neg (by omega),if_neg (by omega),show 2+own.length+b - 2 - own.length=b by omega]
theorem vP {own:List (List Int)} {n i:Nat} (hi:i<3+own.length+(n - 1)):i=0\/i=1\/i=2\/(∃k,k<own.length/\i=3+k)\/∃b,1<=b/\b<n/\i=2+own.length+b:=by
 by_cases h0:i=0
 ·exact .inl h0
 by_cases h1:i=1
 ·exact .inr (.inl h1)
 by_cases h2:i=2
 ·exact .inr (.inr (.inl h2))
 by_cases h3:i<3+own.length
 ·exact .inr (.inr (.inr (.inl ⟨i - 3,by omega,by omega⟩)))
 ·exact .inr (.inr (.inr (.inr ⟨i - 2 - own.length,by omega,by omega,by omega⟩)))
theorem lu.kind (h : lu aac l) (h3 : 3 <= aac.length) {i : Nat} (hi : i < 3 + (aP l).length + (aac.length - 1)) :
    ((bS aac (aP l) i).Pairwise (· < ·) /\ (∀ x ∈ bS aac (aP l) i, 0 <= x /\ x < (aac.length : Int))) /\
    ((i = 0 /\ (bS aac (aP l) i).length = aac.length) \/ (i = 1 /\ (bS aac (aP l) i).length = 1 /\ bS aac (aP l) i = [0]) \/ (i = 2 /\ (bS aac (aP l) i).length + 1 = aac.length) \/
      (∃ k, k < (aP l).length /\ i = 3 + k /\ bS aac (aP l) i = gl (aP l) k /\ 2 <= (bS aac (aP l) i).length /\ (bS aac (aP l) i).length + 2 <= aac.length) \/
      ∃ b : Nat, 1 <= b /\ b < aac.length /\ i = 2 + (aP l).length + b /\ bS aac (aP l) i = [(b : Int)] /\ (bS aac (aP l) i).length = 1) := by
  rcases vP hi with rfl | rfl | rfl | ⟨k, hk, rfl⟩ | ⟨b, hb, xe, rfl⟩
  · exact ⟨⟨Mk _, fun x hx => tE.1 hx⟩, .inl ⟨rfl, Ge _⟩⟩
  · exact ⟨⟨by simp [bS], fun x hx => by have : x = 0 := by simpa [bS] using hx
                                         omega⟩, .inr (.inl ⟨rfl, rfl, rfl⟩)⟩
  · exact ⟨⟨vM _ _, fun x hx => by have := yt.1 hx; omega⟩, .inr (.inr (.inl ⟨rfl, Cv (by omega)⟩))⟩
  · have ho := h.own hk
    have hl := ho.len
    refine ⟨?_, .inr (.inr (.inr (.inl ⟨k, hk, rfl, oI hk, ?_, ?_⟩)))⟩
    · rw [oI hk]
      exact ⟨ho.set.xD, fun x hx => by have := ho.bd x hx; omega⟩
    · rw [oI hk]; omega
    · rw [oI hk]; omega
  · refine ⟨?_, .inr (.inr (.inr (.inr ⟨b, hb, xe, rfl, sj hb, by rw [sj hb]; rfl⟩)))⟩
    rw [sj hb]
    exact ⟨by simp, fun x hx => by have : x = (b : Int) := by simpa using hx
                                   omega⟩
theorem own_x {s:List Int} {n:Int} (h:yP n s):gi s 0∈s:=gi_in (by have:=h.len;omega)
theorem Ml (h : lu aac l) (h3 : 3 <= aac.length) (hsm : 3 + (aP l).length + (aac.length - 1) <= 64) : bM aac (bT aac (aP l)) (bS aac (aP l)) := by
  have hlen : (bT aac (aP l)).ps.length = 3 + (aP l).length + (aac.length - 1) := bT_len
  have OB : bS aac (aP l) 2 = dZ aac.length [0] := rfl
  have hall : bS aac (aP l) 0 = allI aac.length := rfl
  have hone : bS aac (aP l) 1 = [0] := rfl
  have sub0 : ∀ i, i < 3 + (aP l).length + (aac.length - 1) -> ∀ x ∈ bS aac (aP l) i, x ∈ bS aac (aP l) 0 := fun i hi x hx => by
    rw [hall]; exact tE.2 ((h.kind h3 hi).1.2 x hx)
  have ZH : ∀ k, k < (aP l).length -> ∀ x ∈ gl (aP l) k, x ∈ bS aac (aP l) 2 := fun k hk x hx => by
    rw [OB]; exact yt.2 ((h.own hk).bd x hx)
  -- the least set above a number and what holds it
  have least : ∀ (x : Int) (k : Nat), k <= (aP l).length -> 1 <= x -> x < aac.length -> ∃ p, p < 3 + k /\ gF (aP l) x k = (p : Int) /\ 2 <= p /\ x ∈ bS aac (aP l) p /\ (p < 3 + (aP l).length) /\
      (∀ q, q < k -> x ∈ gl (aP l) q -> ∀ y ∈ bS aac (aP l) p, y ∈ gl (aP l) q) /\ (∀ y ∈ bS aac (aP l) p, y ∈ bS aac (aP l) 2) := fun x k hk x1 xn => by
    rcases OA (aP l) x k with ⟨h1, h2⟩ | ⟨p, p1, p2, p3, p4⟩
    · exact ⟨2, by omega, h1, by omega, by rw [OB]; exact yt.2 ⟨x1, xn⟩, by omega, fun q hq hx => absurd hx (h2 q hq), fun y hy => hy⟩
    · refine ⟨3 + p, by omega, p2, by omega, by rw [oI (by omega)]; exact p3, by omega, fun q hq hx => ?_, ?_⟩
      · rw [oI (by omega)]
        rcases rY q p with c | c | c
        · exact h.down c (by omega) hx p3
        · subst c; exact fun y hy => hy
        · exact absurd hx (p4 q c hq)
      · rw [oI (show p < (aP l).length by omega)]
        exact ZH p (by omega)
  refine ⟨h.nm, h.nd, by rw [hlen]; omega, by rw [hlen]; exact hsm, by rw [bT_nlen, hlen], by rw [bT_ps, if_pos rfl], fun b hb => by rw [hall]; exact tE.2 ⟨by omega, by omega⟩, fun i hi => ?_, fun i h0 hi => ?_, fun i j hi hj h1 h2 => ?_, fun b hb => ?_, fun i hi => ?_, fun i hi => ?_⟩
  · rw [hlen] at hi
    obtain ⟨⟨k1, k2⟩, k3⟩ := h.kind h3 hi
    refine ⟨k2, fun e => ?_⟩
    rw [e] at k3
    simp only [dO] at k3
    rcases k3 with k3 | k3 | k3 | ⟨k, _, _, _, k4, _⟩ | ⟨b, _, _, _, _, k4⟩
    · omega
    · omega
    · omega
    · omega
    · omega
  · rw [hlen] at hi
    rw [bT_ps, if_neg (by omega)]
    rcases vP hi with rfl | rfl | rfl | ⟨k, hk, rfl⟩ | ⟨b, hb, xe, rfl⟩
    · omega
    · refine ⟨0, by omega, rfl, sub0 1 (by omega), fun j hj hj1 hs => ?_⟩
      rw [hlen] at hj
      rw [hone] at hs
      have hs := hs 0 (by simp)
      rcases vP hj with rfl | rfl | rfl | ⟨k, hk, rfl⟩ | ⟨b, hb, xe, rfl⟩
      · exact fun x hx => hx
      · exact absurd rfl hj1
      · rw [OB] at hs; have := yt.1 hs; omega
      · rw [oI hk] at hs; have := (h.own hk).bd 0 hs; omega
      · rw [sj hb] at hs; have : (0 : Int) = b := by simpa using hs
        omega
    · refine ⟨0, by omega, rfl, sub0 2 (by omega), fun j hj hj1 hs => ?_⟩
      rw [hlen] at hj
      obtain ⟨⟨k1, k2⟩, k3⟩ := h.kind h3 hj
      have hl2 := nK (vM _ _) k1 (by rw [OB] at hs; exact hs)
      have GU := Cv (n := aac.length) (by omega)
      have hl2 : (dZ aac.length [0]).length <= (bS aac (aP l) j).length := hl2
      rcases k3 with ⟨rfl, _⟩ | ⟨_, k3, _⟩ | ⟨rfl, _⟩ | ⟨k, _, _, _, _, k4⟩ | ⟨b, _, _, _, _, k4⟩
      · exact fun x hx => hx
      · omega
      · exact absurd rfl hj1
      · omega
      · omega
    · rw [if_neg (by omega), if_pos (by omega), show 3 + k - 3 = k by omega]
      have ho := h.own hk
      have hx := own_x ho
      have hxb := ho.bd _ hx
      obtain ⟨p, p1, p2, p2', p3, p4, p5, p6⟩ := least (gi (gl (aP l) k) 0) k (by omega) hxb.1 hxb.2
      have hsub : ∀ y ∈ gl (aP l) k, y ∈ bS aac (aP l) p := by
        rcases vP (n := aac.length) (show p < 3 + (aP l).length + (aac.length - 1) by omega) with rfl | rfl | rfl | ⟨q, hq, rfl⟩ | ⟨b, hb, xe, rfl⟩
        · omega
        · omega
        · exact ZH k hk
        · rw [oI hq] at p3 ⊢
          exact h.down (by omega) hk p3 hx
        · omega
      refine ⟨p, by omega, p2, by rw [oI hk]; exact hsub, fun j hj hj1 hs => ?_⟩
      rw [hlen] at hj
      rw [oI hk] at hs
      have Jr := hs _ hx
      rcases vP hj with rfl | rfl | rfl | ⟨q, hq, rfl⟩ | ⟨b, hb, xe, rfl⟩
      · exact sub0 p (by omega)
      · rw [hone] at Jr; have : gi (gl (aP l) k) 0 = 0 := by simpa using Jr
        omega
      · exact p6
      · rw [oI hq] at hs Jr ⊢
        have hqk := h.up hq hk (fun e => hj1 (by rw [e])) hs
        exact p5 q hqk Jr
      · exfalso
        rw [sj hb] at hs
        have q1 := nK ho.set.xD (by simp) hs
        have q2 := ho.len
        rw [CM] at q1
        omega
    · rw [if_neg (by omega), if_neg (by omega), if_pos (by omega), show 2 + (aP l).length + b - 2 - (aP l).length = b by omega]
      obtain ⟨p, p1, p2, p2', p3, p4, p5, p6⟩ := least (b : Int) (aP l).length (af _) (by omega) (by omega)
      refine ⟨p, by omega, p2, by rw [sj hb]; intro x hx; have : x = (b : Int) := by simpa using hx
                                  rw [this]; exact p3, fun j hj hj1 hs => ?_⟩
      rw [hlen] at hj
      rw [sj hb] at hs
      have Jr := hs (b : Int) (by simp)
      rcases vP hj with rfl | rfl | rfl | ⟨q, hq, rfl⟩ | ⟨b', hb', hbn', rfl⟩
      · exact sub0 p (by omega)
      · rw [hone] at Jr; have : (b : Int) = 0 := by simpa using Jr
        omega
      · exact p6
      · rw [oI hq] at Jr ⊢
        exact p5 q hq Jr
      · rw [sj hb'] at Jr; have : (b : Int) = b' := by simpa using Jr
        exact absurd (by rw [show b' = b by omega]) hj1
  · rw [hlen] at hi hj
    obtain ⟨⟨a1, a2⟩, a3⟩ := h.kind h3 hi
    obtain ⟨⟨c1, c2⟩, c3⟩ := h.kind h3 hj
    have e := E6 a1 c1 fun x => ⟨h1 x, h2 x⟩
    have el := congrArg List.length e
    rcases a3 with ⟨rfl, a4⟩ | ⟨rfl, a4, a5⟩ | ⟨rfl, a4⟩ | ⟨k, hk, rfl, a6, a4, a5⟩ | ⟨b, b1, b2, rfl, a5, a4⟩ <;>
    rcases c3 with ⟨rfl, c4⟩ | ⟨rfl, c4, c5⟩ | ⟨rfl, c4⟩ | ⟨k', hk', rfl, c6, c4, c5⟩ | ⟨b', d1, d2, rfl, c5, c4⟩ <;>
    first | omega | skip
    · rw [a5, c5] at e; injection e with e; omega
    · rw [a6, c6] at e
      rcases rY k k' with c | c | c
      · exact absurd e (PG c hk').2
      · rw [c]
      · exact absurd e.symm (PG c hk).2
    · rw [a5, c5] at e; injection e with e; omega
    · rw [a5, c5] at e; injection e with e; omega
  · by_cases h0 : b = 0
    · subst h0; exact ⟨1, by rw [hlen]; omega, rfl⟩
    · exact ⟨2 + (aP l).length + b, by rw [hlen]; omega, sj (by omega)⟩
  · rw [hlen] at hi
    unfold bT
    rcases vP hi with rfl | rfl | rfl | ⟨k, hk, rfl⟩ | ⟨b, hb, xe, rfl⟩
    · rw [hall, RO, if_neg (by rw [Ge]; omega)]; rfl
    · rfl
    · rw [OB, RO, if_neg (by have := Cv (n := aac.length) (by omega); omega)]; rfl
    · have := (h.own hk).len
      rw [oI hk, RO, if_neg (by omega), show 3 + k = k + 1 + 1 + 1 by omega]
      show gs (List.replicate (aP l).length ByteArray.empty ++ (List.range (aac.length - 1)).map fun b => gs aac (b + 1)) k = _
      simp [gs, List.getElem?_append, hk]
    · obtain ⟨c, rfl⟩ : ∃ c, b = c + 1 := ⟨b - 1, by omega⟩
      rw [sj hb]
      have e1 : RO aac [((c + 1 : Nat) : Int)] = gs aac (c + 1) := by
        unfold RO
        rw [if_pos (show [((c + 1 : Nat) : Int)].length = 1 from rfl)]
        show gs aac ((c + 1 : Nat) : Int).toNat = _
        rw [cZ]
      rw [e1, show 2 + (aP l).length + (c + 1) = (aP l).length + c + 1 + 1 + 1 by omega]
      show gs (List.replicate (aP l).length ByteArray.empty ++ (List.range (aac.length - 1)).map fun b => gs aac (b + 1)) ((aP l).length + c) = _
      simp [gs, show c < aac.length - 1 by omega]
  · rw [hlen] at hi
    exact set_nodup (h.kind h3 hi).1.1
end
end
end Go.Proofs.YthgabkgmkolobaaGreat
