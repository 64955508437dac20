/- Parse: what its loop keeps in memory. -/
import Derived.Test.YthgabkgmkolobaaGreatQ21
set_option maxRecDepth 100000
namespace Go.Proofs.YthgabkgmkolobaaGreat
open Go.RowKit Go.Deep
structure oC (base:Nat) (s:ByteArray) (R:Option RT) (w0:World) (top k:Nat) (b:Bool) (ov:Value) (wr:World) (n:Nat) (A:Nat->Nat) (kv:Nat->Value) (F:bW) (o:Nat) (os:List Nat) (Z:List RT) (st:List (List RT)) (f:Nat):Prop where
 fr:cE base n A kv F wr
 a0:A 0=top
 zf:qF F n (o::os) (Z::st)
 own:au base 119 wr ov ((o::os).reverse.map (dh A))
 BC:∀g,ov.ownBlock=some g->∀j,j<n->g≠A j
 zx:∀g,ov.ownBlock=some g->∀j,j<n->(kv j).ownBlock≠some g
 last:(o::os).getLast? = some 0
 nk:n<=k+1
 ol:os.length<=k
 dnz:b=true->Z≠[]
 run:pz f (s.data.toList.drop k) (Z::st) b=R
 fuel:s.size<f+k
 up:Below base w0 wr
def J8 (base:Nat) (s:ByteArray) (R:Option RT) (w0:World) (top k:Nat) (b:Bool) (ov:Value) (wr:World):Prop :=
 ∃n A kv F o os Z st f,oC base s R w0 top k b ov wr n A kv F o os Z st f
section
variable {base:Nat} {s:ByteArray} {R:Option RT} {w0 wr w':World} {top k n f o:Nat} {b:Bool} {ov:Value} {A:Nat->Nat} {kv:Nat->Value} {F:bW} {os:List Nat} {Z:List RT} {st:List (List RT)}
theorem oC.ovl (h:oC base s R w0 top k b ov wr n A kv F o os Z st f) {g:Nat} (hg:ov.ownBlock=some g):base<=g/\g<wr.heap.size:=av h.own hg
theorem oC.row (h:oC base s R w0 top k b ov wr n A kv F o os Z st f):∃g cap,ov=.slice (some ⟨g,0,none⟩) (os.length+1) cap/\os.length+1<=cap/\wr.cell? ⟨g,os.length,none⟩=some (.pointer (some ⟨A o,0,none⟩)):=by
 obtain ⟨q,cap,hv,hq⟩:=h.own.form (n:=os.length+1) (by simp);obtain ⟨g,rfl⟩:∃g,q=some ⟨g,0,none⟩:=by
  rcases hq with rfl | h2
  ·obtain ⟨_,h3 | ⟨g,_,_,h3,_⟩⟩:=h.own
   ·have:=h3.2;simp at this
   ·rw [hv] at h3;cases h3
  ·exact h2
 have ho:=h.own;rw [hv] at ho;have hcm:os.length+1<=cap:=by
  rcases ho.2 with ⟨e,_⟩ | ⟨g2,dF,cur,e,_,_,hn,_⟩
  ·cases e
  ·have e3:cap=dF:=(Value.slice.inj e).2.2
   rw [e3];simpa using hn
 refine ⟨g,cap,hv,hcm,(tR ho ?_).1⟩;rw [kr,List.reverse_cons,Jc (by simp)];simp [dh]
structure PaN (base:Nat) (w0:World) (top:Nat) (ov:Value) (n:Nat) (A':Nat->Nat) (kv':Nat->Value) (G:bW) (ol:List Nat) (W:World):Prop where
 fr:cE base (n+1) A' kv' G W
 a0:A' 0=top
 own:au base 119 W ov (ol.reverse.map (dh A'))
 BC:∀g,ov.ownBlock=some g->∀j,j<n+1->g≠A' j
 zx:∀g,ov.ownBlock=some g->∀j,j<n+1->(kv' j).ownBlock≠some g
 up:Below base w0 W
theorem oC.node (h:oC base s R w0 top k b ov wr n A kv F o os Z st f) (nm:ByteArray) {g m cap:Nat} (yJ:base<=wr.heap.size)
  (hv:au base 119 w' (.slice (some ⟨g,0,none⟩) m cap) ((F.kids o).map (dh A)++[.pointer (some ⟨wr.heap.size,0,none⟩)]))
  (hg:(wr.alloc (.cells #[.string nm,.slice none 0 0,.int .i64 0] 122)).grownBy w' (kv o).ownBlock) (hr:(kv o).ownBlock=some g\/wr.heap.size+1<=g) :
  ∃A' kv',A' n=wr.heap.size/\PaN base w0 top ov n A' kv' (nP F n o nm) (o::os) (w'.setCell ⟨A o,1,none⟩ (.slice (some ⟨g,0,none⟩) m cap)):=by
 have ho:=h.zf.on;have hon:o≠n:=by omega
 have h1:=h.fr.Hv yJ nm 0;have hAo:upd A n wr.heap.size o=A o:=upd_ne _ _ hon;have agH:upd kv n (.slice none 0 0) o=kv o:=upd_ne _ _ hon;have hmap:∀l:List Nat,(∀k∈l,k<n)->l.map (dh (upd A n wr.heap.size))=l.map (dh A):=fun l hl=>by refine lz fun k hk=>?_;have:=hl k hk;unfold dh;rw [upd_ne _ _ (by omega)]
 have hsz:(wr.alloc (.cells #[.string nm,.slice none 0 0,.int .i64 0] 122)).heap.size=wr.heap.size+1:=aQ _ _;have h2:=h1.push (k:=o) (c:=n) (v:=.slice (some ⟨g,0,none⟩) m cap) (by omega) (by omega)
  (by
   show au _ _ _ _ ((upd F.kids n [] o++[n]).map _);rw [upd_ne _ _ hon,cg,hmap _ (h.fr.kid o ho)];show au _ _ _ _ (_++[dh (upd A n wr.heap.size) n])
   unfold dh;rw [upd_same];exact hv) (by rw [agH];exact hg) (fun b2 hb2=>by cases hb2;rw [agH,hsz];exact hr)
 rw [hAo] at h2;have h0n:0<n:=by omega
 have ajt:∀g2,ov.ownBlock=some g2->w'.heap[g2]? = wr.heap[g2]?:=fun g2 hg2=>by have hl:=(h.ovl hg2).2;rw [hg.block g2 (by rw [hsz];omega) (fun e=>h.zx g2 hg2 o ho e.symm)];exact blk_alloc_lt _ _ _ hl
 refine ⟨_,_,upd_same _ _ _,h2.agb fun j hj=>⟨rfl,rfl,?_⟩,by rw [upd_ne _ _ (by omega)];exact h.a0,?_,fun g2 hg2 j hj=>?_,fun g2 hg2 j hj=>?_,?_⟩
 ·show upd (upd F.kids n []) o (F.kids o++[n]) j=upd (upd F.kids n []) o (upd F.kids n [] o++[n]) j
  rw [upd_ne F.kids _ hon]
 ·rw [hmap _ (fun k hk=>h.zf.opn k (List.mem_reverse.1 hk))]
  refine h.own.same fun g2 hg2=>?_;rw [blk_setCell_other _ _ _ _ (h.BC g2 hg2 o ho)];exact ajt g2 hg2
 ·by_cases e:j=n
  ·subst e;rw [upd_same];have:=(h.ovl hg2).2;omega
  ·rw [upd_ne _ _ e];exact h.BC g2 hg2 j (by omega)
 ·by_cases e:j=o
  ·subst e;rw [upd_same]
   intro e2;(have e2:g=g2:=by cases e2;rfl);rcases hr with h3 | h3
   ·exact h.zx g2 hg2 j ho (by rw [h3,e2])
   ·have:=(h.ovl hg2).2;omega
  ·rw [upd_ne _ _ e]
   by_cases e2:j=n
   ·subst e2;rw [upd_same];intro e3;cases e3
   ·rw [upd_ne _ _ e2];exact h.zx g2 hg2 j (by omega)
 ·have ha:Below base wr (wr.alloc (.cells #[.string nm,.slice none 0 0,.int .i64 0] 122)):=(cM _ _).alloc yJ _
  have hb2:Below base (wr.alloc (.cells #[.string nm,.slice none 0 0,.int .i64 0] 122)) w':=((h.fr.own o ho).alloc _).fF hg (by rw [hsz];omega);exact ((h.up.trans ha).trans hb2).setCell (p:=⟨A o,1,none⟩) (h.fr.lo o ho) _
theorem oC.store (h:oC base s R w0 top k b ov wr n A kv F o os Z st f) {ob:Obj} (hg:(wr.alloc ob).grownBy w' (kv o).ownBlock) :
  w'.cell? ⟨A o,1,none⟩=some (kv o)/\w'.frozen? ⟨A o,1,none⟩=false:=by
 have ho:=h.zf.on;have hlt:=h.fr.lt ho;have h1:w'.heap[A o]? = wr.heap[A o]?:=by rw [hg.block _ (by rw [aQ];omega) (fun e=>h.fr.apart o o ho ho e.symm)];exact blk_alloc_lt _ _ _ hlt
 constructor
 ·simp only [World.cell?,h1];exact h.fr.yM ho
 ·simp only [World.frozen?,h1];exact h.fr.thaw ho 1
theorem oC.agI (h:oC base s R w0 top k b ov wr n A kv F o os Z st f):((F.kids o).map (dh A)).length=(F.kids o).length/\(F.kids o).length<=1000000:=by
 refine ⟨aD _,?_⟩;have:=vq (h.zf.nd o h.zf.on) (fun x hx=>(h.zf.kid o h.zf.on x hx).2);have:=h.zf.big;omega
theorem oC.leaf (h:oC base s R w0 top k b ov wr n A kv F o os Z st f) (hb:n<2000) {W:World} {A':Nat->Nat} {kv':Nat->Value} {nm:ByteArray} {k' f':Nat} (hk:k+1<=k') (hN:PaN base w0 top ov n A' kv' (nP F n o nm) (o::os) W)
  (hrun:pz f' (s.data.toList.drop k') ((Z++[.node nm []])::st) true=R) (hf:s.size<f'+k'):J8 base s R w0 top k' true ov W :=
 ⟨_,_,_,_,_,_,_,_,_,⟨hN.fr,hN.a0,h.zf.leaf nm hb,hN.own,hN.BC,hN.zx,h.last,(by have:=h.nk;omega),(by have:=h.ol;omega),(fun _=>by simp),hrun,hf,hN.up⟩⟩
theorem oC.opened (h:oC base s R w0 top k b ov wr n A kv F o os Z st f) (hb:n<2000) {W:World} {A':Nat->Nat} {kv':Nat->Value} {f' g m cap:Nat} (hN:PaN base w0 top ov n A' kv' (nP F n o ByteArray.empty) (o::os) W) (yJ:base<=W.heap.size)
  (hv:au base 119 w' (.slice (some ⟨g,0,none⟩) m cap) ((o::os).reverse.map (dh A')++[dh A' n])) (hg:W.grownBy w' ov.ownBlock) (hr:ov.ownBlock=some g\/W.heap.size<=g)
  (hrun:pz f' (s.data.toList.drop (k+1)) ([]::Z::st) false=R) (hf:s.size<f'+(k+1)):J8 base s R w0 top (k+1) false (.slice (some ⟨g,0,none⟩) m cap) w':=by
 have hold:∀b2,b2<W.heap.size->(∀g2,ov.ownBlock=some g2->b2≠g2)->w'.heap[b2]? = W.heap[b2]?:=fun b2 hb2 hne=>hg.block b2 hb2 fun e=>hne b2 e.symm rfl;refine ⟨_,_,_,_,_,_,_,_,_,⟨hN.fr.same (fun i hi=>hold _ (hN.fr.lt hi) fun g2 hg2 e=>hN.BC g2 hg2 i hi e.symm) (fun i b2 hi hb2=>hold _ (hN.fr.lF hi hb2).2 fun g2 hg2 e=>hN.zx g2 hg2 i hi (by rw [hb2,e])),hN.a0,h.zf.open hb,?_,fun g2 hg2 j hj=>?_,fun g2 hg2 j hj=>?_,?_,(by have:=h.nk;omega),(by have:=h.ol;simp;omega),(fun e=>by cases e),hrun,hf,hN.up.trans (hN.own.fF hg yJ)⟩⟩
 ·rw [List.reverse_cons,cg];exact hv
 ·have hg2:some g=some g2:=hg2
  injection hg2 with hg2;subst hg2;rcases hr with h1 | h1
  ·exact hN.BC g h1 j hj
  ·have:=hN.fr.lt hj;omega
 ·have hg2:some g=some g2:=hg2
  injection hg2 with hg2;subst hg2;intro e;rcases hr with h1 | h1
  ·exact hN.zx g h1 j hj e
  ·have:=(hN.fr.lF hj e).2;omega
 ·rw [zY];exact h.last
theorem oC.agJ {q:Nat} {Y:List RT} {st2:List (List RT)} {os2:List Nat} (h:oC base s R w0 top k b ov wr n A kv F o (q::os2) Z (Y::st2) f) {g cap f':Nat} (wK:ov=.slice (some ⟨g,0,none⟩) (os2.length+2) cap)
  (hrun:pz f' (s.data.toList.drop (k+1)) ((Y++[.node ByteArray.empty Z])::st2) true=R) (hf:s.size<f'+(k+1)):J8 base s R w0 top (k+1) true (.slice (some ⟨g,0,none⟩) (os2.length+1) cap) wr:=by
 subst wK;refine ⟨_,_,_,_,_,_,_,_,_,⟨h.fr,h.a0,h.zf.pop,?_,h.BC,h.zx,?_,(by have:=h.nk;omega),(by have:=h.ol;simp at this;omega),(fun _=>by simp),hrun,hf,h.up⟩⟩
 ·have h1:=MW h.own (m:=os2.length+1) (by omega)
  have e:((o::q::os2).reverse.map (dh A)).take (os2.length+1)=(q::os2).reverse.map (dh A):=by rw [List.reverse_cons,cg,List.take_append_of_le_length (by simp)];rw [BW (by simp)]
  rw [e] at h1;exact h1
 ·have:=h.last
  rw [zY] at this;exact this
theorem oC.comma (h:oC base s R w0 top k b ov wr n A kv F o os Z st f) {f':Nat} (hrun:pz f' (s.data.toList.drop (k+1)) (Z::st) false=R) (hf:s.size<f'+(k+1)):J8 base s R w0 top (k+1) false ov wr :=
 ⟨_,_,_,_,_,_,_,_,_,⟨h.fr,h.a0,h.zf,h.own,h.BC,h.zx,h.last,(by have:=h.nk;omega),(by have:=h.ol;omega),(fun e=>by cases e),hrun,hf,h.up⟩⟩
theorem oC.drew (h:oC base s R w0 top k b ov wr n A kv F o os Z st f):oC base s R w0 top k b ov wr.drew n A kv F o os Z st f :=
 ⟨h.fr.up (Up.drewN wr 1),h.a0,h.zf,h.own.same fun _ _=>rfl,h.BC,h.zx,h.last,h.nk,h.ol,h.dnz,h.run,h.fuel,h.up.drew⟩
theorem oC.agK (h:oC base s R w0 top k b ov wr n A kv F o os Z st f) (hu:Up wr w'):oC base s R w0 top k b ov w' n A kv F o os Z st f :=
 ⟨h.fr.up hu,h.a0,h.zf,h.own.same fun _ hg=>bH hu _ (h.ovl hg).2,h.BC,h.zx,h.last,h.nk,h.ol,h.dnz,h.run,h.fuel,h.up.trans (hu.mono (aB (h.fr.lo 0 (by have:=h.zf.on;omega)) (Nat.le_of_lt (h.fr.lt (i:=0) (by have:=h.zf.on;omega)))))⟩
theorem oC.step (h:oC base s R w0 top k b ov wr n A kv F o os Z st f) (hk:k<s.size):∃f' ch,f=f'+1/\s.size<f'+(k+1)/\s.data.toList.drop k=ch::s.data.toList.drop (k+1)/\s[k]=ch:=by
 have hf:=h.fuel;refine ⟨f - 1,s[k],by omega,by omega,?_,rfl⟩;have hl:k<s.data.toList.length:=by rw [CM];exact hk
 rw [CO hl];congr 1
end
theorem abM (w1:World) (s:ByteArray):J8 w1.heap.size s (tQ s.data.toList) w1 w1.heap.size 0 false (.slice (some ⟨w1.heap.size+1,0,none⟩) 1 1)
  ((w1.alloc (.cells #[.string ⟨#[]⟩,.slice none 0 0,.int .i64 0] 122)).alloc (.cells #[.pointer (some ⟨w1.heap.size,0,none⟩)] 119)):=by
 have hs1:(w1.alloc (.cells #[.string ⟨#[]⟩,.slice none 0 0,.int .i64 0] 122)).heap.size=w1.heap.size+1:=aQ _ _;have h1:=((cE.empty w1.heap.size (fun _=>w1.heap.size) (fun _=>.slice none 0 0) ⟨fun _=>⟨#[]⟩,fun _=>0,fun _=>[]⟩ w1).Hv (ah _) ⟨#[]⟩ 0).up (Up.alloc _ (.cells #[.pointer (some ⟨w1.heap.size,0,none⟩)] 119));have h0:∀j,j<1->j=0:=fun j hj=>by omega
 have hA:∀j,j<0+1->upd (fun _=>w1.heap.size) 0 w1.heap.size j=w1.heap.size:=fun j hj=>by rw [h0 j hj,upd_same]
 have hown:au w1.heap.size 119 ((w1.alloc (.cells #[.string ⟨#[]⟩,.slice none 0 0,.int .i64 0] 122)).alloc (.cells #[.pointer (some ⟨w1.heap.size,0,none⟩)] 119)) (.slice (some ⟨w1.heap.size+1,0,none⟩) 1 1) (([0]:List Nat).reverse.map (dh (upd (fun _=>w1.heap.size) 0 w1.heap.size))):=by have hb:=blk_alloc_new (w1.alloc (.cells #[.string ⟨#[]⟩,.slice none 0 0,.int .i64 0] 122)) (.cells #[.pointer (some ⟨w1.heap.size,0,none⟩)] 119);rw [hs1] at hb;exact ⟨rfl,.inr ⟨w1.heap.size+1,1,_,rfl,by omega,hb,⟨by simp,by unfold maxLen;omega,rfl,by simp [dh,upd_same]⟩⟩⟩
 refine ⟨0+1,_,_,_,0,[],[],[],s.data.toList.length+1,⟨h1,upd_same _ _ _,?_,hown,fun g hg j hj=>?_,fun g hg j hj=>?_,rfl,ah _,aF _,(fun e=>by cases e),rfl,?_,((Up.alloc w1 _).trans (Up.alloc _ _))⟩⟩
 ·refine ⟨by omega,fun i hi k hk=>?_,fun p q k hp hq _ _=>by omega,fun i hi=>?_,⟨?_,⟨[],?_,rfl⟩,trivial⟩,fun o ho=>by simp at ho;omega,by simp⟩
  ·rw [h0 i hi] at hk
   have hk:k∈upd (fun _=>([]:List Nat)) 0 [] 0:=hk;rw [upd_same] at hk;cases hk
  ·rw [h0 i hi]
   show (upd (fun _=>([]:List Nat)) 0 [] 0).Nodup;rw [upd_same];exact List.nodup_nil
  ·show (upd (fun _=>(⟨#[]⟩:ByteArray)) 0 ⟨#[]⟩ 0).size=0
   rw [upd_same];rfl
  ·show upd (fun _=>([]:List Nat)) 0 [] 0=_
   rw [upd_same];rfl
 ·have hg:some (w1.heap.size+1)=some g:=hg
  injection hg with hg;rw [hA j hj];omega
 ·rw [h0 j hj,upd_same];intro e;cases e
 ·rw [CM]
  show s.data.size<_;omega
end Go.Proofs.YthgabkgmkolobaaGreat
