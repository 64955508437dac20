/- The contract of layer 31's reference's with and number. -/
import Derived.Deep.CutRange
import Derived.Test.YthgabkgmkolobaaGreatQ17
set_option maxRecDepth 100000
set_option maxHeartbeats 4000000
namespace Go.Proofs.YthgabkgmkolobaaGreat
open Go.RowKit Go.Deep
structure RW (tb B0:Nat) (w W:World) (P N Pv Nv:Value) (ps:List Int) (ns:List ByteArray):Prop where
 gk:GK tb w W P N Pv Nv
 tl:TL B0 W Pv Nv ps ns
 same:W.heap[tb]? = w.heap[tb]?
 lo:(tb<w.heap.size/\P.ownBlock≠some tb/\N.ownBlock≠some tb)/\B0<=w.heap.size
section
variable {tb B0:Nat} {w W W':World} {P N Pv Nv:Value} {ps:List Int} {ns:List ByteArray}
theorem RW.start (h:TL B0 w P N ps ns) (hl:(tb<w.heap.size/\P.ownBlock≠some tb/\N.ownBlock≠some tb)/\B0<=w.heap.size):RW tb B0 w w P N P N ps ns:=⟨GK.refl _ _ _ _,h,rfl,hl⟩
theorem RW.notP (h:RW tb B0 w W P N Pv Nv ps ns):Pv.ownBlock≠some tb:=fun e=>by
 rcases h.gk.pW tb e with h1 | h1
 ·exact h.lo.1.2.1 h1
 ·have:=h.lo.1.1;omega
theorem RW.aat (h:RW tb B0 w W P N Pv Nv ps ns):Nv.ownBlock≠some tb:=fun e=>by
 rcases h.gk.pX tb e with h1 | h1
 ·exact h.lo.1.2.2 h1
 ·have:=h.lo.1.1;omega
theorem RW.up (h:RW tb B0 w W P N Pv Nv ps ns) (hu:Up W W'):RW tb B0 w W' P N Pv Nv ps ns :=
 ⟨h.gk.up hu,h.tl.up hu,(bH hu tb (by have:=h.gk.size;have:=h.lo.1.1;omega)).trans h.same,h.lo⟩
theorem RW.AX (h:RW tb B0 w W P N Pv Nv ps ns) {g cap k:Nat} {u:Int} (ho:ax B0 3 W' (.slice (some ⟨g,0,none⟩) k cap) (ps.map (Value.int .i64)++[.int .i64 u])) (hg:W.grownBy W' Pv.ownBlock) (eZ:Pv.ownBlock=some g\/W.heap.size<=g) :
  RW tb B0 w W' P N (.slice (some ⟨g,0,none⟩) k cap) Nv (ps++[u]) ns:=by
 have hlo:=h.lo;have hsz:=h.gk.size;have hnp:=h.notP;refine ⟨⟨hg.os.trans h.gk.os,hg.tape.trans h.gk.tape,hg.output.trans h.gk.output,aR hsz hg.size,fun b hb h1 h2 h3=>?_,fun b hb=>?_,h.gk.pX⟩,⟨by rw [cm];exact ho,h.tl.en.iC fun b hb=>hg.block b (aG h.tl.en hb).2 (fun e=>h.tl.apart b e.symm hb),fun b hb hb2=>?_⟩,(hg.block tb (by have:=hlo.1.1;omega) (fun e=>hnp e.symm)).trans h.same,hlo⟩
 ·rw [<- h.gk.block b hb h1 h2 h3]
  refine hg.block b (by omega) fun e=>?_;rcases h.gk.pW b e.symm with h4 | h4
  ·exact h2 h4.symm
  ·omega
 ·injection hb with hb
  have hb:g=b:=hb;subst hb;rcases eZ with h4 | h4
  ·exact h.gk.pW g h4
  ·exact .inr (by omega)
 ·injection hb with hb
  have hb:g=b:=hb;subst hb;rcases eZ with h1 | h1
  ·exact h.tl.apart g h1 hb2
  ·have:=(aG h.tl.en hb2).2;omega
theorem RW.AY (h:RW tb B0 w W P N Pv Nv ps ns) {g cap k:Nat} {u:ByteArray} (ho:ax B0 9 W' (.slice (some ⟨g,0,none⟩) k cap) (ns.map Value.string++[.string u])) (hg:W.grownBy W' Nv.ownBlock) (eZ:Nv.ownBlock=some g\/W.heap.size<=g) :
  RW tb B0 w W' P N Pv (.slice (some ⟨g,0,none⟩) k cap) ps (ns++[u]):=by
 have hlo:=h.lo;have hsz:=h.gk.size;have hnn:=h.aat;refine ⟨⟨hg.os.trans h.gk.os,hg.tape.trans h.gk.tape,hg.output.trans h.gk.output,aR hsz hg.size,fun b hb h1 h2 h3=>?_,h.gk.pW,fun b hb=>?_⟩,⟨h.tl.dG.iC fun b hb=>hg.block b (aG h.tl.dG hb).2 (fun e=>h.tl.apart b hb e.symm),by rw [cm];exact ho,fun b hb hb2=>?_⟩,(hg.block tb (by have:=hlo.1.1;omega) (fun e=>hnn e.symm)).trans h.same,hlo⟩
 ·rw [<- h.gk.block b hb h1 h2 h3]
  refine hg.block b (by omega) fun e=>?_;rcases h.gk.pX b e.symm with h4 | h4
  ·exact h3 h4.symm
  ·omega
 ·injection hb with hb
  have hb:g=b:=hb;subst hb;rcases eZ with h4 | h4
  ·exact h.gk.pX g h4
  ·exact .inr (by omega)
 ·injection hb2 with hb2
  have hb2:g=b:=hb2;subst hb2;rcases eZ with h1 | h1
  ·exact h.tl.apart g hb h1
  ·have:=(aG h.tl.dG hb).2;omega
theorem RW.cells {P0 N0:Value} (h:RW tb B0 w W P N Pv Nv ps ns) (hb:w.heap[tb]? = some (Obj.cells #[P0,N0] 39 (0,0))) :
  W.cell? ⟨tb,0,none⟩=some P0/\W.cell? ⟨tb,1,none⟩=some N0:=by
 have h1:=h.same.trans hb;exact ⟨by simp [World.cell?,h1],by simp [World.cell?,h1]⟩
theorem RW.frozen {P0 N0:Value} (h:RW tb B0 w W P N Pv Nv ps ns) (hb:w.heap[tb]? = some (Obj.cells #[P0,N0] 39 (0,0))) (o:Nat):W.frozen? ⟨tb,o,none⟩=false:=by
 have h1:=h.same.trans hb;simp [World.frozen?,h1]
end
structure GW (tb B0:Nat) (W:World) (P N:Value) (t:aF):Prop where
 box:W.heap[tb]? = some (Obj.cells #[P,N] 39 (0,0))
 tl:TL B0 W P N t.ps t.ns
 lo:(P.ownBlock≠some tb/\N.ownBlock≠some tb)/\B0<=W.heap.size
theorem GW.lt {tb B0:Nat} {W:World} {P N:Value} {t:aF} (h:GW tb B0 W P N t):tb<W.heap.size:=(fW.1 h.box).1
theorem GW.cells {tb B0:Nat} {W:World} {P N:Value} {t:aF} (h:GW tb B0 W P N t):W.cell? ⟨tb,0,none⟩=some P/\W.cell? ⟨tb,1,none⟩=some N/\W.frozen? ⟨tb,0,none⟩=false/\W.frozen? ⟨tb,1,none⟩=false:=by
 refine ⟨?_,?_,?_,?_⟩<;>simp [World.cell?,World.frozen?,h.box]
theorem GW.put {tb B0:Nat} {W X:World} {P N P' N':Value} {t u:aF} (h:GW tb B0 W P N t) (hk:GK tb W X P N P' N') (hs:X.heap[tb]? = W.heap[tb]?) (ht:TL B0 X P' N' u.ps u.ns) :
  GW tb B0 ((X.setCell ⟨tb,0,none⟩ P').setCell ⟨tb,1,none⟩ N') P' N' u/\GK tb W ((X.setCell ⟨tb,0,none⟩ P').setCell ⟨tb,1,none⟩ N') P N P' N':=by
 have h1:=hs.trans h.box;have hl:=h.lt;have hp:P'.ownBlock≠some tb:=fun e=>by
  rcases hk.pW tb e with h2 | h2
  ·exact h.lo.1.1 h2
  ·omega
 have hn:N'.ownBlock≠some tb:=fun e=>by
  rcases hk.pX tb e with h2 | h2
  ·exact h.lo.1.2 h2
  ·omega
 have dw:∀b,b≠tb->((X.setCell ⟨tb,0,none⟩ P').setCell ⟨tb,1,none⟩ N').heap[b]? = X.heap[b]?:=fun b hb=>by rw [blk_setCell_other _ _ _ _ hb,blk_setCell_other _ _ _ _ hb]
 have hsz:((X.setCell ⟨tb,0,none⟩ P').setCell ⟨tb,1,none⟩ N').heap.size=X.heap.size:=by simp [World.size_setCell]
 refine ⟨⟨by simp [World.setCell,Array.getElem?_modify,h1],⟨ht.dG.iC fun b hb=>dw b (fun e=>hp (by rw [hb,e])),ht.en.iC fun b hb=>dw b (fun e=>hn (by rw [hb,e])),ht.apart⟩,⟨hp,hn⟩,by rw [hsz];exact aR h.lo.2 hk.size⟩,hk.os,hk.tape,hk.output,by rw [hsz];exact hk.size,fun b hb h2 h3 h4=>(dw b h2).trans (hk.block b hb h2 h3 h4),hk.pW,hk.pX⟩
theorem RW.store {tb B0:Nat} {w W:World} {P N Pv Nv:Value} {t:aF} {z:Int} {nm:ByteArray} (h0:GW tb B0 w P N t) (h:RW tb B0 w W P N Pv Nv (t.ps++[z]) (t.ns++[nm])) :
  GW tb B0 ((W.setCell ⟨tb,0,none⟩ Pv).setCell ⟨tb,1,none⟩ Nv) Pv Nv (t.push z nm)/\GK tb w ((W.setCell ⟨tb,0,none⟩ Pv).setCell ⟨tb,1,none⟩ Nv) P N Pv Nv:=h0.put h.gk h.same h.tl
theorem GK.Zf {tb:Nat} {w W:World} {P N P' N':Value} (h:GK tb w W P N P' N') {S:Nat->Prop} (hS:∀b,S b->b<w.heap.size->b≠tb/\P.ownBlock≠some b/\N.ownBlock≠some b):Kept S w W:=fun b hb hl=>by
 obtain ⟨h1,h2,h3⟩:=hS b hb hl
 exact h.block b hl h1 (fun e=>h2 e.symm) (fun e=>h3 e.symm)
def NU (B0:Nat) (w:World) (P N:Value) (t:aF) (r:RT) (par:Int) (e:Ending) (w':World):Prop :=
 ∃P' N',e=.returned (.agg #[P',N'])/\TL B0 w' P' N' (t.app r par).ps (t.app r par).ns/\GK w.heap.size w w' P N P' N'
theorem QT (t:aF) (nm:ByteArray) (ks:List RT) (par:Int):(t.push par nm).apps ks t.ps.length=t.app (.node nm ks) par:=by
 unfold aF.apps aF.app aF.push;rw [iw,dr];simp
theorem QU (t:aF) (ks:List RT) {j:Nat} (h:j<ks.length) (own:Nat):(t.apps (ks.take j) own).app (gr ks j) (own:Int)=t.apps (ks.take (j+1)) own:=by
 have hg:gr ks j=ks[j]:=by simp [gr,h]
 rw [QS,hg,jo h]
theorem LS (ks:List RT) {j:Nat} (h:j<ks.length):aU (ks.take j)+aK (gr ks j)<=aU ks:=by
 induction ks generalizing j with
 | nil=>simp at h
 | cons k ks ih =>
  cases j with
  | zero=>rw [List.take_zero,aU,aU];show _+aK k<=_;omega
  | succ j =>
   have:=ih (j:=j) (by simpa using h)
   rw [wI,aU,aU]
   show _+aK (gr ks j)<=_
   omega
theorem QV (w:World):Up w w.drew:=Up.drewN w 1
theorem zL {tb B0:Nat} {wo w3:World} {P N P2 N2:Value} {T:aF} (h:GW tb B0 wo P N T) (hk:GK wo.drew.heap.size wo.drew w3 P N P2 N2):w3.heap[tb]? = wo.heap[tb]?:=by
 have hl:=h.lt;exact hk.block tb hl (fun e=>by have:tb=wo.heap.size:=e;omega) (fun e=>h.lo.1.1 e.symm) (fun e=>h.lo.1.2 e.symm)
theorem NV {tb B0:Nat} {wo w3:World} {P N P2 N2:Value} {T:aF} (h:GW tb B0 wo P N T) (hk:GK wo.drew.heap.size wo.drew w3 P N P2 N2) (o:Nat):w3.frozen? ⟨tb,o,none⟩=false:=by
 have h1:=(zL h hk).trans h.box;simp [World.frozen?,h1]
theorem Zg {tb B0:Nat} {wo w3:World} {P N P2 N2:Value} {T:aF} (_:GW tb B0 wo P N T) (hk:GK wo.drew.heap.size wo.drew w3 P N P2 N2):GK tb wo w3 P N P2 N2 :=
 ⟨hk.os,hk.tape,hk.output,hk.size,fun b hb _ h2 h3=>hk.block b hb (fun e=>by have:b=wo.heap.size:=e;omega) h2 h3,hk.pW,hk.pX⟩
theorem V6 (B0:Nat):∀(d:Nat) (r:RT),aK r<=d->∀(w:World) (P N v:Value) (t:aF) (par:Int),TL B0 w P N t.ps t.ns->B0<=w.heap.size->t.ns.length=t.ps.length->t.ps.length+aK r<=100000 ->
  cK (fun b=>P.ownBlock≠some b/\N.ownBlock≠some b) w r v->Calls Tryz.prog 253 #[.agg #[P,N],v,.int .i64 par] w (NU B0 w P N t r par):=by
 intro d
 induction d with
 | zero=>intro r hr;have:=lZ r;omega
 | succ d ih =>
 intro r hr w P N v t par Ko hB0 hnl hbd hv;cases r with
 | node nm ks =>
  obtain ⟨xb,kp,kc,vs,rfl,hS,c0,c1,hk,hs⟩:=hv.open;simp only [RT.nm,RT.kids] at c0 c1 hk hs;have fT:=oT ks;rw [aK] at hr hbd;obtain ⟨pp,pc,rfl,_,_⟩:=aA.open Ko.dG.ints;obtain ⟨np,nc,rfl,_,_⟩:=aA.open Ko.en.strs;have kD:=aa ih;have fQ:=aa hnl;have V7:=Up.alloc w (.cells #[.slice pp t.ps.length pc,.slice np t.ns.length nc] 39);have bq:=V7.trans (Up.alloc _ (.cells #[.slice none 0 0,.slice none 0 0] 39))
  have hsz:((w.alloc (.cells #[.slice pp t.ps.length pc,.slice np t.ns.length nc] 39)).alloc (.cells #[.slice none 0 0,.slice none 0 0] 39)).heap.size=w.heap.size+2:=by simp
  have hb1:((w.alloc (.cells #[.slice pp t.ps.length pc,.slice np t.ns.length nc] 39)).alloc (.cells #[.slice none 0 0,.slice none 0 0] 39)).heap[w.heap.size]? = some (Obj.cells #[.slice pp t.ps.length pc,.slice np t.ns.length nc] 39 (0,0)) :=
   (bH (Up.alloc (w.alloc (.cells #[.slice pp t.ps.length pc,.slice np t.ns.length nc] 39)) _) w.heap.size (by rw [aL];omega)).trans (qB _ _)
  have hrb:=jv (w:=w.alloc (.cells #[.slice pp t.ps.length pc,.slice np t.ns.length nc] 39)) (P:=.slice none 0 0) (N:=.slice none 0 0) (T:=39);rw [aL] at hrb;have hpl:∀b,(Value.slice pp t.ps.length pc).ownBlock=some b->b<w.heap.size:=fun b hb=>(aG Ko.dG hb).2;have Db:∀b,(Value.slice np t.ns.length nc).ownBlock=some b->b<w.heap.size:=fun b hb=>(aG Ko.en hb).2
  have HG:Hid (GW w.heap.size B0 ((w.alloc (.cells #[.slice pp t.ps.length pc,.slice np t.ns.length nc] 39)).alloc (.cells #[.slice none 0 0,.slice none 0 0] 39)) (.slice pp t.ps.length pc) (.slice np t.ns.length nc) t) :=
   ⟨hb1,Ko.up bq,⟨fun e=>by have:=hpl _ e;omega,fun e=>by have:=Db _ e;omega⟩,by omega⟩
  have gj:=aa (bq.cell c0);have kr:=aa (bq.cell c1);have hxl:xb<w.heap.size:=dN w _ c0;have NW:Hid (aA (fun b=>b<w.heap.size/\(Value.slice pp t.ps.length pc).ownBlock≠some b/\(Value.slice np t.ns.length nc).ownBlock≠some b) ((w.alloc (.cells #[.slice pp t.ps.length pc,.slice np t.ns.length nc] 39)).alloc (.cells #[.slice none 0 0,.slice none 0 0] 39)) (.slice kp ks.length kc) ks.length (vN vs)) :=
   (hk.sub (T:=fun b=>b<w.heap.size/\(Value.slice pp t.ps.length pc).ownBlock≠some b/\(Value.slice np t.ns.length nc).ownBlock≠some b) fun b hb hl=>⟨hl,hb⟩).keep (bq.kept _)
  have HRS:Hid (aT (fun b=>b<w.heap.size/\(Value.slice pp t.ps.length pc).ownBlock≠some b/\(Value.slice np t.ns.length nc).ownBlock≠some b) ((w.alloc (.cells #[.slice pp t.ps.length pc,.slice np t.ns.length nc] 39)).alloc (.cells #[.slice none 0 0,.slice none 0 0] 39)) ks vs) :=
   aT.keep (bq.kept _) ks (aT.sub (fun b hb hl=>⟨hl,hb⟩) ks hs)
  have mI:=aa hrb;have dm:=aa hsz;have mX:=aa bq;have HS:=aa hS;have HPB:=aa hpl;have nV:=aa Db;have kV:=aa hbd;have F9:=aa (QT t nm ks par);have e9:=aa fT;have HR:=aa hr;have aau:=HG.out.cells.1;clear ih hv V7 bq hb1 hrb hpl Db Ko hk hs hnl c0 c1 hS hbd fT hr
  go_enter Tryz.func253,Tryz.ntmps253
  go_wp2_with fail;clear aau;generalize (w.alloc (.cells #[.slice pp t.ps.length pc,.slice np t.ns.length nc] 39)).alloc (.cells #[.slice none 0 0,.slice none 0 0] 39)=w2 at *;generalize htb:w.heap.size=tb at *
  have V8:Hid (∀(W:World) (P' N':Value),GK tb w2 W (.slice pp t.ps.length pc) (.slice np t.ns.length nc) P' N'->W.cell? ⟨xb,0,none⟩=some (.string nm)/\W.cell? ⟨xb,1,none⟩=some (.slice kp ks.length kc)):=fun W P' N' hk=>by have h1:=hk.block xb (by rw [dm.out];omega) (by omega) (fun e=>HS.out.1 e.symm) (fun e=>HS.out.2 e.symm);exact ⟨(fG (a:=⟨xb,0,none⟩) h1).trans gj.out,(fG (a:=⟨xb,1,none⟩) h1).trans kr.out⟩
  go_cut [] from 12 to 26 (fun wx=>∃P' N',GW tb B0 wx P' N' (t.push par nm)/\GK tb w2 wx (.slice pp t.ps.length pc) (.slice np t.ns.length nc) P' N')
  case first =>
   have hd:=Up.drewN w2 1;have GF:=aa HG.out;have fF:=aa HG.out.box;have NX:Hid (RW tb B0 w2 w2.drew (.slice pp t.ps.length pc) (.slice np t.ns.length nc) (.slice pp t.ps.length pc) (.slice np t.ns.length nc) t.ps t.ns):=(RW.start HG.out.tl ⟨⟨HG.out.lt,HG.out.lo.1⟩,HG.out.lo.2⟩).up hd;have nR:Hid (t.ps.length<=1000000/\t.ns.length<=1000000):=by have:=kV.out;have:=fQ.out;unfold Hid;omega
   have qH:Hid (∀ {W:World} {P' N':Value} {ps':List Int} {ns':List ByteArray},RW tb B0 w2 W (.slice pp t.ps.length pc) (.slice np t.ns.length nc) P' N' ps' ns'->W.cell? ⟨tb,0,none⟩=some (.slice pp t.ps.length pc)/\W.cell? ⟨tb,1,none⟩=some (.slice np t.ns.length nc)/\W.cell? ⟨xb,0,none⟩=some (.string nm)) :=
    fun h=>⟨(h.cells fF.out).1,(h.cells fF.out).2,(V8.out _ _ _ h.gk).1⟩
   refine eC (by kernel_rfl) 13 (fun w'=>w'.cell? ⟨tb,0,none⟩=some (.slice pp t.ps.length pc)/\w'.cell? ⟨tb,1,none⟩=some (.slice np t.ns.length nc)/\w'.cell? ⟨xb,0,none⟩=some (.string nm)) (qH.out NX.out) (fun hS=>?_);simp only [fo,aO,dz,Nat.reduceAdd,ic,ig,fk,cw,bz];generalize w2.drew=Wd at *;refine af.tk 0 hS ?_;(try simp only [Act.put,aj,aq,au]);refine af.tk 1 hS ?_
   (try simp only [Act.put,aj,aq,au]);refine af.tk 2 hS ?_;(try simp only [Act.put,aj,aq,au]);refine af.tk 5 hS ?_;(try simp only [Act.put,aj,aq,au]);refine af.tk 6 hS ?_;(try simp only [Act.put,aj,aq,au]);refine af.tk 7 hS ?_;(try simp only [Act.put,aj,aq,au]);refine af.tk 8 hS ?_
   (try simp only [Act.put,aj,aq,au]);refine af.tk 9 hS ?_;(try simp only [Act.put,aj,aq,au]);refine af.tk 10 hS ?_;(try simp only [Act.put,aj,aq,au]);refine af.ug (i:=3) (i2:=11) rfl rfl (by kernel_rfl) (fun K' hK=>?_) (fun K' hK=>?_)
   ·go_simp
    have Cb:Hid (RW tb B0 _ (Wd.alloc (.cells #[.int .i64 par] 3)) _ _ _ _ _ _):=NX.out.up (Up.alloc _ _);refine hK.out _ _ (fun _=>qH.out Cb.out) (fun _=>?_);(try simp only [aj,aq,au]);refine af.ug (i:=4) (i2:=11) rfl rfl (by kernel_rfl) (fun K' hK=>?_) (fun K' hK=>?_)
    ·refine gN (by rfl) _ _ _ (by rfl) B0 3 _ 8 Tryz.underlying26 Tryz.mA (by rfl) (by decide) (by rfl) Cb.out.tl.dG (.int .i64 par) Wd.heap.size (by rfl) (aH Wd #[.int .i64 par] 3 0) (by rfl) (by rw [aD];exact nR.out.1) (aR Cb.out.lo.2 Cb.out.gk.size) ?_
     intro g1 ND kZ sU lq hrg1 _;have sY:Hid (RW tb B0 _ kZ _ _ _ _ _ _):=Cb.out.AX sU lq (hrg1.imp id (fun e=>gQ e.symm));refine hK.out _ _ (fun _=>qH.out sY.out) (fun _=>?_);(try simp only [Act.put,aj,aq,au]);refine af.fr 13 (fun _=>qH.out sY.out) ?_;(try simp only [Act.put,aj,aq,au]);refine af.step (i:=11) rfl (by kernel_rfl) (fun K' hK=>?_);go_simp;have oU:Hid (RW tb B0 _ (kZ.alloc (.cells #[.string nm] 9)) _ _ _ _ _ _):=sY.out.up (Up.alloc _ _)
     refine hK.out _ _ (fun _=>qH.out oU.out) (fun _=>?_);(try simp only [aj,aq,au]);refine af.step (i:=12) rfl (by kernel_rfl) (fun K' hK=>?_);refine gN (by rfl) _ _ _ (by rfl) B0 9 _ 16 Tryz.underlying22 Tryz.jF (by rfl) (by decide) (by rfl) oU.out.tl.en (.string nm) kZ.heap.size (by rfl) (aH kZ #[.string nm] 9 0) (by rfl) (by rw [aD];exact nR.out.2) (aR oU.out.lo.2 oU.out.gk.size) ?_;intro g2 NF fK sV oJ hrg2 _
     have qI:Hid (RW tb B0 _ fK _ _ _ _ _ _):=oU.out.AY sV oJ (hrg2.imp id (fun e=>gQ e.symm));refine hK.out _ _ (fun _=>qH.out qI.out) (fun _=>?_);(try simp only [Act.put,aj,aq,au]);obtain ⟨B4,oK⟩:=qI.out.cells fF.out;have NG:=qI.out.frozen fF.out 0;have Gk:=qI.out.frozen fF.out 1;have oL:=aa (qI.out.store GF.out);refine af.step (i:=14) rfl (by kernel_rfl) (fun K' hK=>?_);go_simp;refine hK.out _ _ (aS (by kernel_rfl)) (fun _=>?_)
     (try simp only [aj,aq,au]);refine af.fr 15 (aS (by kernel_rfl)) ?_;(try simp only [Act.put,aj,aq,au]);refine af.step (i:=16) rfl (by kernel_rfl) (fun K' hK=>?_);go_simp;refine hK.out _ _ (aS (by kernel_rfl)) (fun _=>?_);refine af.done (by kernel_rfl) ?_;go_wp2_with fail;go_meet
     case rel =>have dR:=oL.out;simp only [aD] at dR;exact ⟨_,_,dR.1,dR.2⟩
    ·go_simp
     have sY:Hid (RW tb B0 _ ((Wd.alloc (.cells #[.int .i64 par] 3)).alloc (.cells #[.string nm] 9)) _ _ _ _ _ _):=Cb.out.up (Up.alloc _ _);refine hK.out _ _ (fun _=>qH.out sY.out) (fun _=>?_);(try simp only [aj,aq,au]);have rB:=aH (Wd.alloc (.cells #[.int .i64 par] 3)) #[.string nm] 9 0;have oC:=(Up.alloc (Wd.alloc (.cells #[.int .i64 par] 3)) (.cells #[.string nm] 9)).cell (aH Wd #[.int .i64 par] 3 0);rw [aL] at rB;refine af.step (i:=4) rfl (by kernel_rfl) (fun K' hK=>?_)
     refine gN (by rfl) _ _ _ (by rfl) B0 3 _ 8 Tryz.underlying26 Tryz.mA (by rfl) (by decide) (by rfl) sY.out.tl.dG (.int .i64 par) Wd.heap.size (by rfl) oC (by rfl) (by rw [aD];exact nR.out.1) (aR sY.out.lo.2 sY.out.gk.size) ?_;intro g1 ND kZ sU lq hrg1 _;have oU:Hid (RW tb B0 _ kZ _ _ _ _ _ _):=sY.out.AX sU lq (hrg1.imp id (fun e=>gQ e.symm))
     (have sG:kZ.cell? ⟨Wd.heap.size+1,0,none⟩=some (.string nm):=by rw [lq.cell_far ⟨Wd.heap.size+1,0,none⟩ (by simp) (fun e=>absurd (aG NX.out.tl.dG e.symm).2 (by show ¬(Wd.heap.size+1<Wd.heap.size);omega))];exact rB);refine hK.out _ _ (fun _=>qH.out oU.out) (fun _=>?_);(try simp only [Act.put,aj,aq,au]);refine af.fr 13 (fun _=>qH.out oU.out) ?_;(try simp only [Act.put,aj,aq,au]);refine af.step (i:=12) rfl (by kernel_rfl) (fun K' hK=>?_)
     refine gN (by rfl) _ _ _ (by rfl) B0 9 _ 16 Tryz.underlying22 Tryz.jF (by rfl) (by decide) (by rfl) oU.out.tl.en (.string nm) (Wd.heap.size+1) (by rfl) sG (by rfl) (by rw [aD];exact nR.out.2) (aR oU.out.lo.2 oU.out.gk.size) ?_;intro g2 NF fK sV oJ hrg2 _;have qI:Hid (RW tb B0 _ fK _ _ _ _ _ _):=oU.out.AY sV oJ (hrg2.imp id (fun e=>gQ e.symm));refine hK.out _ _ (fun _=>qH.out qI.out) (fun _=>?_);(try simp only [Act.put,aj,aq,au]);obtain ⟨B4,oK⟩:=qI.out.cells fF.out
     have NG:=qI.out.frozen fF.out 0;have Gk:=qI.out.frozen fF.out 1;have oL:=aa (qI.out.store GF.out);refine af.step (i:=14) rfl (by kernel_rfl) (fun K' hK=>?_);go_simp;refine hK.out _ _ (aS (by kernel_rfl)) (fun _=>?_);(try simp only [aj,aq,au]);refine af.fr 15 (aS (by kernel_rfl)) ?_;(try simp only [Act.put,aj,aq,au]);refine af.step (i:=16) rfl (by kernel_rfl) (fun K' hK=>?_);go_simp;refine hK.out _ _ (aS (by kernel_rfl)) (fun _=>?_)
     refine af.done (by kernel_rfl) ?_;go_wp2_with fail;go_meet
     case rel =>have dR:=oL.out;simp only [aD] at dR;exact ⟨_,_,dR.1,dR.2⟩
   ·go_simp
    have Cb:Hid (RW tb B0 _ (Wd.alloc (.cells #[.string nm] 9)) _ _ _ _ _ _):=NX.out.up (Up.alloc _ _);refine hK.out _ _ (fun _=>qH.out Cb.out) (fun _=>?_);(try simp only [aj,aq,au]);refine af.step (i:=3) rfl (by kernel_rfl) (fun K' hK=>?_);go_simp;have sY:Hid (RW tb B0 _ ((Wd.alloc (.cells #[.string nm] 9)).alloc (.cells #[.int .i64 par] 3)) _ _ _ _ _ _):=Cb.out.up (Up.alloc _ _);refine hK.out _ _ (fun _=>qH.out sY.out) (fun _=>?_);try simp only [aj,aq,au]
    have oC:=aH (Wd.alloc (.cells #[.string nm] 9)) #[.int .i64 par] 3 0;have rB:=(Up.alloc (Wd.alloc (.cells #[.string nm] 9)) (.cells #[.int .i64 par] 3)).cell (aH Wd #[.string nm] 9 0);rw [aL] at oC;refine af.step (i:=4) rfl (by kernel_rfl) (fun K' hK=>?_);refine gN (by rfl) _ _ _ (by rfl) B0 3 _ 8 Tryz.underlying26 Tryz.mA (by rfl) (by decide) (by rfl) sY.out.tl.dG (.int .i64 par) (Wd.heap.size+1) (by rfl) oC (by rfl) (by rw [aD];exact nR.out.1) (aR sY.out.lo.2 sY.out.gk.size) ?_;intro g1 ND kZ sU lq hrg1 _
    have oU:Hid (RW tb B0 _ kZ _ _ _ _ _ _):=sY.out.AX sU lq (hrg1.imp id (fun e=>gQ e.symm));(have sG:kZ.cell? ⟨Wd.heap.size,0,none⟩=some (.string nm):=by rw [lq.cell_far ⟨Wd.heap.size,0,none⟩ (by simp;omega) (fun e=>absurd (aG NX.out.tl.dG e.symm).2 (by show ¬(Wd.heap.size<Wd.heap.size);omega))];exact rB);refine hK.out _ _ (fun _=>qH.out oU.out) (fun _=>?_);(try simp only [Act.put,aj,aq,au]);refine af.fr 13 (fun _=>qH.out oU.out) ?_
    (try simp only [Act.put,aj,aq,au]);refine af.step (i:=12) rfl (by kernel_rfl) (fun K' hK=>?_);refine gN (by rfl) _ _ _ (by rfl) B0 9 _ 16 Tryz.underlying22 Tryz.jF (by rfl) (by decide) (by rfl) oU.out.tl.en (.string nm) Wd.heap.size (by rfl) sG (by rfl) (by rw [aD];exact nR.out.2) (aR oU.out.lo.2 oU.out.gk.size) ?_;intro g2 NF fK sV oJ hrg2 _;have qI:Hid (RW tb B0 _ fK _ _ _ _ _ _):=oU.out.AY sV oJ (hrg2.imp id (fun e=>gQ e.symm))
    refine hK.out _ _ (fun _=>qH.out qI.out) (fun _=>?_);(try simp only [Act.put,aj,aq,au]);obtain ⟨B4,oK⟩:=qI.out.cells fF.out;have NG:=qI.out.frozen fF.out 0;have Gk:=qI.out.frozen fF.out 1;have oL:=aa (qI.out.store GF.out);refine af.step (i:=14) rfl (by kernel_rfl) (fun K' hK=>?_);go_simp;refine hK.out _ _ (aS (by kernel_rfl)) (fun _=>?_);(try simp only [aj,aq,au]);refine af.fr 15 (aS (by kernel_rfl)) ?_
    (try simp only [Act.put,aj,aq,au]);refine af.step (i:=16) rfl (by kernel_rfl) (fun K' hK=>?_);go_simp;refine hK.out _ _ (aS (by kernel_rfl)) (fun _=>?_);refine af.done (by kernel_rfl) ?_;go_wp2_with fail;go_meet
    case rel =>have dR:=oL.out;simp only [aD] at dR;exact ⟨_,_,dR.1,dR.2⟩
  case rest =>
   obtain ⟨P1,N1,hG1,SS⟩:=hcut;have HG1:=aa hG1;have VM:=aa SS;have GG:Hid ((t.push par nm).apps (ks.take 0) t.ps.length=t.push par nm):=QO _ _;clear hG1 SS;go_wp2_with fail
   go_loopw [8] (fun i wr=>∃(j:Nat) (P' N':Value),j<=ks.length/\i=.int .i64 j/\Hid (GW tb B0 wr P' N' ((t.push par nm).apps (ks.take j) t.ps.length))/\Hid (GK tb w2 wr (.slice pp t.ps.length pc) (.slice np t.ns.length nc) P' N')) (fun i _=>ks.length - (intOf i).toNat)
   case atStart=>exact ⟨0,P1,N1,aI _,rfl,by rw [GG.out];exact HG1.out,VM.out⟩
   case round =>
    obtain ⟨j,P',N',hj,rfl,Cc,Ce⟩:=hrel;obtain ⟨wo,rfl⟩:∃wo:World,wo=wr:=⟨_,rfl⟩;have hx:=V8.out _ _ _ Ce.out;have hx1:=hx.2;by_cases hlt:j<ks.length
    ·have hcs:=Cc.out.cells
     have hkr:Kept (fun b=>b<tb/\(Value.slice pp t.ps.length pc).ownBlock≠some b/\(Value.slice np t.ns.length nc).ownBlock≠some b) w2 wo:=Ce.out.Zf fun b hb _=>⟨by omega,hb.2⟩;obtain ⟨kb,ko,rfl,hkc⟩:=oQ (NW.out.keep hkr) hlt;have Cf:=cK.keep hkr _ (aT.get ks HRS.out j hlt)
     have V9:cK (fun b=>P'.ownBlock≠some b/\N'.ownBlock≠some b) wo (gr ks j) (vN vs j):=cK.sub (fun b hb hl=>⟨fun e=>by
      rcases Ce.out.pW b e with h1 | h1
      ·exact hb.2.1 h1
      ·have:=hb.1;have:=dm.out;omega,fun e=>by
      rcases Ce.out.pX b e with h1 | h1
      ·exact hb.2.2 h1
      ·have:=hb.1;have:=dm.out;omega⟩) _ Cf
     have NY:=r7 hlt;obtain ⟨T,hT⟩:∃T,T=(t.push par nm).apps (ks.take j) t.ps.length:=⟨_,rfl⟩;(have HTS:Hid (T.app (gr ks j) (t.ps.length:Int)=(t.push par nm).apps (ks.take (j+1)) t.ps.length):=by rw [hT];exact QU _ _ hlt _);(have htl:T.ps.length=t.ps.length+1+aU (ks.take j)/\T.ns.length=t.ns.length+1+aU (ks.take j):=by rw [hT];unfold aF.apps aF.push;simp only [bg,aO,dz,pV,A4];exact ⟨trivial,trivial⟩);have aav:=LS ks hlt;rw [<- hT] at Cc
     have iB:Hid (∀W,Up wo W->Calls Tryz.prog 253 #[.agg #[P',N'],vN vs j,.int .i64 (t.ps.length:Nat)] W (NU B0 W P' N' T (gr ks j) (t.ps.length:Nat))):=fun W hW =>
      kD.out (gr ks j) (by have:=HR.out;omega) W P' N' (vN vs j) T _ (Cc.out.tl.up hW) (aR Cc.out.lo.2 hW.size) (by have:=fQ.out;omega) (by have:=kV.out;omega) (cK.keep (hW.kept _) _ V9)
     have Eo:=aa Cc.out;have HKJ:=aa Ce.out;(have i1:(0:Int)<=(j:Int):=by omega);(have i2:(j:Int)<(ks.length:Int):=by omega);(have i3:(j:Int)<1000000:=by have:=e9.out;have:=kV.out;omega);have bG:=aa hlt;have a0:=hcs.1;have a1:=hcs.2.1;clear hT htl NY Cf V9 hkr hcs hx Cc Ce aav hlt hj;generalize vN vs j=kv at *;generalize gr ks j=r at *;go_wp2_with fail
     refine eC (by kernel_rfl) 10 (fun w'=>w'.cell? ⟨tb,0,none⟩=some P'/\w'.cell? ⟨tb,1,none⟩=some N'/\w'.cell? ⟨xb,1,none⟩=some (.slice (some ⟨kb,ko,none⟩) ks.length kc)/\w'.cell? ⟨kb,ko+j,none⟩=some kv) ⟨a0,a1,hx1,hkc⟩ (fun hS=>?_);simp only [fo,aO,dz,Nat.reduceAdd,ic,ig,fk,cw,bz];refine af.tk 0 hS ?_;(try simp only [Act.put,aj,aq,au]);refine af.tk 1 hS ?_
     (try simp only [Act.put,aj,aq,au]);refine af.tk 2 hS ?_;(try simp only [Act.put,aj,aq,au]);refine af.tk 3 hS ?_;(try simp only [Act.put,aj,aq,au]);refine af.tk 4 hS ?_;(try simp only [Act.put,aj,aq,au]);refine af.tk 5 hS ?_;(try simp only [Act.put,aj,aq,au]);refine af.tk 6 hS ?_
     (try simp only [Act.put,aj,aq,au]);refine af.tk 7 hS ?_;(try simp only [Act.put,aj,aq,au]);refine af.tk 8 hS ?_;(try simp only [Act.put,aj,aq,au]);refine af.step (i:=9) rfl (by kernel_rfl) (fun K' hK=>?_);go_simp;refine (iB.out _ (QV wo)).mono ?_;rintro e w3 ⟨P2,N2,rfl,Ep,hK3⟩;obtain ⟨p2,c2,rfl,_,_⟩:=aA.open Ep.dG.ints;obtain ⟨q2,e2,rfl,_,_⟩:=aA.open Ep.en.strs;have hfz:=NV Eo.out hK3
     have Kh:=hfz 0;have vG:=hfz 1;have hw0:w3.cell? ⟨tb,0,none⟩=some P':=(fG (a:=⟨tb,0,none⟩) (zL Eo.out hK3)).trans Eo.out.cells.1;have hw1:w3.cell? ⟨tb,1,none⟩=some N':=(fG (a:=⟨tb,1,none⟩) (zL Eo.out hK3)).trans Eo.out.cells.2.1;have Wa:=aa (Eo.out.put (u:=T.app r (t.ps.length:Int)) (Zg Eo.out hK3) (zL Eo.out hK3) Ep);clear hfz Ep hK3;refine hK.out _ _ (aS (by kernel_rfl)) (fun hS=>?_);try simp only [aj,aq,au]
     refine af.step (i:=10) rfl (by kernel_rfl) (fun K' hK=>?_);go_simp;refine hK.out _ _ (aS (by kernel_rfl)) (fun hS=>?_);refine af.done (by kernel_rfl) ?_;go_wp2_with fail
     go_roundw
     case rel=>exact ⟨j+1,_,_,bG.out,by go_num,by rw [<- HTS.out];exact Wa.out.1,HKJ.out.trans Wa.out.2⟩
     case measure=>have:=bG.out;simp [intOf];omega
    ·obtain rfl:j=ks.length:=by omega
     have hcs:=Cc.out.cells;have a0:=hcs.1;have a1:=hcs.2.1;have hrb:wo.heap[tb+1]? = some (Obj.cells #[.slice none 0 0,.slice none 0 0] 39 (0,0)) :=
      (Ce.out.block (tb+1) (by rw [dm.out];omega) (by omega) (fun e=>by have:=HPB.out _ e.symm;omega) (fun e=>by have:=nV.out _ e.symm;omega)).trans mI.out
     (obtain ⟨r0,r1,r2,r3⟩:wo.cell? ⟨tb+1,0,none⟩=some (.slice none 0 0)/\wo.cell? ⟨tb+1,1,none⟩=some (.slice none 0 0)/\wo.frozen? ⟨tb+1,0,none⟩=false/\wo.frozen? ⟨tb+1,1,none⟩=false:=by refine ⟨?_,?_,?_,?_⟩<;>simp [World.cell?,World.frozen?,hrb]);have NZ:=Cc.out;rw [eT,F9.out] at NZ;have Wb:=aa NZ;have GH:=aa Ce.out;obtain ⟨pq,xO,rfl,_,_⟩:=aA.open NZ.tl.dG.ints;obtain ⟨nq,xP,rfl,_,_⟩:=aA.open NZ.tl.en.strs;have aaw:=aa hrb;clear hcs Cc Ce NZ hx hlt hj hrb;go_wp2_with fail
     have dw:∀b,b≠tb+1->((wo.setCell ⟨tb+1,0,none⟩ (.slice pq (t.app (.node nm ks) par).ps.length xO)).setCell ⟨tb+1,1,none⟩ (.slice nq (t.app (.node nm ks) par).ns.length xP)).heap[b]? = wo.heap[b]?:=fun b hb=>by rw [blk_setCell_other _ _ _ _ hb,blk_setCell_other _ _ _ _ hb]
     (have hheap:((wo.setCell ⟨tb+1,0,none⟩ (.slice pq (t.app (.node nm ks) par).ps.length xO)).setCell ⟨tb+1,1,none⟩ (.slice nq (t.app (.node nm ks) par).ns.length xP)).heap[tb+1]? = some (Obj.cells #[.slice pq (t.app (.node nm ks) par).ps.length xO,.slice nq (t.app (.node nm ks) par).ns.length xP] 39 (0,0)):=by simp [World.setCell,Array.getElem?_modify,aaw.out]);have VA:((wo.setCell ⟨tb+1,0,none⟩ (.slice pq (t.app (.node nm ks) par).ps.length xO)).setCell ⟨tb+1,1,none⟩ (.slice nq (t.app (.node nm ks) par).ns.length xP)).heap.size=wo.heap.size:=by simp [World.size_setCell]
     have hos:((wo.setCell ⟨tb+1,0,none⟩ (.slice pq (t.app (.node nm ks) par).ps.length xO)).setCell ⟨tb+1,1,none⟩ (.slice nq (t.app (.node nm ks) par).ns.length xP)).os=wo.os/\((wo.setCell ⟨tb+1,0,none⟩ (.slice pq (t.app (.node nm ks) par).ps.length xO)).setCell ⟨tb+1,1,none⟩ (.slice nq (t.app (.node nm ks) par).ns.length xP)).tape=wo.tape/\((wo.setCell ⟨tb+1,0,none⟩ (.slice pq (t.app (.node nm ks) par).ps.length xO)).setCell ⟨tb+1,1,none⟩ (.slice nq (t.app (.node nm ks) par).ns.length xP)).output=wo.output:=⟨rfl,rfl,rfl⟩
     generalize (wo.setCell ⟨tb+1,0,none⟩ (.slice pq (t.app (.node nm ks) par).ps.length xO)).setCell ⟨tb+1,1,none⟩ (.slice nq (t.app (.node nm ks) par).ns.length xP)=wf at *;(have lG:wf.cell? ⟨tb+1,0,none⟩=some (.slice pq (t.app (.node nm ks) par).ps.length xO):=by simp [World.cell?,hheap]);(have hr1:wf.cell? ⟨tb+1,1,none⟩=some (.slice nq (t.app (.node nm ks) par).ns.length xP):=by simp [World.cell?,hheap]);refine ⟨rfl,.agg #[.slice pq (t.app (.node nm ks) par).ps.length xO,.slice nq (t.app (.node nm ks) par).ns.length xP],by simp [results,Tryz.results253,go_sem,lG,hr1],?_⟩
     have hs2:=dm.out;have hnp:∀b,(Value.slice pq (t.app (.node nm ks) par).ps.length xO).ownBlock=some b->(Value.slice pp t.ps.length pc).ownBlock=some b\/w2.heap.size<=b:=GH.out.pW;have hnn:∀b,(Value.slice nq (t.app (.node nm ks) par).ns.length xP).ownBlock=some b->(Value.slice np t.ns.length nc).ownBlock=some b\/w2.heap.size<=b:=GH.out.pX;have QF:∀b,(Value.slice pq (t.app (.node nm ks) par).ps.length xO).ownBlock=some b->b≠tb+1:=fun b hb=>by
      rcases hnp b hb with h1 | h1
      ·have:=HPB.out b h1;omega
      ·omega
     have CR:∀b,(Value.slice nq (t.app (.node nm ks) par).ns.length xP).ownBlock=some b->b≠tb+1:=fun b hb=>by
      rcases hnn b hb with h1 | h1
      ·have:=nV.out b h1;omega
      ·omega
     have Nt:=GH.out.size;refine ⟨_,_,rfl,⟨Wb.out.tl.dG.iC fun b hb=>dw b (QF b hb),Wb.out.tl.en.iC fun b hb=>dw b (CR b hb),Wb.out.tl.apart⟩,hos.1.trans (GH.out.os.trans mX.out.os),hos.2.1.trans (GH.out.tape.trans mX.out.tape),hos.2.2.trans (GH.out.output.trans mX.out.output),by omega,fun b hb h1 h2 h3=>?_,fun b hb=>?_,fun b hb=>?_⟩
     ·rw [dw b (by omega),GH.out.block b (by omega) (by omega) h2 h3]
      exact mX.out.block b hb
     ·rcases hnp b hb with h1 | h1
      ·exact .inl h1
      ·exact .inr (by omega)
     ·rcases hnn b hb with h1 | h1
      ·exact .inl h1
      ·exact .inr (by omega)
end Go.Proofs.YthgabkgmkolobaaGreat
