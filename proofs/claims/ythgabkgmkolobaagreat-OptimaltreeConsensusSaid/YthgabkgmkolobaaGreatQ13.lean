/- The contract of layer 31's reference's .. -/
import Derived.Deep.CutRange
import Derived.Test.YthgabkgmkolobaaGreatQ12
set_option maxRecDepth 100000
set_option maxHeartbeats 4000000
namespace Go.Proofs.YthgabkgmkolobaaGreat
section
open Go.RowKit Go.Deep
structure RW (tb B0:Nat) (w W:World) (P N Pv Nv:Value) (ps:List Int) (ns:List ByteArray):Prop where
 gk:GK tb w W P N Pv Nv
 tl:TL B0 W Pv Nv ps ns
 same:W.heap[tb]? = w.heap[tb]?
 lo:(tb<w.heap.size/\P.ownBlock≠some tb/\N.ownBlock≠some tb)/\B0<=w.heap.size
section
variable {tb B0:Nat} {w W W':World} {P N Pv Nv:Value} {ps:List Int} {ns:List ByteArray}
theorem RW.start (h:TL B0 w P N ps ns) (hl:(tb<w.heap.size/\P.ownBlock≠some tb/\N.ownBlock≠some tb)/\B0<=w.heap.size):RW tb B0 w w P N P N ps ns:=⟨GK.refl _ _ _ _,h,rfl,hl⟩
theorem RW.notP (h:RW tb B0 w W P N Pv Nv ps ns):Pv.ownBlock≠some tb:=fun e=>by
 rcases h.gk.jX tb e with h1 | h1
 ·exact h.lo.1.2.1 h1
 ·have:=h.lo.1.1;omega
theorem RW.ajj (h:RW tb B0 w W P N Pv Nv ps ns):Nv.ownBlock≠some tb:=fun e=>by
 rcases h.gk.jY tb e with h1 | h1
 ·exact h.lo.1.2.2 h1
 ·have:=h.lo.1.1;omega
theorem RW.up (h:RW tb B0 w W P N Pv Nv ps ns) (hu:Up W W'):RW tb B0 w W' P N Pv Nv ps ns :=
 ⟨h.gk.up hu,h.tl.up hu,(bH hu tb (by have:=h.gk.size;have:=h.lo.1.1;omega)).trans h.same,h.lo⟩
theorem RW.vo (h:RW tb B0 w W P N Pv Nv ps ns) {g cap k:Nat} {u:Int} (ho:au B0 3 W' (.slice (some ⟨g,0,none⟩) k cap) (ps.map (Value.int .i64)++[.int .i64 u])) (hg:W.grownBy W' Pv.ownBlock) (gH:Pv.ownBlock=some g\/W.heap.size<=g) :
  RW tb B0 w W' P N (.slice (some ⟨g,0,none⟩) k cap) Nv (ps++[u]) ns:=by
 have hlo:=h.lo;have hsz:=h.gk.size;have hnp:=h.notP;refine ⟨⟨hg.os.trans h.gk.os,hg.tape.trans h.gk.tape,hg.output.trans h.gk.output,aB hsz hg.size,fun b hb h1 h2 h3=>?_,fun b hb=>?_,h.gk.jY⟩,⟨by rw [cg];exact ho,h.tl.cD.eH fun b hb=>hg.block b (av h.tl.cD hb).2 (fun e=>h.tl.apart b e.symm hb),fun b hb hb2=>?_⟩,(hg.block tb (by have:=hlo.1.1;omega) (fun e=>hnp e.symm)).trans h.same,hlo⟩
 ·rw [<- h.gk.block b hb h1 h2 h3]
  refine hg.block b (by omega) fun e=>?_;rcases h.gk.jX b e.symm with h4 | h4
  ·exact h2 h4.symm
  ·omega
 ·injection hb with hb
  have hb:g=b:=hb;subst hb;rcases gH with h4 | h4
  ·exact h.gk.jX g h4
  ·exact .inr (by omega)
 ·injection hb with hb
  have hb:g=b:=hb;subst hb;rcases gH with h1 | h1
  ·exact h.tl.apart g h1 hb2
  ·have:=(av h.tl.cD hb2).2;omega
theorem RW.ur (h:RW tb B0 w W P N Pv Nv ps ns) {g cap k:Nat} {u:ByteArray} (ho:au B0 9 W' (.slice (some ⟨g,0,none⟩) k cap) (ns.map Value.string++[.string u])) (hg:W.grownBy W' Nv.ownBlock) (gH:Nv.ownBlock=some g\/W.heap.size<=g) :
  RW tb B0 w W' P N Pv (.slice (some ⟨g,0,none⟩) k cap) ps (ns++[u]):=by
 have hlo:=h.lo;have hsz:=h.gk.size;have hnn:=h.ajj;refine ⟨⟨hg.os.trans h.gk.os,hg.tape.trans h.gk.tape,hg.output.trans h.gk.output,aB hsz hg.size,fun b hb h1 h2 h3=>?_,h.gk.jX,fun b hb=>?_⟩,⟨h.tl.cn.eH fun b hb=>hg.block b (av h.tl.cn hb).2 (fun e=>h.tl.apart b hb e.symm),by rw [cg];exact ho,fun b hb hb2=>?_⟩,(hg.block tb (by have:=hlo.1.1;omega) (fun e=>hnn e.symm)).trans h.same,hlo⟩
 ·rw [<- h.gk.block b hb h1 h2 h3]
  refine hg.block b (by omega) fun e=>?_;rcases h.gk.jY b e.symm with h4 | h4
  ·exact h3 h4.symm
  ·omega
 ·injection hb with hb
  have hb:g=b:=hb;subst hb;rcases gH with h4 | h4
  ·exact h.gk.jY g h4
  ·exact .inr (by omega)
 ·injection hb2 with hb2
  have hb2:g=b:=hb2;subst hb2;rcases gH with h1 | h1
  ·exact h.tl.apart g hb h1
  ·have:=(av h.tl.cn hb).2;omega
theorem RW.cells {P0 N0:Value} (h:RW tb B0 w W P N Pv Nv ps ns) (hb:w.heap[tb]? = some (Obj.cells #[P0,N0] 39 (0,0))) :
  W.cell? ⟨tb,0,none⟩=some P0/\W.cell? ⟨tb,1,none⟩=some N0:=by
 have h1:=h.same.trans hb;exact ⟨by simp [World.cell?,h1],by simp [World.cell?,h1]⟩
theorem RW.frozen {P0 N0:Value} (h:RW tb B0 w W P N Pv Nv ps ns) (hb:w.heap[tb]? = some (Obj.cells #[P0,N0] 39 (0,0))) (o:Nat):W.frozen? ⟨tb,o,none⟩=false:=by
 have h1:=h.same.trans hb;simp [World.frozen?,h1]
end
structure GW (tb B0:Nat) (W:World) (P N:Value) (t:ax):Prop where
 box:W.heap[tb]? = some (Obj.cells #[P,N] 39 (0,0))
 tl:TL B0 W P N t.ps t.ns
 lo:(P.ownBlock≠some tb/\N.ownBlock≠some tb)/\B0<=W.heap.size
theorem GW.lt {tb B0:Nat} {W:World} {P N:Value} {t:ax} (h:GW tb B0 W P N t):tb<W.heap.size:=(fq.1 h.box).1
theorem GW.cells {tb B0:Nat} {W:World} {P N:Value} {t:ax} (h:GW tb B0 W P N t):W.cell? ⟨tb,0,none⟩=some P/\W.cell? ⟨tb,1,none⟩=some N/\W.frozen? ⟨tb,0,none⟩=false/\W.frozen? ⟨tb,1,none⟩=false:=by
 refine ⟨?_,?_,?_,?_⟩<;>simp [World.cell?,World.frozen?,h.box]
theorem GW.up {tb B0:Nat} {W W':World} {P N:Value} {t:ax} (h:GW tb B0 W P N t) (hu:Up W W'):GW tb B0 W' P N t :=
 ⟨(bH hu tb h.lt).trans h.box,h.tl.up hu,h.lo.1,aB h.lo.2 hu.size⟩
theorem GW.put {tb B0:Nat} {W X:World} {P N P' N':Value} {t u:ax} (h:GW tb B0 W P N t) (hk:GK tb W X P N P' N') (hs:X.heap[tb]? = W.heap[tb]?) (ht:TL B0 X P' N' u.ps u.ns) :
  GW tb B0 ((X.setCell ⟨tb,0,none⟩ P').setCell ⟨tb,1,none⟩ N') P' N' u/\GK tb W ((X.setCell ⟨tb,0,none⟩ P').setCell ⟨tb,1,none⟩ N') P N P' N':=by
 have h1:=hs.trans h.box;have hl:=h.lt;have hp:P'.ownBlock≠some tb:=fun e=>by
  rcases hk.jX tb e with h2 | h2
  ·exact h.lo.1.1 h2
  ·omega
 have hn:N'.ownBlock≠some tb:=fun e=>by
  rcases hk.jY tb e with h2 | h2
  ·exact h.lo.1.2 h2
  ·omega
 have cA:∀b,b≠tb->((X.setCell ⟨tb,0,none⟩ P').setCell ⟨tb,1,none⟩ N').heap[b]? = X.heap[b]?:=fun b hb=>by rw [blk_setCell_other _ _ _ _ hb,blk_setCell_other _ _ _ _ hb]
 have hsz:((X.setCell ⟨tb,0,none⟩ P').setCell ⟨tb,1,none⟩ N').heap.size=X.heap.size:=by simp [World.size_setCell]
 refine ⟨⟨by simp [World.setCell,Array.getElem?_modify,h1],⟨ht.cn.eH fun b hb=>cA b (fun e=>hp (by rw [hb,e])),ht.cD.eH fun b hb=>cA b (fun e=>hn (by rw [hb,e])),ht.apart⟩,⟨hp,hn⟩,by rw [hsz];exact aB h.lo.2 hk.size⟩,hk.os,hk.tape,hk.output,by rw [hsz];exact hk.size,fun b hb h2 h3 h4=>(cA b h2).trans (hk.block b hb h2 h3 h4),hk.jX,hk.jY⟩
theorem RW.store {tb B0:Nat} {w W:World} {P N Pv Nv:Value} {t:ax} {z:Int} {nm:ByteArray} (h0:GW tb B0 w P N t) (h:RW tb B0 w W P N Pv Nv (t.ps++[z]) (t.ns++[nm])) :
  GW tb B0 ((W.setCell ⟨tb,0,none⟩ Pv).setCell ⟨tb,1,none⟩ Nv) Pv Nv (t.push z nm)/\GK tb w ((W.setCell ⟨tb,0,none⟩ Pv).setCell ⟨tb,1,none⟩ Nv) P N Pv Nv:=h0.put h.gk h.same h.tl
theorem GK.JL {tb:Nat} {w W:World} {P N P' N':Value} (h:GK tb w W P N P' N') {S:Nat->Prop} (hS:∀b,S b->b<w.heap.size->b≠tb/\P.ownBlock≠some b/\N.ownBlock≠some b):Kept S w W:=fun b hb hl=>by
 obtain ⟨h1,h2,h3⟩:=hS b hb hl
 exact h.block b hl h1 (fun e=>h2 e.symm) (fun e=>h3 e.symm)
def EY (B0:Nat) (w:World) (P N:Value) (t:ax) (r:RT) (par:Int) (e:Ending) (w':World):Prop :=
 ∃P' N',e=.returned (.agg #[P',N'])/\TL B0 w' P' N' (t.app r par).ps (t.app r par).ns/\GK w.heap.size w w' P N P' N'
theorem Ij (t:ax) (nm:ByteArray) (ks:List RT) (par:Int):(t.push par nm).apps ks t.ps.length=t.app (.node nm ks) par:=by
 unfold ax.apps ax.app ax.push;rw [kT,eo];simp
theorem aa7 (t:ax) (ks:List RT) {j:Nat} (h:j<ks.length) (own:Nat):(t.apps (ks.take j) own).app (gr ks j) (own:Int)=t.apps (ks.take (j+1)) own:=by
 have hg:gr ks j=ks[j]:=by simp [gr,h]
 rw [Ii,hg,jQ h]
theorem VU (ks:List RT) {j:Nat} (h:j<ks.length):aK (ks.take j)+aP (gr ks j)<=aK ks:=by
 induction ks generalizing j with
 | nil=>simp at h
 | cons k ks ih =>
  cases j with
  | zero=>rw [List.take_zero,aK,aK];show _+aP k<=_;omega
  | succ j =>
   have:=ih (j:=j) (by simpa using h)
   rw [yA,aK,aK]
   show _+aP (gr ks j)<=_
   omega
theorem Ik (w:World):Up w w.drew:=Up.drewN w 1
theorem qf {tb B0:Nat} {wo w3:World} {P N P2 N2:Value} {T:ax} (h:GW tb B0 wo P N T) (hk:GK wo.drew.heap.size wo.drew w3 P N P2 N2):w3.heap[tb]? = wo.heap[tb]?:=by
 have hl:=h.lt;exact hk.block tb hl (fun e=>by have:tb=wo.heap.size:=e;omega) (fun e=>h.lo.1.1 e.symm) (fun e=>h.lo.1.2 e.symm)
theorem EZ {tb B0:Nat} {wo w3:World} {P N P2 N2:Value} {T:ax} (h:GW tb B0 wo P N T) (hk:GK wo.drew.heap.size wo.drew w3 P N P2 N2) (o:Nat):w3.frozen? ⟨tb,o,none⟩=false:=by
 have h1:=(qf h hk).trans h.box;simp [World.frozen?,h1]
theorem VV {tb B0:Nat} {wo w3:World} {P N P2 N2:Value} {T:ax} (_:GW tb B0 wo P N T) (hk:GK wo.drew.heap.size wo.drew w3 P N P2 N2):GK tb wo w3 P N P2 N2 :=
 ⟨hk.os,hk.tape,hk.output,hk.size,fun b hb _ h2 h3=>hk.block b hb (fun e=>by have:b=wo.heap.size:=e;omega) h2 h3,hk.jX,hk.jY⟩
theorem agc (B0:Nat):∀(d:Nat) (r:RT),aP r<=d->∀(w:World) (P N v:Value) (t:ax) (par:Int),TL B0 w P N t.ps t.ns->B0<=w.heap.size->t.ns.length=t.ps.length->t.ps.length+aP r<=100000 ->
  fN (fun b=>P.ownBlock≠some b/\N.ownBlock≠some b) w r v->Calls Tryz.prog 253 #[.agg #[P,N],v,.int .i64 par] w (EY B0 w P N t r par):=by
 intro d
 induction d with
 | zero=>intro r hr;have:=oT r;omega
 | succ d ih =>
 intro r hr w P N v t par Co hB0 hnl hbd hv;cases r with
 | node nm ks =>
  obtain ⟨xb,kp,kc,vs,rfl,hS,c0,c1,hk,hs⟩:=hv.open;simp only [RT.nm,RT.kids] at c0 c1 hk hs;have jt:=xV ks;rw [aP] at hr hbd;obtain ⟨pp,pc,rfl,_,_⟩:=aq.open Co.cn.ints;obtain ⟨np,nc,rfl,_,_⟩:=aq.open Co.cD.strs;have oO:=aa ih;have ux:=aa hnl;have PM:=Up.alloc w (.cells #[.slice pp t.ps.length pc,.slice np t.ns.length nc] 39);have fO:=PM.trans (Up.alloc _ (.cells #[.slice none 0 0,.slice none 0 0] 39));have hsz:((w.alloc (.cells #[.slice pp t.ps.length pc,.slice np t.ns.length nc] 39)).alloc (.cells #[.slice none 0 0,.slice none 0 0] 39)).heap.size=w.heap.size+2:=by simp
  have hb1:((w.alloc (.cells #[.slice pp t.ps.length pc,.slice np t.ns.length nc] 39)).alloc (.cells #[.slice none 0 0,.slice none 0 0] 39)).heap[w.heap.size]? = some (Obj.cells #[.slice pp t.ps.length pc,.slice np t.ns.length nc] 39 (0,0)) :=
   (bH (Up.alloc (w.alloc (.cells #[.slice pp t.ps.length pc,.slice np t.ns.length nc] 39)) _) w.heap.size (by rw [aQ];omega)).trans (ng _ _)
  have hrb:=iN (w:=w.alloc (.cells #[.slice pp t.ps.length pc,.slice np t.ns.length nc] 39)) (P:=.slice none 0 0) (N:=.slice none 0 0) (T:=39);rw [aQ] at hrb;have hpl:∀b,(Value.slice pp t.ps.length pc).ownBlock=some b->b<w.heap.size:=fun b hb=>(av Co.cn hb).2;have Bz:∀b,(Value.slice np t.ns.length nc).ownBlock=some b->b<w.heap.size:=fun b hb=>(av Co.cD hb).2;have HG:Hid (GW w.heap.size B0 ((w.alloc (.cells #[.slice pp t.ps.length pc,.slice np t.ns.length nc] 39)).alloc (.cells #[.slice none 0 0,.slice none 0 0] 39)) (.slice pp t.ps.length pc) (.slice np t.ns.length nc) t) :=
   ⟨hb1,Co.up fO,⟨fun e=>by have:=hpl _ e;omega,fun e=>by have:=Bz _ e;omega⟩,by omega⟩
  have lV:=aa (fO.cell c0);have gA:=aa (fO.cell c1);have hxl:xb<w.heap.size:=dL w _ c0;have PN:Hid (aq (fun b=>b<w.heap.size/\(Value.slice pp t.ps.length pc).ownBlock≠some b/\(Value.slice np t.ns.length nc).ownBlock≠some b) ((w.alloc (.cells #[.slice pp t.ps.length pc,.slice np t.ns.length nc] 39)).alloc (.cells #[.slice none 0 0,.slice none 0 0] 39)) (.slice kp ks.length kc) ks.length (vN vs)) :=
   (hk.sub (T:=fun b=>b<w.heap.size/\(Value.slice pp t.ps.length pc).ownBlock≠some b/\(Value.slice np t.ns.length nc).ownBlock≠some b) fun b hb hl=>⟨hl,hb⟩).keep (fO.kept _)
  have HRS:Hid (bw (fun b=>b<w.heap.size/\(Value.slice pp t.ps.length pc).ownBlock≠some b/\(Value.slice np t.ns.length nc).ownBlock≠some b) ((w.alloc (.cells #[.slice pp t.ps.length pc,.slice np t.ns.length nc] 39)).alloc (.cells #[.slice none 0 0,.slice none 0 0] 39)) ks vs) :=
   bw.keep (fO.kept _) ks (bw.sub (fun b hb hl=>⟨hl,hb⟩) ks hs)
  have gY:=aa hrb;have dM:=aa hsz;have kZ:=aa fO;have HS:=aa hS;have zb:=aa hpl;have sU:=aa Bz;have lQ:=aa hbd;have HAP:=aa (Ij t nm ks par);have pX:=aa jt;have HR:=aa hr;have Il:=HG.out.cells.1;clear ih hv PM fO hb1 hrb hpl Bz Co hk hs hnl c0 c1 hS hbd jt hr;go_in;go_wp2_with fail;clear Il;generalize (w.alloc (.cells #[.slice pp t.ps.length pc,.slice np t.ns.length nc] 39)).alloc (.cells #[.slice none 0 0,.slice none 0 0] 39)=w2 at *;generalize htb:w.heap.size=tb at *;have ru:Hid (∀(W:World) (P' N':Value),GK tb w2 W (.slice pp t.ps.length pc) (.slice np t.ns.length nc) P' N'->W.cell? ⟨xb,0,none⟩=some (.string nm)/\W.cell? ⟨xb,1,none⟩=some (.slice kp ks.length kc)):=fun W P' N' hk=>by have h1:=hk.block xb (by rw [dM.out];omega) (by omega) (fun e=>HS.out.1 e.symm) (fun e=>HS.out.2 e.symm);exact ⟨(cU (a:=⟨xb,0,none⟩) h1).trans lV.out,(cU (a:=⟨xb,1,none⟩) h1).trans gA.out⟩
  go_cut [] from 12 to 26 (fun wx=>∃P' N',GW tb B0 wx P' N' (t.push par nm)/\GK tb w2 wx (.slice pp t.ps.length pc) (.slice np t.ns.length nc) P' N')
  case first =>
   have hd:=Up.drewN w2 1;have Aq:=aa HG.out;have dJ:=aa HG.out.box;have Ar:Hid (RW tb B0 w2 w2.drew (.slice pp t.ps.length pc) (.slice np t.ns.length nc) (.slice pp t.ps.length pc) (.slice np t.ns.length nc) t.ps t.ns):=(RW.start HG.out.tl ⟨⟨HG.out.lt,HG.out.lo.1⟩,HG.out.lo.2⟩).up hd;have eC:Hid (t.ps.length<=1000000/\t.ns.length<=1000000):=by have:=lQ.out;have:=ux.out;unfold Hid;omega
   have kU:Hid (∀ {W:World} {P' N':Value} {ps':List Int} {ns':List ByteArray},RW tb B0 w2 W (.slice pp t.ps.length pc) (.slice np t.ns.length nc) P' N' ps' ns'->W.cell? ⟨tb,0,none⟩=some (.slice pp t.ps.length pc)/\W.cell? ⟨tb,1,none⟩=some (.slice np t.ns.length nc)/\W.cell? ⟨xb,0,none⟩=some (.string nm)) :=
    fun h=>⟨(h.cells dJ.out).1,(h.cells dJ.out).2,(ru.out _ _ _ h.gk).1⟩
   refine fR (by kernel_rfl) 13 (fun w'=>w'.cell? ⟨tb,0,none⟩=some (.slice pp t.ps.length pc)/\w'.cell? ⟨tb,1,none⟩=some (.slice np t.ns.length nc)/\w'.cell? ⟨xb,0,none⟩=some (.string nm)) (kU.out Ar.out) (fun hS=>?_);simp only [dY,aW,dw,Nat.reduceAdd,iu,iw,dX,di,cm];generalize w2.drew=Wd at *;refine az.kG 0 1 2 5 hS ?_;(try simp only [Act.put,aL,aM,aN]);refine az.kG 6 7 8 9 hS ?_;(try simp only [Act.put,aL,aM,aN]);refine az.tk 10 hS ?_;(try simp only [Act.put,aL,aM,aN]);refine az.C8 (i:=3) (i2:=11) rfl rfl (by kernel_rfl) (fun K' hK=>?_) (fun K' hK=>?_)
   ·go_simp
    have pZ:Hid (RW tb B0 _ (Wd.alloc (.cells #[.int .i64 par] 3)) _ _ _ _ _ _):=Ar.out.up (Up.alloc _ _);refine hK.out _ _ (fun _=>kU.out pZ.out) (fun _=>?_);(try simp only [aL,aM,aN]);refine az.C8 (i:=4) (i2:=11) rfl rfl (by kernel_rfl) (fun K' hK=>?_) (fun K' hK=>?_)
    ·refine fL (by rfl) _ _ _ (by rfl) B0 3 _ 8 Tryz.underlying26 Tryz.iD (by rfl) (by decide) (by rfl) pZ.out.tl.cn (.int .i64 par) Wd.heap.size (by rfl) (aS Wd #[.int .i64 par] 3 0) (by rfl) (by rw [aD];exact eC.out.1) (aB pZ.out.lo.2 pZ.out.gk.size) ?_
     intro g1 Mx ki qZ kI hrg1 _;have mE:Hid (RW tb B0 _ ki _ _ _ _ _ _):=pZ.out.vo qZ kI (hrg1.imp id (fun e=>fD e.symm));refine hK.out _ _ (fun _=>kU.out mE.out) (fun _=>?_);(try simp only [Act.put,aL,aM,aN]);refine az.fr 13 (fun _=>kU.out mE.out) ?_;(try simp only [Act.put,aL,aM,aN]);refine az.st 11 fun K' hK=>?_;go_simp;have jF:Hid (RW tb B0 _ (ki.alloc (.cells #[.string nm] 9)) _ _ _ _ _ _):=mE.out.up (Up.alloc _ _);refine hK.out _ _ (fun _=>kU.out jF.out) (fun _=>?_);(try simp only [aL,aM,aN]);refine az.st 12 fun K' hK=>?_;refine fL (by rfl) _ _ _ (by rfl) B0 9 _ 16 Tryz.underlying22 Tryz.mD (by rfl) (by decide) (by rfl) jF.out.tl.cD (.string nm) ki.heap.size (by rfl) (aS ki #[.string nm] 9 0) (by rfl) (by rw [aD];exact eC.out.2) (aB jF.out.lo.2 jF.out.gk.size) ?_;intro g2 GF gy pE mU hrg2 _;have iP:Hid (RW tb B0 _ gy _ _ _ _ _ _):=jF.out.ur pE mU (hrg2.imp id (fun e=>fD e.symm));refine hK.out _ _ (fun _=>kU.out iP.out) (fun _=>?_);(try simp only [Act.put,aL,aM,aN]);obtain ⟨xu,gC⟩:=iP.out.cells dJ.out;have GG:=iP.out.frozen dJ.out 0;have Bv:=iP.out.frozen dJ.out 1;have iy:=aa (iP.out.store Aq.out);refine az.st 14 fun K' hK=>?_;go_simp;refine hK.out _ _ (bF ·) (fun _=>?_);(try simp only [aL,aM,aN]);refine az.fr 15 (bF ·) ?_;(try simp only [Act.put,aL,aM,aN]);refine az.st 16 fun K' hK=>?_;go_simp;refine hK.out _ _ (bF ·) (fun _=>?_);refine az.done (by kernel_rfl) ?_;go_wp2;go_meet
     case rel =>have dK:=iy.out;simp only [aD] at dK;exact ⟨_,_,dK.1,dK.2⟩
    ·go_simp
     have mE:Hid (RW tb B0 _ ((Wd.alloc (.cells #[.int .i64 par] 3)).alloc (.cells #[.string nm] 9)) _ _ _ _ _ _):=pZ.out.up (Up.alloc _ _);refine hK.out _ _ (fun _=>kU.out mE.out) (fun _=>?_);(try simp only [aL,aM,aN]);have uh:=aS (Wd.alloc (.cells #[.int .i64 par] 3)) #[.string nm] 9 0;have sP:=(Up.alloc (Wd.alloc (.cells #[.int .i64 par] 3)) (.cells #[.string nm] 9)).cell (aS Wd #[.int .i64 par] 3 0);rw [aQ] at uh;refine az.st 4 fun K' hK=>?_;refine fL (by rfl) _ _ _ (by rfl) B0 3 _ 8 Tryz.underlying26 Tryz.iD (by rfl) (by decide) (by rfl) mE.out.tl.cn (.int .i64 par) Wd.heap.size (by rfl) sP (by rfl) (by rw [aD];exact eC.out.1) (aB mE.out.lo.2 mE.out.gk.size) ?_;intro g1 Mx ki qZ kI hrg1 _;have jF:Hid (RW tb B0 _ ki _ _ _ _ _ _):=mE.out.vo qZ kI (hrg1.imp id (fun e=>fD e.symm));(have tA:ki.cell? ⟨Wd.heap.size+1,0,none⟩=some (.string nm):=by rw [kI.cell_far ⟨Wd.heap.size+1,0,none⟩ (by simp) (fun e=>absurd (av Ar.out.tl.cn e.symm).2 (by show ¬(Wd.heap.size+1<Wd.heap.size);omega))];exact uh);refine hK.out _ _ (fun _=>kU.out jF.out) (fun _=>?_);(try simp only [Act.put,aL,aM,aN]);refine az.fr 13 (fun _=>kU.out jF.out) ?_;(try simp only [Act.put,aL,aM,aN]);refine az.st 12 fun K' hK=>?_;refine fL (by rfl) _ _ _ (by rfl) B0 9 _ 16 Tryz.underlying22 Tryz.mD (by rfl) (by decide) (by rfl) jF.out.tl.cD (.string nm) (Wd.heap.size+1) (by rfl) tA (by rfl) (by rw [aD];exact eC.out.2) (aB jF.out.lo.2 jF.out.gk.size) ?_;intro g2 GF gy pE mU hrg2 _;have iP:Hid (RW tb B0 _ gy _ _ _ _ _ _):=jF.out.ur pE mU (hrg2.imp id (fun e=>fD e.symm));refine hK.out _ _ (fun _=>kU.out iP.out) (fun _=>?_);(try simp only [Act.put,aL,aM,aN]);obtain ⟨xu,gC⟩:=iP.out.cells dJ.out;have GG:=iP.out.frozen dJ.out 0;have Bv:=iP.out.frozen dJ.out 1;have iy:=aa (iP.out.store Aq.out);refine az.st 14 fun K' hK=>?_;go_simp;refine hK.out _ _ (bF ·) (fun _=>?_);(try simp only [aL,aM,aN]);refine az.fr 15 (bF ·) ?_;(try simp only [Act.put,aL,aM,aN]);refine az.st 16 fun K' hK=>?_;go_simp;refine hK.out _ _ (bF ·) (fun _=>?_);refine az.done (by kernel_rfl) ?_;go_wp2;go_meet
     case rel =>have dK:=iy.out;simp only [aD] at dK;exact ⟨_,_,dK.1,dK.2⟩
   ·go_simp
    have pZ:Hid (RW tb B0 _ (Wd.alloc (.cells #[.string nm] 9)) _ _ _ _ _ _):=Ar.out.up (Up.alloc _ _);refine hK.out _ _ (fun _=>kU.out pZ.out) (fun _=>?_);(try simp only [aL,aM,aN]);refine az.st 3 fun K' hK=>?_;go_simp;have mE:Hid (RW tb B0 _ ((Wd.alloc (.cells #[.string nm] 9)).alloc (.cells #[.int .i64 par] 3)) _ _ _ _ _ _):=pZ.out.up (Up.alloc _ _);refine hK.out _ _ (fun _=>kU.out mE.out) (fun _=>?_);(try simp only [aL,aM,aN]);have sP:=aS (Wd.alloc (.cells #[.string nm] 9)) #[.int .i64 par] 3 0;have uh:=(Up.alloc (Wd.alloc (.cells #[.string nm] 9)) (.cells #[.int .i64 par] 3)).cell (aS Wd #[.string nm] 9 0);rw [aQ] at sP;refine az.st 4 fun K' hK=>?_;refine fL (by rfl) _ _ _ (by rfl) B0 3 _ 8 Tryz.underlying26 Tryz.iD (by rfl) (by decide) (by rfl) mE.out.tl.cn (.int .i64 par) (Wd.heap.size+1) (by rfl) sP (by rfl) (by rw [aD];exact eC.out.1) (aB mE.out.lo.2 mE.out.gk.size) ?_;intro g1 Mx ki qZ kI hrg1 _;have jF:Hid (RW tb B0 _ ki _ _ _ _ _ _):=mE.out.vo qZ kI (hrg1.imp id (fun e=>fD e.symm));(have tA:ki.cell? ⟨Wd.heap.size,0,none⟩=some (.string nm):=by rw [kI.cell_far ⟨Wd.heap.size,0,none⟩ (by simp;omega) (fun e=>absurd (av Ar.out.tl.cn e.symm).2 (by show ¬(Wd.heap.size<Wd.heap.size);omega))];exact uh);refine hK.out _ _ (fun _=>kU.out jF.out) (fun _=>?_);(try simp only [Act.put,aL,aM,aN]);refine az.fr 13 (fun _=>kU.out jF.out) ?_;(try simp only [Act.put,aL,aM,aN]);refine az.st 12 fun K' hK=>?_;refine fL (by rfl) _ _ _ (by rfl) B0 9 _ 16 Tryz.underlying22 Tryz.mD (by rfl) (by decide) (by rfl) jF.out.tl.cD (.string nm) Wd.heap.size (by rfl) tA (by rfl) (by rw [aD];exact eC.out.2) (aB jF.out.lo.2 jF.out.gk.size) ?_;intro g2 GF gy pE mU hrg2 _;have iP:Hid (RW tb B0 _ gy _ _ _ _ _ _):=jF.out.ur pE mU (hrg2.imp id (fun e=>fD e.symm));refine hK.out _ _ (fun _=>kU.out iP.out) (fun _=>?_);(try simp only [Act.put,aL,aM,aN]);obtain ⟨xu,gC⟩:=iP.out.cells dJ.out;have GG:=iP.out.frozen dJ.out 0;have Bv:=iP.out.frozen dJ.out 1;have iy:=aa (iP.out.store Aq.out);refine az.st 14 fun K' hK=>?_;go_simp;refine hK.out _ _ (bF ·) (fun _=>?_);(try simp only [aL,aM,aN]);refine az.fr 15 (bF ·) ?_;(try simp only [Act.put,aL,aM,aN]);refine az.st 16 fun K' hK=>?_;go_simp;refine hK.out _ _ (bF ·) (fun _=>?_);refine az.done (by kernel_rfl) ?_;go_wp2;go_meet
    case rel =>have dK:=iy.out;simp only [aD] at dK;exact ⟨_,_,dK.1,dK.2⟩
  case rest =>
   obtain ⟨P1,N1,PO,DU⟩:=hcut;have HG1:=aa PO;have EP:=aa DU;have PR:Hid ((t.push par nm).apps (ks.take 0) t.ps.length=t.push par nm):=Ih _ _;clear PO DU;go_wp2
   go_loopw [8] (fun i wr=>∃(j:Nat) (P' N':Value),j<=ks.length/\i=.int .i64 j/\Hid (GW tb B0 wr P' N' ((t.push par nm).apps (ks.take j) t.ps.length))/\Hid (GK tb w2 wr (.slice pp t.ps.length pc) (.slice np t.ns.length nc) P' N')) (fun i _=>ks.length - (intOf i).toNat)
   case atStart=>exact ⟨0,P1,N1,aF _,rfl,by rw [PR.out];exact HG1.out,EP.out⟩
   case round =>
    obtain ⟨j,P',N',hj,rfl,JM,JN⟩:=hrel;obtain ⟨wo,rfl⟩:=eM wr;have hx:=ru.out _ _ _ JN.out;have hx1:=hx.2;by_cases hlt:j<ks.length
    ·have hcs:=JM.out.cells
     have hkr:Kept (fun b=>b<tb/\(Value.slice pp t.ps.length pc).ownBlock≠some b/\(Value.slice np t.ns.length nc).ownBlock≠some b) w2 wo:=JN.out.JL fun b hb _=>⟨by omega,hb.2⟩;obtain ⟨kb,ko,rfl,hkc⟩:=wF (PN.out.keep hkr) hlt;have Au:=fN.keep hkr _ (bw.get ks HRS.out j hlt)
     have agd:fN (fun b=>P'.ownBlock≠some b/\N'.ownBlock≠some b) wo (gr ks j) (vN vs j):=fN.sub (fun b hb hl=>⟨fun e=>by
      rcases JN.out.jX b e with h1 | h1
      ·exact hb.2.1 h1
      ·have:=hb.1;have:=dM.out;omega,fun e=>by
      rcases JN.out.jY b e with h1 | h1
      ·exact hb.2.2 h1
      ·have:=hb.1;have:=dM.out;omega⟩) _ Au
     have hgs:=Cn hlt;obtain ⟨T,hT⟩:∃T,T=(t.push par nm).apps (ks.take j) t.ps.length:=⟨_,rfl⟩;(have Yb:Hid (T.app (gr ks j) (t.ps.length:Int)=(t.push par nm).apps (ks.take (j+1)) t.ps.length):=by rw [hT];exact aa7 _ _ hlt _);(have htl:T.ps.length=t.ps.length+1+aK (ks.take j)/\T.ns.length=t.ns.length+1+aK (ks.take j):=by rw [hT];unfold ax.apps ax.push;simp only [bg,aW,dw,ri,y6];exact ⟨trivial,trivial⟩);have K6:=VU ks hlt;rw [<- hT] at JM;have gQ:Hid (∀W,Up wo W->Calls Tryz.prog 253 #[.agg #[P',N'],vN vs j,.int .i64 (t.ps.length:Nat)] W (EY B0 W P' N' T (gr ks j) (t.ps.length:Nat))):=fun W hW =>
      oO.out (gr ks j) (by have:=HR.out;omega) W P' N' (vN vs j) T _ (JM.out.tl.up hW) (aB JM.out.lo.2 hW.size) (by have:=ux.out;omega) (by have:=lQ.out;omega) (fN.keep (hW.kept _) _ agd)
     have MG:=aa JM.out;have HKJ:=aa JN.out;(have i1:(0:Int)<=(j:Int):=by omega);(have i2:(j:Int)<(ks.length:Int):=by omega);(have i3:(j:Int)<1000000:=by have:=pX.out;have:=lQ.out;omega);have aR:=aa hlt;have a0:=hcs.1;have a1:=hcs.2.1;clear hT htl hgs Au agd hkr hcs hx JM JN K6 hlt hj;generalize vN vs j=kv at *;generalize gr ks j=r at *;go_wp2_with fail;refine fR (by kernel_rfl) 10 (fun w'=>w'.cell? ⟨tb,0,none⟩=some P'/\w'.cell? ⟨tb,1,none⟩=some N'/\w'.cell? ⟨xb,1,none⟩=some (.slice (some ⟨kb,ko,none⟩) ks.length kc)/\w'.cell? ⟨kb,ko+j,none⟩=some kv) ⟨a0,a1,hx1,hkc⟩ (fun hS=>?_);simp only [dY,aW,dw,Nat.reduceAdd,iu,iw,dX,di,cm];refine az.kG 0 1 2 3 hS ?_;(try simp only [Act.put,aL,aM,aN]);refine az.kG 4 5 6 7 hS ?_;(try simp only [Act.put,aL,aM,aN]);refine az.tk 8 hS ?_;(try simp only [Act.put,aL,aM,aN]);refine az.st 9 fun K' hK=>?_;go_simp;refine (gQ.out _ (Ik wo)).mono ?_;rintro e w3 ⟨P2,N2,rfl,Av,hK3⟩;obtain ⟨p2,c2,rfl,_,_⟩:=aq.open Av.cn.ints;obtain ⟨q2,e2,rfl,_,_⟩:=aq.open Av.cD.strs;have hfz:=EZ MG.out hK3;have Ch:=hfz 0;have sQ:=hfz 1;have hw0:w3.cell? ⟨tb,0,none⟩=some P':=(cU (a:=⟨tb,0,none⟩) (qf MG.out hK3)).trans MG.out.cells.1;have hw1:w3.cell? ⟨tb,1,none⟩=some N':=(cU (a:=⟨tb,1,none⟩) (qf MG.out hK3)).trans MG.out.cells.2.1;have nO:=aa (MG.out.put (u:=T.app r (t.ps.length:Int)) (VV MG.out hK3) (qf MG.out hK3) Av);clear hfz Av hK3;refine hK.out _ _ (bF ·) (fun hS=>?_);(try simp only [aL,aM,aN]);refine az.st 10 fun K' hK=>?_;go_simp;refine hK.out _ _ (bF ·) (fun hS=>?_);refine az.done (by kernel_rfl) ?_;go_wp2
     go_roundw
     case rel=>exact ⟨j+1,_,_,aR.out,by go_num,by rw [<- Yb.out];exact nO.out.1,HKJ.out.trans nO.out.2⟩
     case measure=>have:=aR.out;simp [intOf];omega
    ·obtain rfl:j=ks.length:=by omega
     have hcs:=JM.out.cells;have a0:=hcs.1;have a1:=hcs.2.1;have hrb:wo.heap[tb+1]? = some (Obj.cells #[.slice none 0 0,.slice none 0 0] 39 (0,0)) :=
      (JN.out.block (tb+1) (by rw [dM.out];omega) (by omega) (fun e=>by have:=zb.out _ e.symm;omega) (fun e=>by have:=sU.out _ e.symm;omega)).trans gY.out
     (obtain ⟨r0,r1,r2,r3⟩:wo.cell? ⟨tb+1,0,none⟩=some (.slice none 0 0)/\wo.cell? ⟨tb+1,1,none⟩=some (.slice none 0 0)/\wo.frozen? ⟨tb+1,0,none⟩=false/\wo.frozen? ⟨tb+1,1,none⟩=false:=by refine ⟨?_,?_,?_,?_⟩<;>simp [World.cell?,World.frozen?,hrb]);have wG:=JM.out;rw [fT,HAP.out] at wG;have nW:=aa wG;have ry:=aa JN.out;obtain ⟨pq,jK,rfl,_,_⟩:=aq.open wG.tl.cn.ints;obtain ⟨nq,jL,rfl,_,_⟩:=aq.open wG.tl.cD.strs;have PT:=aa hrb;clear hcs JM JN wG hx hlt hj hrb;go_wp2_with fail;(have cA:∀b,b≠tb+1->((wo.setCell ⟨tb+1,0,none⟩ (.slice pq (t.app (.node nm ks) par).ps.length jK)).setCell ⟨tb+1,1,none⟩ (.slice nq (t.app (.node nm ks) par).ns.length jL)).heap[b]? = wo.heap[b]?:=fun b hb=>by rw [blk_setCell_other _ _ _ _ hb,blk_setCell_other _ _ _ _ hb]);(have hheap:((wo.setCell ⟨tb+1,0,none⟩ (.slice pq (t.app (.node nm ks) par).ps.length jK)).setCell ⟨tb+1,1,none⟩ (.slice nq (t.app (.node nm ks) par).ns.length jL)).heap[tb+1]? = some (Obj.cells #[.slice pq (t.app (.node nm ks) par).ps.length jK,.slice nq (t.app (.node nm ks) par).ns.length jL] 39 (0,0)):=by simp [World.setCell,Array.getElem?_modify,PT.out]);(have XI:((wo.setCell ⟨tb+1,0,none⟩ (.slice pq (t.app (.node nm ks) par).ps.length jK)).setCell ⟨tb+1,1,none⟩ (.slice nq (t.app (.node nm ks) par).ns.length jL)).heap.size=wo.heap.size:=by simp [World.size_setCell]);have hos:((wo.setCell ⟨tb+1,0,none⟩ (.slice pq (t.app (.node nm ks) par).ps.length jK)).setCell ⟨tb+1,1,none⟩ (.slice nq (t.app (.node nm ks) par).ns.length jL)).os=wo.os/\((wo.setCell ⟨tb+1,0,none⟩ (.slice pq (t.app (.node nm ks) par).ps.length jK)).setCell ⟨tb+1,1,none⟩ (.slice nq (t.app (.node nm ks) par).ns.length jL)).tape=wo.tape/\((wo.setCell ⟨tb+1,0,none⟩ (.slice pq (t.app (.node nm ks) par).ps.length jK)).setCell ⟨tb+1,1,none⟩ (.slice nq (t.app (.node nm ks) par).ns.length jL)).output=wo.output:=⟨rfl,rfl,rfl⟩;generalize (wo.setCell ⟨tb+1,0,none⟩ (.slice pq (t.app (.node nm ks) par).ps.length jK)).setCell ⟨tb+1,1,none⟩ (.slice nq (t.app (.node nm ks) par).ns.length jL)=wf at *;(have nV:wf.cell? ⟨tb+1,0,none⟩=some (.slice pq (t.app (.node nm ks) par).ps.length jK):=by simp [World.cell?,hheap]);(have hr1:wf.cell? ⟨tb+1,1,none⟩=some (.slice nq (t.app (.node nm ks) par).ns.length jL):=by simp [World.cell?,hheap]);refine ⟨rfl,.agg #[.slice pq (t.app (.node nm ks) par).ps.length jK,.slice nq (t.app (.node nm ks) par).ns.length jL],by simp [results,Tryz.results253,go_sem,nV,hr1],?_⟩;have hs2:=dM.out;have hnp:∀b,(Value.slice pq (t.app (.node nm ks) par).ps.length jK).ownBlock=some b->(Value.slice pp t.ps.length pc).ownBlock=some b\/w2.heap.size<=b:=ry.out.jX;have hnn:∀b,(Value.slice nq (t.app (.node nm ks) par).ns.length jL).ownBlock=some b->(Value.slice np t.ns.length nc).ownBlock=some b\/w2.heap.size<=b:=ry.out.jY;have Ib:∀b,(Value.slice pq (t.app (.node nm ks) par).ps.length jK).ownBlock=some b->b≠tb+1:=fun b hb=>by
      rcases hnp b hb with h1 | h1
      ·have:=zb.out b h1;omega
      ·omega
     have Bk:∀b,(Value.slice nq (t.app (.node nm ks) par).ns.length jL).ownBlock=some b->b≠tb+1:=fun b hb=>by
      rcases hnn b hb with h1 | h1
      ·have:=sU.out b h1;omega
      ·omega
     have Pq:=ry.out.size;refine ⟨_,_,rfl,⟨nW.out.tl.cn.eH fun b hb=>cA b (Ib b hb),nW.out.tl.cD.eH fun b hb=>cA b (Bk b hb),nW.out.tl.apart⟩,hos.1.trans (ry.out.os.trans kZ.out.os),hos.2.1.trans (ry.out.tape.trans kZ.out.tape),hos.2.2.trans (ry.out.output.trans kZ.out.output),by omega,fun b hb h1 h2 h3=>?_,fun b hb=>?_,fun b hb=>?_⟩
     ·rw [cA b (by omega),ry.out.block b (by omega) (by omega) h2 h3]
      exact kZ.out.block b hb
     ·rcases hnp b hb with h1 | h1
      ·exact .inl h1
      ·exact .inr (by omega)
     ·rcases hnn b hb with h1 | h1
      ·exact .inl h1
      ·exact .inr (by omega)
def age (w:World) (r:RT) (e:Ending) (w':World):Prop:=Up w w'/\∃v,e=.returned v/\aG (fun b=>w.heap.size<=b) w' v (flat r)
theorem aex (r:RT) (p:Int):(⟨[],[]⟩:ax).app r p=⟨kT r 0 p,eo r⟩:=by simp [ax.app]
theorem aa8 (S:Nat->Prop) (w:World) (v:Value) (r:RT) (h:fN S w r v) (hs:aP r<=90000):Calls Tryz.prog 205 #[v] w (age w r):=by
 have fO:=Up.alloc w (.cells #[.slice none 0 0,.slice none 0 0] 39);have hsz:(w.alloc (.cells #[.slice none 0 0,.slice none 0 0] 39)).heap.size=w.heap.size+1:=aQ _ _;have hrb:=iN (w:=w) (P:=.slice none 0 0) (N:=.slice none 0 0) (T:=39);have hx:fN (fun b=>(Value.slice none 0 0).ownBlock≠some b/\(Value.slice none 0 0).ownBlock≠some b) (w.alloc (.cells #[.slice none 0 0,.slice none 0 0] 39)) r v:=fN.sub (fun b _ _=>⟨fun e=>(by cases e),fun e=>(by cases e)⟩) r (fN.keep (fO.kept S) r h);have HW:=aa (agc (w.heap.size+1) (aP r) r (ah _) (w.alloc (.cells #[.slice none 0 0,.slice none 0 0] 39)) (.slice none 0 0) (.slice none 0 0) v ⟨[],[]⟩ (-1) ⟨au.nil _ _ _,au.nil _ _ _,fun b hb=>by cases hb⟩ (by omega) rfl (by simp;omega) hx);have HU:=aa fO;have gY:=aa hrb;have dM:=aa hsz;clear fO hrb hsz h hx;go_in;go_wp2_with fail;generalize w.alloc (.cells #[.slice none 0 0,.slice none 0 0] 39)=w1 at *;refine HW.out.mono ?_;rintro e w2 ⟨P2,N2,rfl,hT,hK⟩;rw [aex] at hT;obtain ⟨p2,c2,rfl,_,_⟩:=aq.open hT.cn.ints;obtain ⟨q2,e2,rfl,_,_⟩:=aq.open hT.cD.strs;have hu:Up w1 w2:=⟨hK.os,hK.tape,hK.output,hK.size,fun b hb=>hK.block b hb (by omega) (fun e=>by cases e) (fun e=>by cases e)⟩;have hb2:=(bH hu w.heap.size (by rw [dM.out];omega)).trans gY.out;obtain ⟨r0,r1,r2,r3⟩:w2.cell? ⟨w.heap.size,0,none⟩=some (.slice none 0 0)/\w2.cell? ⟨w.heap.size,1,none⟩=some (.slice none 0 0)/\w2.frozen? ⟨w.heap.size,0,none⟩=false/\w2.frozen? ⟨w.heap.size,1,none⟩=false:=by refine ⟨?_,?_,?_,?_⟩<;>simp [World.cell?,World.frozen?,hb2]
 have HST:=aa (gz (w:=w) (p:=.slice p2 (kT r 0 (-1)).length c2) (q:=.slice q2 (eo r).length e2) hb2 (ah _) (HU.out.trans hu));have HP:=aa hT.cn.ints;have HN:=aa hT.cD.strs;clear hT hK hu hb2;go_wp2_with fail;obtain ⟨s1,s2,s3,s4⟩:=HST.out;refine ⟨rfl,.agg #[.slice p2 (kT r 0 (-1)).length c2,.slice q2 (eo r).length e2],by simp [results,Tryz.results205,go_sem,s2,s3],?_⟩;exact ⟨s1,_,rfl,_,_,rfl,(af.keep HP.out fun b hb _=>s4 b (by have:w.heap.size+1<=b:=hb;omega)).sub fun b hb _=>by have:w.heap.size+1<=b:=hb;omega,(aj.keep HN.out fun b hb _=>s4 b (by have:w.heap.size+1<=b:=hb;omega)).sub fun b hb _=>by have:w.heap.size+1<=b:=hb;omega⟩
def agf (w:World) (l:List Nat) (e:Ending) (w':World):Prop:=Below w.heap.size w w'/\∃v,e=.returned v/\af (fun b=>w.heap.size<=b) w' v (iL l)
theorem TR (S:Nat->Prop) (w:World) (v:Value) (t:ax) (n:Nat) (h:aG S w v t) (hp:t.ps.length<=1000000) (hn:n<t.ps.length) :
  Calls Tryz.prog 96 #[v,.int .i64 n] w (agf w (bL t.ps n)):=by
 obtain ⟨P,N,rfl,hP,hN⟩:=h;have hb0:Below w.heap.size w (w.alloc (.cells #[P,N] 39)):=(cM _ _).alloc (ah _) _;have TS:=hP.keep (Kept.below hb0);have qw:(w.alloc (.cells #[P,N] 39)).cell? ⟨w.heap.size,0,none⟩=some P:=by simp [World.cell?_alloc_new]
 obtain ⟨ps,ns⟩:=t;simp only at *;obtain ⟨p,cap,rfl,hcap,HP⟩:=aq.open TS;have hsz:(w.alloc (.cells #[.slice p ps.length cap,N] 39)).heap.size=w.heap.size+1:=by simp
 have HS:=aa hsz;have mz:=aa hb0;have Ey:=aa qw;have Me:=aa HP;clear HP TS hP hN hb0 qw hsz;go_in;go_wp2_with fail;generalize hw0:w.alloc (.cells #[.slice p ps.length cap,N] 39)=w0 at *;clear hw0
 go_loopw [5,6] (fun v i wr=>∃k:Nat,n+1<=k/\k<=ps.length/\i=.int .i64 k/\au (w.heap.size+1) 3 wr v ((iL (cZ ps n k)).map (Value.int .i64))/\Below (w.heap.size+1) w0 wr) (fun _ i _=>ps.length - (intOf i).toNat)
 case atStart=>exact ⟨n+1,ah _,by omega,by go_num,by rw [Gr];exact au.nil _ _ _,cM _ _⟩
 case round =>
  obtain ⟨k,hk1,hk,rfl,hown,hbr⟩:=hrel;have qw:wr.cell? ⟨w.heap.size,0,none⟩=some (.slice p ps.length cap):=(hbr.cell (p:=⟨w.heap.size,0,none⟩) (by simp)).trans Ey.out;by_cases hlt:k<ps.length
  ·obtain ⟨b,off,rfl,hc0⟩:=Me.out k hlt
   (have hc:wr.cell? ⟨b,off+k,none⟩=some (.int .i64 (gi ps k)):=by rw [hbr.cell (p:=⟨b,off+k,none⟩) (by have:=dL _ _ hc0;have:=HS.out;simp at *;omega)];exact hc0);(have hsz:w.heap.size+1<=wr.heap.size:=by have:=hbr.size;have:=HS.out;omega);have ni:=lB ps n k;have sM:=aa ni;(have dG:Hid (((iL (cZ ps n k)).map (Value.int .i64)).length<=1000000):=by have:=wA ps n k;unfold Hid iL;rw [aD,aD];omega);clear hc0 ni Me;generalize Gu:gi ps k=x at *;clear Gu;by_cases hx:x=n
   ·have hx1:(x==(n:Int))=true:=by simp [hx]
    have HX:Hid (n<k/\x=n):=⟨by omega,hx⟩;clear hx;go_wp2_with (at_builtin;refine nK wr rfl _ _ 26 rfl (w.heap.size+1) 3 _ 8 Tryz.underlying26 Tryz.iD rfl (by decide) hown rfl _ rfl rfl dG.out hsz ?_;intro g cap w2 hown1 hg1 hb1)
    go_roundw
    case rel=>exact ⟨k+1,by omega,by omega,by go_num,by rw [sM.out,if_pos HX.out,Oe,cg];rw [aD] at hown1;exact hown1,hbr.trans hb1⟩
    case measure=>simp [intOf];omega
   ·have hx1:(x==(n:Int))=false:=by simpa using hx
    have HX:Hid ¬(n<k/\x=n):=fun h=>hx h.2;clear hx;go_wp2
    go_roundw
    case rel=>exact ⟨k+1,by omega,by omega,by go_num,by rw [sM.out,if_neg HX.out,eG];exact hown,hbr⟩
    case measure=>simp [intOf];omega
  ·obtain rfl:k=ps.length:=by omega
   clear hlt hk;go_wp2;go_ret;exact ⟨mz.out.trans (hbr.mono (by omega)),_,rfl,hown.ints.sub fun b hb _=>by omega⟩
end
end Go.Proofs.YthgabkgmkolobaaGreat
