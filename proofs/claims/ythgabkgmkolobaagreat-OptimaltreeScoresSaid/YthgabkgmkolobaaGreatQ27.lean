/- The contract of layer 31's reference's with and number. -/
import Derived.Test.YthgabkgmkolobaaGreatQ25
set_option maxRecDepth 100000
namespace Go.Proofs.YthgabkgmkolobaaGreat
open Go.RowKit Go.Deep
structure RW (tb B0:Nat) (w W:World) (P N Pv Nv:Value) (ps:List Int) (ns:List ByteArray):Prop where
 gk:GK tb w W P N Pv Nv
 tl:TL B0 W Pv Nv ps ns
 same:W.heap[tb]? = w.heap[tb]?
 lo:(tb<w.heap.size∧P.ownBlock≠some tb∧N.ownBlock≠some tb)∧B0≤w.heap.size
section
variable {tb B0:Nat} {w W W':World} {P N Pv Nv:Value} {ps:List Int} {ns:List ByteArray}
theorem RW.start (h:TL B0 w P N ps ns) (hl:(tb<w.heap.size∧P.ownBlock≠some tb∧N.ownBlock≠some tb)∧B0≤w.heap.size):RW tb B0 w w P N P N ps ns:=⟨GK.refl _ _ _ _,h,rfl,hl⟩
theorem RW.notP (h:RW tb B0 w W P N Pv Nv ps ns):Pv.ownBlock≠some tb:=fun e=>by
 rcases h.gk.nM tb e with h1 | h1
 ·exact h.lo.1.2.1 h1
 ·have:=h.lo.1.1;omega
theorem RW.notN (h:RW tb B0 w W P N Pv Nv ps ns):Nv.ownBlock≠some tb:=fun e=>by
 rcases h.gk.nN tb e with h1 | h1
 ·exact h.lo.1.2.2 h1
 ·have:=h.lo.1.1;omega
theorem RW.up (h:RW tb B0 w W P N Pv Nv ps ns) (hu:Up W W'):RW tb B0 w W' P N Pv Nv ps ns :=
 ⟨h.gk.up hu,h.tl.up hu,(Below.block hu tb (by have:=h.gk.size;have:=h.lo.1.1;omega)).trans h.same,h.lo⟩
theorem RW.zk (h:RW tb B0 w W P N Pv Nv ps ns) {g cap k:Nat} {u:Int} (ho:aF B0 3 W' (.slice (some ⟨g,0,none⟩) k cap) (ps.map (Value.int .i64)++[.int .i64 u])) (hg:W.grownBy W' Pv.ownBlock) (dY:Pv.ownBlock=some g∨W.heap.size≤g) :
  RW tb B0 w W' P N (.slice (some ⟨g,0,none⟩) k cap) Nv (ps++[u]) ns:=by
 have hlo:=h.lo;have hsz:=h.gk.size;have hnp:=h.notP;refine ⟨⟨hg.os.trans h.gk.os,hg.tape.trans h.gk.tape,hg.output.trans h.gk.output,Nat.le_trans hsz hg.size,fun b hb h1 h2 h3=>?_,fun b hb=>?_,h.gk.nN⟩,⟨by rw [List.map_append];exact ho,h.tl.dx.fM fun b hb=>hg.block b (aI h.tl.dx hb).2 (fun e=>h.tl.apart b e.symm hb),fun b hb hb2=>?_⟩,(hg.block tb (by have:=hlo.1.1;omega) (fun e=>hnp e.symm)).trans h.same,hlo⟩
 ·rw [← h.gk.block b hb h1 h2 h3]
  refine hg.block b (by omega) fun e=>?_;rcases h.gk.nM b e.symm with h4 | h4
  ·exact h2 h4.symm
  ·omega
 ·injection hb with hb
  have hb:g=b:=hb;subst hb;rcases dY with h4 | h4
  ·exact h.gk.nM g h4
  ·exact .inr (by omega)
 ·injection hb with hb
  have hb:g=b:=hb;subst hb;rcases dY with h1 | h1
  ·exact h.tl.apart g h1 hb2
  ·have:=(aI h.tl.dx hb2).2;omega
theorem RW.zl (h:RW tb B0 w W P N Pv Nv ps ns) {g cap k:Nat} {u:ByteArray} (ho:aF B0 9 W' (.slice (some ⟨g,0,none⟩) k cap) (ns.map Value.string++[.string u])) (hg:W.grownBy W' Nv.ownBlock) (dY:Nv.ownBlock=some g∨W.heap.size≤g) :
  RW tb B0 w W' P N Pv (.slice (some ⟨g,0,none⟩) k cap) ps (ns++[u]):=by
 have hlo:=h.lo;have hsz:=h.gk.size;have hnn:=h.notN;refine ⟨⟨hg.os.trans h.gk.os,hg.tape.trans h.gk.tape,hg.output.trans h.gk.output,Nat.le_trans hsz hg.size,fun b hb h1 h2 h3=>?_,h.gk.nM,fun b hb=>?_⟩,⟨h.tl.cI.fM fun b hb=>hg.block b (aI h.tl.cI hb).2 (fun e=>h.tl.apart b hb e.symm),by rw [List.map_append];exact ho,fun b hb hb2=>?_⟩,(hg.block tb (by have:=hlo.1.1;omega) (fun e=>hnn e.symm)).trans h.same,hlo⟩
 ·rw [← h.gk.block b hb h1 h2 h3]
  refine hg.block b (by omega) fun e=>?_;rcases h.gk.nN b e.symm with h4 | h4
  ·exact h3 h4.symm
  ·omega
 ·injection hb with hb
  have hb:g=b:=hb;subst hb;rcases dY with h4 | h4
  ·exact h.gk.nN g h4
  ·exact .inr (by omega)
 ·injection hb2 with hb2
  have hb2:g=b:=hb2;subst hb2;rcases dY with h1 | h1
  ·exact h.tl.apart g hb h1
  ·have:=(aI h.tl.cI hb).2;omega
theorem RW.cells {P0 N0:Value} (h:RW tb B0 w W P N Pv Nv ps ns) (hb:w.heap[tb]? = some (Obj.cells #[P0,N0] 39 (0,0))) :
  W.cell? ⟨tb,0,none⟩=some P0∧W.cell? ⟨tb,1,none⟩=some N0:=by
 have h1:=h.same.trans hb;exact ⟨by simp [World.cell?,h1],by simp [World.cell?,h1]⟩
theorem RW.frozen {P0 N0:Value} (h:RW tb B0 w W P N Pv Nv ps ns) (hb:w.heap[tb]? = some (Obj.cells #[P0,N0] 39 (0,0))) (o:Nat):W.frozen? ⟨tb,o,none⟩=false:=by
 have h1:=h.same.trans hb;simp [World.frozen?,h1]
end
structure GW (tb B0:Nat) (W:World) (P N:Value) (t:aD):Prop where
 box:W.heap[tb]? = some (Obj.cells #[P,N] 39 (0,0))
 tl:TL B0 W P N t.ps t.ns
 lo:(P.ownBlock≠some tb∧N.ownBlock≠some tb)∧B0≤W.heap.size
theorem GW.lt {tb B0:Nat} {W:World} {P N:Value} {t:aD} (h:GW tb B0 W P N t):tb<W.heap.size:=(Array.getElem?_eq_some_iff.1 h.box).1
theorem GW.cells {tb B0:Nat} {W:World} {P N:Value} {t:aD} (h:GW tb B0 W P N t):W.cell? ⟨tb,0,none⟩=some P∧W.cell? ⟨tb,1,none⟩=some N∧W.frozen? ⟨tb,0,none⟩=false∧W.frozen? ⟨tb,1,none⟩=false:=by
 refine ⟨?_,?_,?_,?_⟩<;>simp [World.cell?,World.frozen?,h.box]
theorem GW.put {tb B0:Nat} {W X:World} {P N P' N':Value} {t u:aD} (h:GW tb B0 W P N t) (hk:GK tb W X P N P' N') (hs:X.heap[tb]? = W.heap[tb]?) (ht:TL B0 X P' N' u.ps u.ns) :
  GW tb B0 ((X.setCell ⟨tb,0,none⟩ P').setCell ⟨tb,1,none⟩ N') P' N' u∧GK tb W ((X.setCell ⟨tb,0,none⟩ P').setCell ⟨tb,1,none⟩ N') P N P' N':=by
 have h1:=hs.trans h.box;have hl:=h.lt;have hp:P'.ownBlock≠some tb:=fun e=>by
  rcases hk.nM tb e with h2 | h2
  ·exact h.lo.1.1 h2
  ·omega
 have hn:N'.ownBlock≠some tb:=fun e=>by
  rcases hk.nN tb e with h2 | h2
  ·exact h.lo.1.2 h2
  ·omega
 have cG:∀b,b≠tb→((X.setCell ⟨tb,0,none⟩ P').setCell ⟨tb,1,none⟩ N').heap[b]? = X.heap[b]?:=fun b hb=>by rw [blk_setCell_other _ _ _ _ hb,blk_setCell_other _ _ _ _ hb]
 have hsz:((X.setCell ⟨tb,0,none⟩ P').setCell ⟨tb,1,none⟩ N').heap.size=X.heap.size:=by simp [World.size_setCell]
 refine ⟨⟨by simp [World.setCell,Array.getElem?_modify,h1],⟨ht.cI.fM fun b hb=>cG b (fun e=>hp (by rw [hb,e])),ht.dx.fM fun b hb=>cG b (fun e=>hn (by rw [hb,e])),ht.apart⟩,⟨hp,hn⟩,by rw [hsz];exact Nat.le_trans h.lo.2 hk.size⟩,hk.os,hk.tape,hk.output,by rw [hsz];exact hk.size,fun b hb h2 h3 h4=>(cG b h2).trans (hk.block b hb h2 h3 h4),hk.nM,hk.nN⟩
theorem RW.store {tb B0:Nat} {w W:World} {P N Pv Nv:Value} {t:aD} {z:Int} {nm:ByteArray} (h0:GW tb B0 w P N t) (h:RW tb B0 w W P N Pv Nv (t.ps++[z]) (t.ns++[nm])) :
  GW tb B0 ((W.setCell ⟨tb,0,none⟩ Pv).setCell ⟨tb,1,none⟩ Nv) Pv Nv (t.push z nm)∧GK tb w ((W.setCell ⟨tb,0,none⟩ Pv).setCell ⟨tb,1,none⟩ Nv) P N Pv Nv:=h0.put h.gk h.same h.tl
theorem GK.XH {tb:Nat} {w W:World} {P N P' N':Value} (h:GK tb w W P N P' N') {S:Nat→Prop} (hS:∀b,S b→b<w.heap.size→b≠tb∧P.ownBlock≠some b∧N.ownBlock≠some b):Kept S w W:=fun b hb hl=>by
 obtain ⟨h1,h2,h3⟩:=hS b hb hl
 exact h.block b hl h1 (fun e=>h2 e.symm) (fun e=>h3 e.symm)
def Mz (B0:Nat) (w:World) (P N:Value) (t:aD) (r:RT) (par:Int) (e:Ending) (w':World):Prop :=
 ∃P' N',e=.returned (.agg #[P',N'])∧TL B0 w' P' N' (t.app r par).ps (t.app r par).ns∧GK w.heap.size w w' P N P' N'
theorem PC (t:aD) (nm:ByteArray) (ks:List RT) (par:Int):(t.push par nm).apps ks t.ps.length=t.app (.node nm ks) par:=by
 unfold aD.apps aD.app aD.push;rw [psR,cF];simp
theorem PD (t:aD) (ks:List RT) {j:Nat} (h:j<ks.length) (own:Nat):(t.apps (ks.take j) own).app (gr ks j) (own:Int)=t.apps (ks.take (j+1)) own:=by
 have hg:gr ks j=ks[j]:=by simp [gr,h]
 rw [Pu,hg,List.take_succ_eq_append_getElem h]
theorem Kh (ks:List RT) {j:Nat} (h:j<ks.length):sizeRs (ks.take j)+aL (gr ks j)≤sizeRs ks:=by
 induction ks generalizing j with
 | nil=>simp at h
 | cons k ks ih =>
  cases j with
  | zero=>rw [List.take_zero,sizeRs,sizeRs];show _+aL k≤_;omega
  | succ j =>
   have:=ih (j:=j) (by simpa using h)
   rw [List.take_succ_cons,sizeRs,sizeRs]
   show _+aL (gr ks j)≤_
   omega
theorem PE (w:World):Up w w.drew:=Up.drewN w 1
theorem xZ {tb B0:Nat} {wo w3:World} {P N P2 N2:Value} {T:aD} (h:GW tb B0 wo P N T) (hk:GK wo.drew.heap.size wo.drew w3 P N P2 N2):w3.heap[tb]? = wo.heap[tb]?:=by
 have hl:=h.lt;exact hk.block tb hl (fun e=>by have:tb=wo.heap.size:=e;omega) (fun e=>h.lo.1.1 e.symm) (fun e=>h.lo.1.2 e.symm)
theorem MA {tb B0:Nat} {wo w3:World} {P N P2 N2:Value} {T:aD} (h:GW tb B0 wo P N T) (hk:GK wo.drew.heap.size wo.drew w3 P N P2 N2) (o:Nat):w3.frozen? ⟨tb,o,none⟩=false:=by
 have h1:=(xZ h hk).trans h.box;simp [World.frozen?,h1]
theorem XI {tb B0:Nat} {wo w3:World} {P N P2 N2:Value} {T:aD} (_:GW tb B0 wo P N T) (hk:GK wo.drew.heap.size wo.drew w3 P N P2 N2):GK tb wo w3 P N P2 N2 :=
 ⟨hk.os,hk.tape,hk.output,hk.size,fun b hb _ h2 h3=>hk.block b hb (fun e=>by have:b=wo.heap.size:=e;omega) h2 h3,hk.nM,hk.nN⟩
set_option maxHeartbeats 4000000 in
theorem Vi (B0:Nat):∀(d:Nat) (r:RT),aL r≤d→∀(w:World) (P N v:Value) (t:aD) (par:Int),TL B0 w P N t.ps t.ns→B0≤w.heap.size→t.ns.length=t.ps.length→t.ps.length+aL r≤100000 →
  RAt (fun b=>P.ownBlock≠some b∧N.ownBlock≠some b) w r v→Calls Tryz.prog 253 #[.agg #[P,N],v,.int .i64 par] w (Mz B0 w P N t r par):=by
 intro d
 induction d with
 | zero=>intro r hr;have:=ku r;omega
 | succ d ih =>
 intro r hr w P N v t par I3 hB0 hnl hbd hv;cases r with
 | node nm ks =>
  obtain ⟨xb,kp,kc,vs,rfl,hS,c0,c1,hk,hs⟩:=hv.open;simp only [RT.nm,RT.kids] at c0 c1 hk hs;have fK:=mU ks;rw [aL] at hr hbd;obtain ⟨pp,pc,rfl,_,_⟩:=aC.open I3.cI.ints;obtain ⟨np,nc,rfl,_,_⟩:=aC.open I3.dx.strs;have jk:=aa ih;have lD:=aa hnl;have Vj:=Up.alloc w (.cells #[.slice pp t.ps.length pc,.slice np t.ns.length nc] 39);have aY:=Vj.trans (Up.alloc _ (.cells #[.slice none 0 0,.slice none 0 0] 39))
  have hsz:((w.alloc (.cells #[.slice pp t.ps.length pc,.slice np t.ns.length nc] 39)).alloc (.cells #[.slice none 0 0,.slice none 0 0] 39)).heap.size=w.heap.size+2:=by simp
  have hb1:((w.alloc (.cells #[.slice pp t.ps.length pc,.slice np t.ns.length nc] 39)).alloc (.cells #[.slice none 0 0,.slice none 0 0] 39)).heap[w.heap.size]? = some (Obj.cells #[.slice pp t.ps.length pc,.slice np t.ns.length nc] 39 (0,0)) :=
   (Below.block (Up.alloc (w.alloc (.cells #[.slice pp t.ps.length pc,.slice np t.ns.length nc] 39)) _) w.heap.size (by rw [World.size_alloc];omega)).trans (World.alloc_heap_new _ _)
  have hrb:=ek (w:=w.alloc (.cells #[.slice pp t.ps.length pc,.slice np t.ns.length nc] 39)) (P:=.slice none 0 0) (N:=.slice none 0 0) (T:=39);rw [World.size_alloc] at hrb;have hpl:∀b,(Value.slice pp t.ps.length pc).ownBlock=some b→b<w.heap.size:=fun b hb=>(aI I3.cI hb).2;have BF:∀b,(Value.slice np t.ns.length nc).ownBlock=some b→b<w.heap.size:=fun b hb=>(aI I3.dx hb).2
  have HG:Hid (GW w.heap.size B0 ((w.alloc (.cells #[.slice pp t.ps.length pc,.slice np t.ns.length nc] 39)).alloc (.cells #[.slice none 0 0,.slice none 0 0] 39)) (.slice pp t.ps.length pc) (.slice np t.ns.length nc) t) :=
   ⟨hb1,I3.up aY,⟨fun e=>by have:=hpl _ e;omega,fun e=>by have:=BF _ e;omega⟩,by omega⟩
  have eN:=aa (aY.cell c0);have jE:=aa (aY.cell c1);have hxl:xb<w.heap.size:=World.block_lt_of_cell? w _ c0;have MB:Hid (aC (fun b=>b<w.heap.size∧(Value.slice pp t.ps.length pc).ownBlock≠some b∧(Value.slice np t.ns.length nc).ownBlock≠some b) ((w.alloc (.cells #[.slice pp t.ps.length pc,.slice np t.ns.length nc] 39)).alloc (.cells #[.slice none 0 0,.slice none 0 0] 39)) (.slice kp ks.length kc) ks.length (vN vs)) :=
   (hk.sub (T:=fun b=>b<w.heap.size∧(Value.slice pp t.ps.length pc).ownBlock≠some b∧(Value.slice np t.ns.length nc).ownBlock≠some b) fun b hb hl=>⟨hl,hb⟩).keep (aY.kept _)
  have HRS:Hid (RsAt (fun b=>b<w.heap.size∧(Value.slice pp t.ps.length pc).ownBlock≠some b∧(Value.slice np t.ns.length nc).ownBlock≠some b) ((w.alloc (.cells #[.slice pp t.ps.length pc,.slice np t.ns.length nc] 39)).alloc (.cells #[.slice none 0 0,.slice none 0 0] 39)) ks vs) :=
   RsAt.keep (aY.kept _) ks (RsAt.sub (fun b hb hl=>⟨hl,hb⟩) ks hs)
  have iV:=aa hrb;have cz:=aa hsz;have jB:=aa aY;have HS:=aa hS;have YQ:=aa hpl;have l6:=aa BF;have gO:=aa hbd;have EI:=aa (PC t nm ks par);have iw:=aa fK;have HR:=aa hr;have hb10:=HG.out.cells.1;clear ih hv Vj aY hb1 hrb hpl BF I3 hk hs hnl c0 c1 hS hbd fK hr
  go_enter Tryz.func253,Tryz.ntmps253
  go_wp2_with fail;clear hb10;generalize (w.alloc (.cells #[.slice pp t.ps.length pc,.slice np t.ns.length nc] 39)).alloc (.cells #[.slice none 0 0,.slice none 0 0] 39)=w2 at *;generalize htb:w.heap.size=tb at *
  have Vk:Hid (∀(W:World) (P' N':Value),GK tb w2 W (.slice pp t.ps.length pc) (.slice np t.ns.length nc) P' N'→W.cell? ⟨xb,0,none⟩=some (.string nm)∧W.cell? ⟨xb,1,none⟩=some (.slice kp ks.length kc)):=fun W P' N' hk=>by have h1:=hk.block xb (by rw [cz.out];omega) (by omega) (fun e=>HS.out.1 e.symm) (fun e=>HS.out.2 e.symm);exact ⟨(World.cell?_of_block (a:=⟨xb,0,none⟩) h1).trans eN.out,(World.cell?_of_block (a:=⟨xb,1,none⟩) h1).trans jE.out⟩
  go_cut [] from 12 to 26 (fun wx=>∃P' N',GW tb B0 wx P' N' (t.push par nm)∧GK tb w2 wx (.slice pp t.ps.length pc) (.slice np t.ns.length nc) P' N')
  case first =>
   have hd:=Up.drewN w2 1;have Fw:=aa HG.out;have eu:=aa HG.out.box;have MC:Hid (RW tb B0 w2 w2.drew (.slice pp t.ps.length pc) (.slice np t.ns.length nc) (.slice pp t.ps.length pc) (.slice np t.ns.length nc) t.ps t.ns):=(RW.start HG.out.tl ⟨⟨HG.out.lt,HG.out.lo.1⟩,HG.out.lo.2⟩).up hd;have mh:Hid (t.ps.length≤1000000∧t.ns.length≤1000000):=by have:=gO.out;have:=lD.out;unfold Hid;omega
   have oL:Hid (∀ {W:World} {P' N':Value} {ps':List Int} {ns':List ByteArray},RW tb B0 w2 W (.slice pp t.ps.length pc) (.slice np t.ns.length nc) P' N' ps' ns'→W.cell? ⟨tb,0,none⟩=some (.slice pp t.ps.length pc)∧W.cell? ⟨tb,1,none⟩=some (.slice np t.ns.length nc)∧W.cell? ⟨xb,0,none⟩=some (.string nm)) :=
    fun h=>⟨(h.cells eu.out).1,(h.cells eu.out).2,(Vk.out _ _ _ h.gk).1⟩
   refine dG (by kernel_rfl) 13 (fun w'=>w'.cell? ⟨tb,0,none⟩=some (.slice pp t.ps.length pc)∧w'.cell? ⟨tb,1,none⟩=some (.slice np t.ns.length nc)∧w'.cell? ⟨xb,0,none⟩=some (.string nm)) (oL.out MC.out) (fun hS=>?_);simp only [List.size_toArray,List.length_cons,List.length_nil,Nat.reduceAdd,Array.replicate_succ,Array.replicate_zero,List.push_toArray,List.nil_append,List.cons_append];generalize w2.drew=Wd at *;refine af.tk 0 hS ?_;(try simp only [Act.put,ay,az,aA]);refine af.tk 1 hS ?_
   (try simp only [Act.put,ay,az,aA]);refine af.tk 2 hS ?_;(try simp only [Act.put,ay,az,aA]);refine af.tk 5 hS ?_;(try simp only [Act.put,ay,az,aA]);refine af.tk 6 hS ?_;(try simp only [Act.put,ay,az,aA]);refine af.tk 7 hS ?_;(try simp only [Act.put,ay,az,aA]);refine af.tk 8 hS ?_
   (try simp only [Act.put,ay,az,aA]);refine af.tk 9 hS ?_;(try simp only [Act.put,ay,az,aA]);refine af.tk 10 hS ?_;(try simp only [Act.put,ay,az,aA]);refine af.xU (i:=3) (i2:=11) rfl rfl (by kernel_rfl) (fun K' hK=>?_) (fun K' hK=>?_)
   ·go_simp
    have Ay:Hid (RW tb B0 _ (Wd.alloc (.cells #[.int .i64 par] 3)) _ _ _ _ _ _):=MC.out.up (Up.alloc _ _);refine hK.out _ _ (fun _=>oL.out Ay.out) (fun _=>?_);(try simp only [ay,az,aA]);refine af.xU (i:=4) (i2:=11) rfl rfl (by kernel_rfl) (fun K' hK=>?_) (fun K' hK=>?_)
    ·refine eV (by rfl) _ _ _ (by rfl) B0 3 _ 8 Tryz.underlying26 Tryz.fI (by rfl) (by decide) (by rfl) Ay.out.tl.cI (.int .i64 par) Wd.heap.size (by rfl) (aK Wd #[.int .i64 par] 3 0) (by rfl) (by rw [List.length_map];exact mh.out.1) (Nat.le_trans Ay.out.lo.2 Ay.out.gk.size) ?_
     intro g1 Ml jD qV jJ hrg1 _;have q8:Hid (RW tb B0 _ jD _ _ _ _ _ _):=Ay.out.zk qV jJ (hrg1.imp id (fun e=>Nat.le_of_eq e.symm));refine hK.out _ _ (fun _=>oL.out q8.out) (fun _=>?_);(try simp only [Act.put,ay,az,aA]);refine af.fr 13 (fun _=>oL.out q8.out) ?_;(try simp only [Act.put,ay,az,aA]);refine af.step (i:=11) rfl (by kernel_rfl) (fun K' hK=>?_);go_simp;have mV:Hid (RW tb B0 _ (jD.alloc (.cells #[.string nm] 9)) _ _ _ _ _ _):=q8.out.up (Up.alloc _ _)
     refine hK.out _ _ (fun _=>oL.out mV.out) (fun _=>?_);(try simp only [ay,az,aA]);refine af.step (i:=12) rfl (by kernel_rfl) (fun K' hK=>?_);refine eV (by rfl) _ _ _ (by rfl) B0 9 _ 16 Tryz.underlying22 Tryz.iE (by rfl) (by decide) (by rfl) mV.out.tl.dx (.string nm) jD.heap.size (by rfl) (aK jD #[.string nm] 9 0) (by rfl) (by rw [List.length_map];exact mh.out.2) (Nat.le_trans mV.out.lo.2 mV.out.gk.size) ?_;intro g2 Mm eF qW mN hrg2 _
     have oM:Hid (RW tb B0 _ eF _ _ _ _ _ _):=mV.out.zl qW mN (hrg2.imp id (fun e=>Nat.le_of_eq e.symm));refine hK.out _ _ (fun _=>oL.out oM.out) (fun _=>?_);(try simp only [Act.put,ay,az,aA]);obtain ⟨Al,gH⟩:=oM.out.cells eu.out;have yI:=oM.out.frozen eu.out 0;have E6:=oM.out.frozen eu.out 1;have mO:=aa (oM.out.store Fw.out);refine af.step (i:=14) rfl (by kernel_rfl) (fun K' hK=>?_);go_simp;refine hK.out _ _ (aM (by kernel_rfl)) (fun _=>?_)
     (try simp only [ay,az,aA]);refine af.fr 15 (aM (by kernel_rfl)) ?_;(try simp only [Act.put,ay,az,aA]);refine af.step (i:=16) rfl (by kernel_rfl) (fun K' hK=>?_);go_simp;refine hK.out _ _ (aM (by kernel_rfl)) (fun _=>?_);refine af.done (by kernel_rfl) ?_;go_wp2_with fail;go_meet
     case rel =>have b8:=mO.out;simp only [List.length_map] at b8;exact ⟨_,_,b8.1,b8.2⟩
    ·go_simp
     have q8:Hid (RW tb B0 _ ((Wd.alloc (.cells #[.int .i64 par] 3)).alloc (.cells #[.string nm] 9)) _ _ _ _ _ _):=Ay.out.up (Up.alloc _ _);refine hK.out _ _ (fun _=>oL.out q8.out) (fun _=>?_);(try simp only [ay,az,aA]);have pG:=aK (Wd.alloc (.cells #[.int .i64 par] 3)) #[.string nm] 9 0;have mF:=(Up.alloc (Wd.alloc (.cells #[.int .i64 par] 3)) (.cells #[.string nm] 9)).cell (aK Wd #[.int .i64 par] 3 0);rw [World.size_alloc] at pG;refine af.step (i:=4) rfl (by kernel_rfl) (fun K' hK=>?_)
     refine eV (by rfl) _ _ _ (by rfl) B0 3 _ 8 Tryz.underlying26 Tryz.fI (by rfl) (by decide) (by rfl) q8.out.tl.cI (.int .i64 par) Wd.heap.size (by rfl) mF (by rfl) (by rw [List.length_map];exact mh.out.1) (Nat.le_trans q8.out.lo.2 q8.out.gk.size) ?_;intro g1 Ml jD qV jJ hrg1 _;have mV:Hid (RW tb B0 _ jD _ _ _ _ _ _):=q8.out.zk qV jJ (hrg1.imp id (fun e=>Nat.le_of_eq e.symm))
     (have qI:jD.cell? ⟨Wd.heap.size+1,0,none⟩=some (.string nm):=by rw [jJ.cell_far ⟨Wd.heap.size+1,0,none⟩ (by simp) (fun e=>absurd (aI MC.out.tl.cI e.symm).2 (by show ¬(Wd.heap.size+1<Wd.heap.size);omega))];exact pG);refine hK.out _ _ (fun _=>oL.out mV.out) (fun _=>?_);(try simp only [Act.put,ay,az,aA]);refine af.fr 13 (fun _=>oL.out mV.out) ?_;(try simp only [Act.put,ay,az,aA]);refine af.step (i:=12) rfl (by kernel_rfl) (fun K' hK=>?_)
     refine eV (by rfl) _ _ _ (by rfl) B0 9 _ 16 Tryz.underlying22 Tryz.iE (by rfl) (by decide) (by rfl) mV.out.tl.dx (.string nm) (Wd.heap.size+1) (by rfl) qI (by rfl) (by rw [List.length_map];exact mh.out.2) (Nat.le_trans mV.out.lo.2 mV.out.gk.size) ?_;intro g2 Mm eF qW mN hrg2 _;have oM:Hid (RW tb B0 _ eF _ _ _ _ _ _):=mV.out.zl qW mN (hrg2.imp id (fun e=>Nat.le_of_eq e.symm));refine hK.out _ _ (fun _=>oL.out oM.out) (fun _=>?_);(try simp only [Act.put,ay,az,aA]);obtain ⟨Al,gH⟩:=oM.out.cells eu.out
     have yI:=oM.out.frozen eu.out 0;have E6:=oM.out.frozen eu.out 1;have mO:=aa (oM.out.store Fw.out);refine af.step (i:=14) rfl (by kernel_rfl) (fun K' hK=>?_);go_simp;refine hK.out _ _ (aM (by kernel_rfl)) (fun _=>?_);(try simp only [ay,az,aA]);refine af.fr 15 (aM (by kernel_rfl)) ?_;(try simp only [Act.put,ay,az,aA]);refine af.step (i:=16) rfl (by kernel_rfl) (fun K' hK=>?_);go_simp;refine hK.out _ _ (aM (by kernel_rfl)) (fun _=>?_)
     refine af.done (by kernel_rfl) ?_;go_wp2_with fail;go_meet
     case rel =>have b8:=mO.out;simp only [List.length_map] at b8;exact ⟨_,_,b8.1,b8.2⟩
   ·go_simp
    have Ay:Hid (RW tb B0 _ (Wd.alloc (.cells #[.string nm] 9)) _ _ _ _ _ _):=MC.out.up (Up.alloc _ _);refine hK.out _ _ (fun _=>oL.out Ay.out) (fun _=>?_);(try simp only [ay,az,aA]);refine af.step (i:=3) rfl (by kernel_rfl) (fun K' hK=>?_);go_simp;have q8:Hid (RW tb B0 _ ((Wd.alloc (.cells #[.string nm] 9)).alloc (.cells #[.int .i64 par] 3)) _ _ _ _ _ _):=Ay.out.up (Up.alloc _ _);refine hK.out _ _ (fun _=>oL.out q8.out) (fun _=>?_);try simp only [ay,az,aA]
    have mF:=aK (Wd.alloc (.cells #[.string nm] 9)) #[.int .i64 par] 3 0;have pG:=(Up.alloc (Wd.alloc (.cells #[.string nm] 9)) (.cells #[.int .i64 par] 3)).cell (aK Wd #[.string nm] 9 0);rw [World.size_alloc] at mF;refine af.step (i:=4) rfl (by kernel_rfl) (fun K' hK=>?_);refine eV (by rfl) _ _ _ (by rfl) B0 3 _ 8 Tryz.underlying26 Tryz.fI (by rfl) (by decide) (by rfl) q8.out.tl.cI (.int .i64 par) (Wd.heap.size+1) (by rfl) mF (by rfl) (by rw [List.length_map];exact mh.out.1) (Nat.le_trans q8.out.lo.2 q8.out.gk.size) ?_;intro g1 Ml jD qV jJ hrg1 _
    have mV:Hid (RW tb B0 _ jD _ _ _ _ _ _):=q8.out.zk qV jJ (hrg1.imp id (fun e=>Nat.le_of_eq e.symm));(have qI:jD.cell? ⟨Wd.heap.size,0,none⟩=some (.string nm):=by rw [jJ.cell_far ⟨Wd.heap.size,0,none⟩ (by simp;omega) (fun e=>absurd (aI MC.out.tl.cI e.symm).2 (by show ¬(Wd.heap.size<Wd.heap.size);omega))];exact pG);refine hK.out _ _ (fun _=>oL.out mV.out) (fun _=>?_);(try simp only [Act.put,ay,az,aA]);refine af.fr 13 (fun _=>oL.out mV.out) ?_
    (try simp only [Act.put,ay,az,aA]);refine af.step (i:=12) rfl (by kernel_rfl) (fun K' hK=>?_);refine eV (by rfl) _ _ _ (by rfl) B0 9 _ 16 Tryz.underlying22 Tryz.iE (by rfl) (by decide) (by rfl) mV.out.tl.dx (.string nm) Wd.heap.size (by rfl) qI (by rfl) (by rw [List.length_map];exact mh.out.2) (Nat.le_trans mV.out.lo.2 mV.out.gk.size) ?_;intro g2 Mm eF qW mN hrg2 _;have oM:Hid (RW tb B0 _ eF _ _ _ _ _ _):=mV.out.zl qW mN (hrg2.imp id (fun e=>Nat.le_of_eq e.symm))
    refine hK.out _ _ (fun _=>oL.out oM.out) (fun _=>?_);(try simp only [Act.put,ay,az,aA]);obtain ⟨Al,gH⟩:=oM.out.cells eu.out;have yI:=oM.out.frozen eu.out 0;have E6:=oM.out.frozen eu.out 1;have mO:=aa (oM.out.store Fw.out);refine af.step (i:=14) rfl (by kernel_rfl) (fun K' hK=>?_);go_simp;refine hK.out _ _ (aM (by kernel_rfl)) (fun _=>?_);(try simp only [ay,az,aA]);refine af.fr 15 (aM (by kernel_rfl)) ?_
    (try simp only [Act.put,ay,az,aA]);refine af.step (i:=16) rfl (by kernel_rfl) (fun K' hK=>?_);go_simp;refine hK.out _ _ (aM (by kernel_rfl)) (fun _=>?_);refine af.done (by kernel_rfl) ?_;go_wp2_with fail;go_meet
    case rel =>have b8:=mO.out;simp only [List.length_map] at b8;exact ⟨_,_,b8.1,b8.2⟩
  case rest =>
   obtain ⟨P1,N1,YS,Rg⟩:=hcut;have HG1:=aa YS;have yF:=aa Rg;have Ej:Hid ((t.push par nm).apps (ks.take 0) t.ps.length=t.push par nm):=Pt _ _;clear YS Rg;go_wp2_with fail
   go_loopw [8] (fun i wr=>∃(j:Nat) (P' N':Value),j≤ks.length∧i=.int .i64 j∧Hid (GW tb B0 wr P' N' ((t.push par nm).apps (ks.take j) t.ps.length))∧Hid (GK tb w2 wr (.slice pp t.ps.length pc) (.slice np t.ns.length nc) P' N')) (fun i _=>ks.length - (intOf i).toNat)
   case atStart=>exact ⟨0,P1,N1,Nat.zero_le _,rfl,by rw [Ej.out];exact HG1.out,yF.out⟩
   case round =>
    obtain ⟨j,P',N',hj,rfl,Az,AA⟩:=hrel;obtain ⟨wo,rfl⟩:∃wo:World,wo=wr:=⟨_,rfl⟩;have hx:=Vk.out _ _ _ AA.out;have hx1:=hx.2;by_cases hlt:j<ks.length
    ·have hcs:=Az.out.cells
     have hkr:Kept (fun b=>b<tb∧(Value.slice pp t.ps.length pc).ownBlock≠some b∧(Value.slice np t.ns.length nc).ownBlock≠some b) w2 wo:=AA.out.XH fun b hb _=>⟨by omega,hb.2⟩;obtain ⟨kb,ko,rfl,hkc⟩:=mS (MB.out.keep hkr) hlt;have AB:=RAt.keep hkr _ (RsAt.get ks HRS.out j hlt)
     have Vl:RAt (fun b=>P'.ownBlock≠some b∧N'.ownBlock≠some b) wo (gr ks j) (vN vs j):=RAt.sub (fun b hb hl=>⟨fun e=>by
      rcases AA.out.nM b e with h1 | h1
      ·exact hb.2.1 h1
      ·have:=hb.1;have:=cz.out;omega,fun e=>by
      rcases AA.out.nN b e with h1 | h1
      ·exact hb.2.2 h1
      ·have:=hb.1;have:=cz.out;omega⟩) _ AB
     have hgs:=qp hlt;obtain ⟨T,hT⟩:∃T,T=(t.push par nm).apps (ks.take j) t.ps.length:=⟨_,rfl⟩;(have HTS:Hid (T.app (gr ks j) (t.ps.length:Int)=(t.push par nm).apps (ks.take (j+1)) t.ps.length):=by rw [hT];exact PD _ _ hlt _);(have htl:T.ps.length=t.ps.length+1+sizeRs (ks.take j)∧T.ns.length=t.ns.length+1+sizeRs (ks.take j):=by rw [hT];unfold aD.apps aD.push;simp only [List.length_append,List.length_cons,List.length_nil,nR,zq];exact ⟨trivial,trivial⟩);have hsz2:=Kh ks hlt;rw [← hT] at Az
     have fV:Hid (∀W,Up wo W→Calls Tryz.prog 253 #[.agg #[P',N'],vN vs j,.int .i64 (t.ps.length:Nat)] W (Mz B0 W P' N' T (gr ks j) (t.ps.length:Nat))):=fun W hW =>
      jk.out (gr ks j) (by have:=HR.out;omega) W P' N' (vN vs j) T _ (Az.out.tl.up hW) (Nat.le_trans Az.out.lo.2 hW.size) (by have:=lD.out;omega) (by have:=gO.out;omega) (RAt.keep (hW.kept _) _ Vl)
     have CZ:=aa Az.out;have HKJ:=aa AA.out;(have i1:(0:Int)≤(j:Int):=by omega);(have i2:(j:Int)<(ks.length:Int):=by omega);(have i3:(j:Int)<1000000:=by have:=iw.out;have:=gO.out;omega);have aW:=aa hlt;have a0:=hcs.1;have a1:=hcs.2.1;clear hT htl hgs AB Vl hkr hcs hx Az AA hsz2 hlt hj;generalize vN vs j=kv at *;generalize gr ks j=r at *;go_wp2_with fail
     refine dG (by kernel_rfl) 10 (fun w'=>w'.cell? ⟨tb,0,none⟩=some P'∧w'.cell? ⟨tb,1,none⟩=some N'∧w'.cell? ⟨xb,1,none⟩=some (.slice (some ⟨kb,ko,none⟩) ks.length kc)∧w'.cell? ⟨kb,ko+j,none⟩=some kv) ⟨a0,a1,hx1,hkc⟩ (fun hS=>?_);simp only [List.size_toArray,List.length_cons,List.length_nil,Nat.reduceAdd,Array.replicate_succ,Array.replicate_zero,List.push_toArray,List.nil_append,List.cons_append];refine af.tk 0 hS ?_;(try simp only [Act.put,ay,az,aA]);refine af.tk 1 hS ?_
     (try simp only [Act.put,ay,az,aA]);refine af.tk 2 hS ?_;(try simp only [Act.put,ay,az,aA]);refine af.tk 3 hS ?_;(try simp only [Act.put,ay,az,aA]);refine af.tk 4 hS ?_;(try simp only [Act.put,ay,az,aA]);refine af.tk 5 hS ?_;(try simp only [Act.put,ay,az,aA]);refine af.tk 6 hS ?_
     (try simp only [Act.put,ay,az,aA]);refine af.tk 7 hS ?_;(try simp only [Act.put,ay,az,aA]);refine af.tk 8 hS ?_;(try simp only [Act.put,ay,az,aA]);refine af.step (i:=9) rfl (by kernel_rfl) (fun K' hK=>?_);go_simp;refine (fV.out _ (PE wo)).mono ?_;rintro e w3 ⟨P2,N2,rfl,wY,hK3⟩;obtain ⟨p2,c2,rfl,_,_⟩:=aC.open wY.cI.ints;obtain ⟨q2,e2,rfl,_,_⟩:=aC.open wY.dx.strs;have hfz:=MA CZ.out hK3
     have IQ:=hfz 0;have nw:=hfz 1;have hw0:w3.cell? ⟨tb,0,none⟩=some P':=(World.cell?_of_block (a:=⟨tb,0,none⟩) (xZ CZ.out hK3)).trans CZ.out.cells.1;have hw1:w3.cell? ⟨tb,1,none⟩=some N':=(World.cell?_of_block (a:=⟨tb,1,none⟩) (xZ CZ.out hK3)).trans CZ.out.cells.2.1;have Vm:=aa (CZ.out.put (u:=T.app r (t.ps.length:Int)) (XI CZ.out hK3) (xZ CZ.out hK3) wY);clear hfz wY hK3;refine hK.out _ _ (aM (by kernel_rfl)) (fun hS=>?_);try simp only [ay,az,aA]
     refine af.step (i:=10) rfl (by kernel_rfl) (fun K' hK=>?_);go_simp;refine hK.out _ _ (aM (by kernel_rfl)) (fun hS=>?_);refine af.done (by kernel_rfl) ?_;go_wp2_with fail
     go_roundw
     case rel=>exact ⟨j+1,_,_,aW.out,by go_num,by rw [← HTS.out];exact Vm.out.1,HKJ.out.trans Vm.out.2⟩
     case measure=>have:=aW.out;simp [intOf];omega
    ·obtain rfl:j=ks.length:=by omega
     have hcs:=Az.out.cells;have a0:=hcs.1;have a1:=hcs.2.1;have hrb:wo.heap[tb+1]? = some (Obj.cells #[.slice none 0 0,.slice none 0 0] 39 (0,0)) :=
      (AA.out.block (tb+1) (by rw [cz.out];omega) (by omega) (fun e=>by have:=YQ.out _ e.symm;omega) (fun e=>by have:=l6.out _ e.symm;omega)).trans iV.out
     (obtain ⟨r0,r1,r2,r3⟩:wo.cell? ⟨tb+1,0,none⟩=some (.slice none 0 0)∧wo.cell? ⟨tb+1,1,none⟩=some (.slice none 0 0)∧wo.frozen? ⟨tb+1,0,none⟩=false∧wo.frozen? ⟨tb+1,1,none⟩=false:=by refine ⟨?_,?_,?_,?_⟩<;>simp [World.cell?,World.frozen?,hrb]);have MD:=Az.out;rw [List.take_length,EI.out] at MD;have Vn:=aa MD;have Fx:=aa AA.out;obtain ⟨pq,vE,rfl,_,_⟩:=aC.open MD.tl.cI.ints;obtain ⟨nq,vF,rfl,_,_⟩:=aC.open MD.tl.dx.strs;have HRBX:=aa hrb;clear hcs Az AA MD hx hlt hj hrb;go_wp2_with fail
     have cG:∀b,b≠tb+1→((wo.setCell ⟨tb+1,0,none⟩ (.slice pq (t.app (.node nm ks) par).ps.length vE)).setCell ⟨tb+1,1,none⟩ (.slice nq (t.app (.node nm ks) par).ns.length vF)).heap[b]? = wo.heap[b]?:=fun b hb=>by rw [blk_setCell_other _ _ _ _ hb,blk_setCell_other _ _ _ _ hb]
     (have hheap:((wo.setCell ⟨tb+1,0,none⟩ (.slice pq (t.app (.node nm ks) par).ps.length vE)).setCell ⟨tb+1,1,none⟩ (.slice nq (t.app (.node nm ks) par).ns.length vF)).heap[tb+1]? = some (Obj.cells #[.slice pq (t.app (.node nm ks) par).ps.length vE,.slice nq (t.app (.node nm ks) par).ns.length vF] 39 (0,0)):=by simp [World.setCell,Array.getElem?_modify,HRBX.out]);have Uq:((wo.setCell ⟨tb+1,0,none⟩ (.slice pq (t.app (.node nm ks) par).ps.length vE)).setCell ⟨tb+1,1,none⟩ (.slice nq (t.app (.node nm ks) par).ns.length vF)).heap.size=wo.heap.size:=by simp [World.size_setCell]
     have hos:((wo.setCell ⟨tb+1,0,none⟩ (.slice pq (t.app (.node nm ks) par).ps.length vE)).setCell ⟨tb+1,1,none⟩ (.slice nq (t.app (.node nm ks) par).ns.length vF)).os=wo.os∧((wo.setCell ⟨tb+1,0,none⟩ (.slice pq (t.app (.node nm ks) par).ps.length vE)).setCell ⟨tb+1,1,none⟩ (.slice nq (t.app (.node nm ks) par).ns.length vF)).tape=wo.tape∧((wo.setCell ⟨tb+1,0,none⟩ (.slice pq (t.app (.node nm ks) par).ps.length vE)).setCell ⟨tb+1,1,none⟩ (.slice nq (t.app (.node nm ks) par).ns.length vF)).output=wo.output:=⟨rfl,rfl,rfl⟩
     generalize (wo.setCell ⟨tb+1,0,none⟩ (.slice pq (t.app (.node nm ks) par).ps.length vE)).setCell ⟨tb+1,1,none⟩ (.slice nq (t.app (.node nm ks) par).ns.length vF)=wf at *;(have ji:wf.cell? ⟨tb+1,0,none⟩=some (.slice pq (t.app (.node nm ks) par).ps.length vE):=by simp [World.cell?,hheap]);(have hr1:wf.cell? ⟨tb+1,1,none⟩=some (.slice nq (t.app (.node nm ks) par).ns.length vF):=by simp [World.cell?,hheap]);refine ⟨rfl,.agg #[.slice pq (t.app (.node nm ks) par).ps.length vE,.slice nq (t.app (.node nm ks) par).ns.length vF],by simp [results,Tryz.results253,go_sem,ji,hr1],?_⟩
     have hs2:=cz.out;have hnp:∀b,(Value.slice pq (t.app (.node nm ks) par).ps.length vE).ownBlock=some b→(Value.slice pp t.ps.length pc).ownBlock=some b∨w2.heap.size≤b:=Fx.out.nM;have hnn:∀b,(Value.slice nq (t.app (.node nm ks) par).ns.length vF).ownBlock=some b→(Value.slice np t.ns.length nc).ownBlock=some b∨w2.heap.size≤b:=Fx.out.nN;have Pf:∀b,(Value.slice pq (t.app (.node nm ks) par).ps.length vE).ownBlock=some b→b≠tb+1:=fun b hb=>by
      rcases hnp b hb with h1 | h1
      ·have:=YQ.out b h1;omega
      ·omega
     have Bk:∀b,(Value.slice nq (t.app (.node nm ks) par).ns.length vF).ownBlock=some b→b≠tb+1:=fun b hb=>by
      rcases hnn b hb with h1 | h1
      ·have:=l6.out b h1;omega
      ·omega
     have Lx:=Fx.out.size;refine ⟨_,_,rfl,⟨Vn.out.tl.cI.fM fun b hb=>cG b (Pf b hb),Vn.out.tl.dx.fM fun b hb=>cG b (Bk b hb),Vn.out.tl.apart⟩,hos.1.trans (Fx.out.os.trans jB.out.os),hos.2.1.trans (Fx.out.tape.trans jB.out.tape),hos.2.2.trans (Fx.out.output.trans jB.out.output),by omega,fun b hb h1 h2 h3=>?_,fun b hb=>?_,fun b hb=>?_⟩
     ·rw [cG b (by omega),Fx.out.block b (by omega) (by omega) h2 h3]
      exact jB.out.block b hb
     ·rcases hnp b hb with h1 | h1
      ·exact .inl h1
      ·exact .inr (by omega)
     ·rcases hnn b hb with h1 | h1
      ·exact .inl h1
      ·exact .inr (by omega)
end Go.Proofs.YthgabkgmkolobaaGreat
