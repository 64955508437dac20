/- optimaltree.rooted: the texts of all rooted binary trees. The contract of slices.SortFunc .. -/
import Derived.Shelf.SlSortCmp.WholeK
import Derived.Ground.SlsfProg
import Derived.Test.YthgabkgmkolobaaGreatQ36
set_option maxRecDepth 100000
set_option maxHeartbeats 8000000
namespace Go.Proofs.YthgabkgmkolobaaGreat
open Go.RowKit Go.Shelf Go.Deep Go.Sort
def k7 (acw:List ByteArray) (pre:List Dv):List ByteArray:=(pre.map (·.1)).flatMap (CG acw)
structure xV (w:World) (acw:List ByteArray) (pre:List Dv) (L:Nat->Prop) (W:World):Prop where
 up:Up w W
 sz:w.heap.size+1<=W.heap.size
 lo:∀b,L b->w.heap.size<=b
 nL:¬L w.heap.size
 ex:∃ov,W.heap[w.heap.size]? = some (Obj.cells #[ov] 22 (0,0))/\ax (w.heap.size+1) 9 W ov ((k7 acw pre).map Value.string)/\∀g,ov.ownBlock=some g->¬L g
section
variable {w:World} {acw:List ByteArray}
theorem xV.ab:Xp (xV w acw):=by
 rintro s L L' W W' h hs;obtain ⟨ov,h1,h2,h7⟩:=h.ex;have hsz:=h.sz;have hnl:∀b,b<W.heap.size->¬L b->¬L' b:=fun b hb hn hb'=>by
  rcases hs.more b hb' with e | e
  ·exact hn e.1
  ·omega
 refine ⟨⟨hs.os.trans h.up.os,hs.tape.trans h.up.tape,hs.output.trans h.up.output,aR h.up.size hs.size,fun b hb=>(hs.block b (by omega) fun e=>by have:=h.lo b e;omega).trans (h.up.block b hb)⟩,by have:=hs.size;omega,fun b hb=>?_,hnl _ (by omega) h.nL,
  ov,(hs.block _ (by omega) h.nL).trans h1,ax.Tg h2 fun b hb=>hs.block b (aG h2 hb).2 (h7 b hb),fun g hg=>hnl g (aG h2 hg).2 (h7 g hg)⟩
 rcases hs.more b hb with e | e
 ·exact h.lo b e.1
 ·omega
theorem xV.own {B:Nat} (hB:w.heap.size+1<=B) (L:Nat->Prop):OwnFrom B (fun s W=>xV w acw s L W):=by
 intro s X Y row h hg hr;obtain ⟨ov,h1,h2,h7⟩:=h.ex;have hsz:=h.sz;have AZ:∀b,b<w.heap.size+1->Y.heap[b]? = X.heap[b]?:=fun b hb=>hg.block b (by omega) fun e=>by have:=(hr b e.symm).1;omega
 refine ⟨⟨hg.os.trans h.up.os,hg.tape.trans h.up.tape,hg.output.trans h.up.output,aR h.up.size hg.size,fun b hb=>(AZ b (by omega)).trans (h.up.block b hb)⟩,by have:=hg.size;omega,h.lo,h.nL,ov,(AZ _ (by omega)).trans h1,
  ax.Tg h2 fun b hb=>hg.block b (aG h2 hb).2 fun e=>?_,h7⟩
 obtain ⟨_,o,h8,h9⟩:=hr b e.symm;obtain ⟨c,h10⟩:=ax.Ib h2 hb;rw [h10] at h8;injection h8 with h8;subst h8;cases h9
end
structure xW (w:World) (L:Nat->Prop) (W W2:World) (B:Nat) (wr:World) (ov:Value) (T:List ByteArray):Prop where
 up:Up w wr
 size:W2.heap.size<=wr.heap.size
 keep:∀b,(L b\/(W.heap.size<=b/\b<W2.heap.size))->wr.heap[b]? = W2.heap[b]?
 kf:∀k o,B<=k->W.heap[k]? = some o->o.isCells=false->wr.heap[k]? = some o
 box:wr.heap[w.heap.size]? = some (Obj.cells #[ov] 22 (0,0))
 own:ax (w.heap.size+1) 9 wr ov (T.map Value.string)
 nL:∀g,ov.ownBlock=some g->¬L g/\(g<W.heap.size\/W2.heap.size<=g)
section
variable {w W W2 wr X:World} {acw:List ByteArray} {L:Nat->Prop} {B:Nat} {ov:Value} {T:List ByteArray} {s:ByteArray} {g cap k:Nat} {pre:List Dv} {x:Dv}
theorem xV.start (h:xV w acw pre L W) (hu:Up W W2):∃ov,xW w L W W2 B W2 ov (k7 acw pre):=by
 obtain ⟨ov,h1,h2,h7⟩:=h.ex;have hsz:=h.sz;exact ⟨ov,⟨h.up.trans hu,ah _,fun _ _=>rfl,fun k o _ hk _=>(bH hu k (fW.1 hk).1).trans hk,(bH hu _ (by omega)).trans h1,h2.iC fun b hb=>bH hu b (aG h2 hb).2,fun g hg=>⟨h7 g hg,.inl (aG h2 hg).2⟩⟩⟩
theorem xW.cells (h:xW w L W W2 B wr ov T):wr.cell? ⟨w.heap.size,0,none⟩=some ov/\wr.frozen? ⟨w.heap.size,0,none⟩=false:=by
 refine ⟨?_,?_⟩<;>simp [World.cell?,World.frozen?,h.box]
theorem xW.kept (h:xW w L W W2 B wr ov T):Kept (fun b=>L b\/(W.heap.size<=b/\b<W2.heap.size)) W2 wr:=fun b hb _=>h.keep b hb
theorem xW.push (h:xW w L W W2 B wr ov T) (hw:w.heap.size<W.heap.size) (Gd:¬L w.heap.size) (hL:∀b,L b->b<wr.heap.size) (hB:w.heap.size<B) (ho:ax (w.heap.size+1) 9 X (.slice (some ⟨g,0,none⟩) k cap) (T.map Value.string++[.string s])) (hg:wr.grownBy X ov.ownBlock) (eZ:ov.ownBlock=some g\/wr.heap.size<=g) :
  (X.cell? ⟨w.heap.size,0,none⟩=some ov/\X.frozen? ⟨w.heap.size,0,none⟩=false)/\xW w L W W2 B (X.setCell ⟨w.heap.size,0,none⟩ (.slice (some ⟨g,0,none⟩) k cap)) (.slice (some ⟨g,0,none⟩) k cap) (T++[s]):=by
 have SI:∀q,ov.ownBlock=some q->w.heap.size+1<=q/\q<wr.heap.size:=fun q hq=>aG h.own hq;have hbl:w.heap.size<wr.heap.size:=(fW.1 h.box).1;have j8:X.heap[w.heap.size]? = some (Obj.cells #[ov] 22 (0,0)):=(hg.block _ hbl fun e=>by have:=(SI _ e.symm).1;omega).trans h.box;have dw:∀b,b≠w.heap.size->(X.setCell ⟨w.heap.size,0,none⟩ (.slice (some ⟨g,0,none⟩) k cap)).heap[b]? = X.heap[b]?:=fun b hb=>blk_setCell_other _ _ _ _ hb;have hsz:(X.setCell ⟨w.heap.size,0,none⟩ (.slice (some ⟨g,0,none⟩) k cap)).heap.size=X.heap.size:=by simp [World.size_setCell]
 refine ⟨by constructor<;>simp [World.cell?,World.frozen?,j8],⟨hg.os.trans h.up.os,hg.tape.trans h.up.tape,hg.output.trans h.up.output,by rw [hsz];exact aR h.up.size hg.size,fun b hb=>?_⟩,by rw [hsz];exact aR h.size hg.size,fun b hb=>?_,fun q o hq hk hc=>?_,by simp [World.setCell,Array.getElem?_modify,j8],?_,fun q hq=>?_⟩
 ·rw [dw b (by omega)]
  exact (hg.block b (by omega) fun e=>by have:=(SI _ e.symm).1;omega).trans (h.up.block b hb)
 ·have hne:b≠w.heap.size:=fun e=>by
   subst e
   rcases hb with hb | hb
   ·exact Gd hb
   ·omega
  rw [dw b hne]
  refine (hg.block b ?_ fun e=>?_).trans (h.keep b hb)
  ·rcases hb with hb | hb
   ·exact hL b hb
   ·have:=h.size;omega
  ·obtain ⟨n1,n2⟩:=h.nL b e.symm
   rcases hb with hb | hb
   ·exact n1 hb
   ·omega
 ·have h1:=h.kf q o hq hk hc
  rw [dw q (by omega)];refine (hg.block q (fW.1 h1).1 fun e=>?_).trans h1;obtain ⟨c,h10⟩:=ax.Ib h.own e.symm;rw [h1] at h10;injection h10 with h10;subst h10;cases hc
 ·rw [cm]
  exact ho.iC fun b hb=>dw b (by have:=(aG ho hb).1;omega)
 ·have hq:some g=some q:=hq
  injection hq with hq;subst hq;rcases eZ with e | e
  ·exact h.nL g e
  ·exact ⟨fun hl=>by have:=hL g hl;omega,.inr (aR h.size e)⟩
theorem xW.fin (h0:xV w acw pre L W) (hu:Up W W2) (hL:∀b,L b->b<W.heap.size) (h:xW w L W W2 B wr ov T) (hT:T=k7 acw (pre++[x])) :
  KeepsFrom B W wr/\Below w.heap.size w wr/\(∀b,(L b\/False)->wr.heap[b]? = W.heap[b]?)/\xV w acw (pre++[x]) L wr:=by
 have hs:=hu.size;have hs2:=h.size;have hs0:=h0.sz;refine ⟨⟨aR hs hs2,h.kf⟩,h.up,fun b hb=>?_,h.up,by omega,h0.lo,h0.nL,ov,h.box,by rw [<- hT];exact h.own,fun g hg=>(h.nL g hg).1⟩;have hb:L b:=hb.resolve_right id;exact (h.keep b (.inl hb)).trans (bH hu b (hL b hb))
end
def Dw (S:Nat->Prop) (w:World) (acw:List ByteArray) (e:Ending) (w':World):Prop:=Up w w'/\∃v,e=.returned v/\av (fun b=>S b\/w.heap.size<=b) w' v (bM acw)
theorem RS (acw:List ByteArray) (pre:List Dv) (x:Dv):k7 acw (pre++[x])=k7 acw pre++CG acw x.1:=by
 unfold k7;rw [cm,qh];simp
def qQ (acw:List ByteArray) (bits n:Nat):List ByteArray:=((bM (dA acw bits)).take n).flatMap fun s=>(bM (dB acw bits)).map fun t=>pairT s t
theorem RU (acw:List ByteArray) (bits:Nat) {n:Nat} (h:n<(bM (dA acw bits)).length):qQ acw bits (n+1)=qQ acw bits n++(bM (dB acw bits)).map fun t=>pairT (gs (bM (dA acw bits)) n) t:=by
 have hg:gs (bM (dA acw bits)) n=(bM (dA acw bits))[n]:=by simp [gs,h]
 unfold qQ;rw [jo h,qh,hg];simp
theorem Uw (acw:List ByteArray) (bits:Nat):qQ acw bits (bM (dA acw bits)).length=CG acw bits:=by unfold qQ CG;rw [eT]
theorem RV:∀(d:Nat) (acw:List ByteArray),acw.length<=d->1<=acw.length->acw.length<=4->(∀x∈acw,x.size<=20)->∀(S:Nat->Prop) (w:World) (v:Value),av S w v acw->Calls Tryz.prog 120 #[v] w (Dw S w acw):=by
 intro d
 induction d with
 | zero=>intro acw h1 h2;omega
 | succ d ih =>
 intro acw hd h1 h4 hz S w v h;obtain ⟨mp,mc,rfl,-,-⟩:=aA.open h;have h:av S w (.slice mp acw.length mc) acw:=h;by_cases hone:acw.length=1
 ·have d1:((acw.length:Int)==1)=true:=by rw [hone];rfl
  have hrt:bM acw=acw:=by obtain ⟨x,rfl⟩:=List.length_eq_one_iff.1 hone;exact Us x
  have HX:Hid (Dw S w acw (.returned (.slice mp acw.length mc)) w):=⟨Up.refl _,_,rfl,by rw [hrt];exact h.sub fun b hb _=>.inl hb⟩;clear h hrt hone ih
  go_enter Tryz.func120,Tryz.ntmps120
  go_wp2_with fail;go_ret;exact HX.out
 have d1:((acw.length:Int)==1)=false:=beq_eq_false_iff_ne.2 (by omega);have h2:2<=acw.length:=by omega
 have kD:=aa ih;have HH:=aa h;have HZ:=aa hz;have HD:=aa hd;clear ih h hz hd h1 hone;refine (callsIn_wide (n:=9)).1 ?_;refine callsIn_of_wp_marks Tryz.func120 rfl trivial ?_;simp only [Tryz.ntmps120,fo,aO,dz,Nat.reduceAdd,Nat.reduceSub,ic,ig,fk,wC,cw,bz];have hb1:=blk_alloc_new w (.cells #[.slice none 0 0] 22);have bw:=Up.alloc w (.cells #[.slice none 0 0] 22)
 have hs1:(w.alloc (.cells #[.slice none 0 0] 22)).heap.size=w.heap.size+1:=by simp
 have gT:=aa hb1;have b9:=aa bw;have ni:=aa hs1;clear hb1 bw hs1;gi_wp2_with fail;generalize w.alloc (.cells #[.slice none 0 0] 22)=w1 at *;refine ⟨trivial,(callsIn_wide.2 (JO w1 _ _ _)).mono ?_⟩;rintro e w9 ⟨rfl,Tr⟩;have uH:Up w1 w9:=by rw [Tr];exact Up.alloc _ _
 have KW:w9.heap.size=w1.heap.size+1:=by rw [Tr];simp
 have KX:=yu w1 (.slice mp acw.length mc) 22;rw [<- Tr] at KX;have IQ:av Any w (.slice mp acw.length mc) acw:=HH.out.sub fun _ _ _=>trivial
 have hseq:=RR (w0:=w) (w9:=w9) (Bt:=w1.heap.size) (N:=8) 8 h2 h4 (by rw [ni.out];omega) KX IQ (by
  have:2 ^ (acw.length - 1)<=2 ^ 3:=x9 (by decide) (by omega)
  omega)
 have hI0:xV w acw [] (fun b=>b=w1.heap.size) w9:=⟨b9.out.trans uH,by rw [KW,ni.out];omega,fun b hb=>by rw [hb,ni.out];omega,by rw [ni.out];omega,.slice none 0 0,(bH uH _ (by rw [ni.out];omega)).trans gT.out,ax.nil _ _ _,fun g hg=>by cases hg⟩;have H9:Hid (w9.heap.size=w.heap.size+2):=by unfold Hid;rw [KW,ni.out]
 have acs:=aa ni.out;clear Tr uH KW KX IQ gT;gi_wp2_with fail;apply JL (F:=Fence.wide) (n:=9) (P:=Tryz.prog) (ps:=#[17,18]) (w:=w9) rfl (by omega) (gf:=215) (lb:=#[.pointer (some ⟨w1.heap.size,0,none⟩)]) rfl trivial (enters_of Tryz.func215 (by kernel_rfl) rfl)
  hseq (fun b hb=>by have:=H9.out;have:=ni.out;omega) (fun x L W b h1 h2=>h2.elim) hI0.up (fun _=>rfl) (fun x L=>Uv x L)
  (xV w acw) xV.ab (xV.own (by have:=H9.out;omega)) hI0
 ·intro l x W K hK
  gi_wp2_with (rw [ou _ _ _ (fun c h=>by cases h)];go_simp;try go_bits);exact hK
 ·rintro l pre ⟨bits,va,vb⟩ L W hI hG lD KG hlen
  obtain ⟨⟨g1,g2⟩,ga,gb⟩:=hG;dsimp only at g1 g2 ga gb;obtain ⟨l1,l2,l3,l4⟩:=Mv h2 g1 g2;have hma:=(Mw (L:=acw) (bits:=bits) (by omega)).1;have hmb:=(Mw (L:=acw) (bits:=bits) (by omega)).2;have IV:∀x∈dA acw bits,x.size<=20:=fun x hx=>HZ.out x (hma x hx);have hzb:∀x∈dB acw bits,x.size<=20:=fun x hx=>HZ.out x (hmb x hx);have yO:Hid ((bM (dA acw bits)).length<=15/\∀k,(gs (bM (dA acw bits)) k).size<=100):=⟨sg (by omega),iL fun x hx=>xA (by omega) IV hx⟩
  have Ch:Hid ((bM (dB acw bits)).length<=15/\∀k,(gs (bM (dB acw bits)) k).size<=100):=⟨sg (by omega),iL fun x hx=>xA (by omega) hzb hx⟩;have hpf:(k7 acw pre).length<=8*225:=by unfold k7;(have h1:=nK (f:=CG acw) (K:=225) (pre.map (·.1)) fun b _=>by have p1:=kE (fun i=>!b.testBit i) acw.tail (acw.length - 1);have p2:=kE (fun i=>b.testBit i) acw.tail (acw.length - 1);exact Uu (by unfold dA;simp only [aO];omega) (by unfold dB;omega));rw [aD] at h1;exact aR h1 (qA _ (by omega))
  have XX:=aa hpf;have jK:=aa (kD.out (dB acw bits) (by have:=HD.out;omega) l4 (by omega) hzb L W vb gb);have CE:Hid (∀W1,Up W W1->Calls Tryz.prog 120 #[va] W1 (Dw L W1 (dA acw bits))):=fun W1 hW=>kD.out (dA acw bits) (by have:=HD.out;omega) l2 (by omega) IV L W1 va (av.keep ga (hW.kept _));have HI:=aa hI;have fN:Hid (∀b,L b->b<W.heap.size):=fun b hb=>(KG b hb).2;clear hI ga gb lD KG hlen hma hmb IV hzb l1 l2 l3 l4 g1 g2 hpf hseq hI0;dsimp only;gi_wp2_with (rw [ou _ _ _ (fun c h=>by cases h)];go_simp;try go_bits)
  refine ⟨trivial,(callsIn_wide.2 jK.out).mono ?_⟩;rintro e W1 ⟨bw,sb,rfl,o8⟩;have E4:=aa bw;clear bw jK;gi_wp2_with (rw [ou _ _ _ (fun c h=>by cases h)];go_simp;try go_bits);refine ⟨trivial,(callsIn_wide.2 (CE.out W1 E4.out)).mono ?_⟩;rintro e W2 ⟨aJ,sa,rfl,vK⟩;have hs1:=E4.out.size;have hs2:=aJ.size;have ct:Hid (av (fun b=>L b\/(W.heap.size<=b/\b<W2.heap.size)) W2 sb (bM (dB acw bits))):=(av.keep o8 (aJ.kept _)).sub fun b hb hl=>hb.imp id fun e=>⟨e,hl⟩
  have jN:Hid (av (fun b=>L b\/(W.heap.size<=b/\b<W2.heap.size)) W2 sa (bM (dA acw bits))):=vK.sub fun b hb hl=>hb.imp id fun e=>⟨by omega,hl⟩;have bY:=aa (E4.out.trans aJ);obtain ⟨ov0,hR0⟩:=HI.out.start (B:=w9.heap.size) bY.out;have CC:=aa hR0;obtain ⟨ap,ac,rfl,-,-⟩:=aA.open jN.out;obtain ⟨bp,bc,rfl,-,-⟩:=aA.open ct.out;have jN:Hid (av (fun b=>L b\/(W.heap.size<=b/\b<W2.heap.size)) W2 (.slice ap (bM (dA acw bits)).length ac) (bM (dA acw bits))):=jN.out
  have ct:Hid (av (fun b=>L b\/(W.heap.size<=b/\b<W2.heap.size)) W2 (.slice bp (bM (dB acw bits)).length bc) (bM (dB acw bits))):=ct.out;have Pa:Hid (w.heap.size<W.heap.size/\¬L w.heap.size/\w.heap.size<w9.heap.size/\∀b,L b->b<W2.heap.size):=⟨HI.out.sz,HI.out.nL,by have:=H9.out;omega,fun b hb=>by have:=fN.out b hb;omega⟩;have GG:Hid (k7 acw pre=k7 acw pre++qQ acw bits 0):=by unfold Hid qQ;simp
  rw [GG.out] at CC;clear aJ vK o8 hs1 hs2 hR0 CE E4 GG;gi_wp2_with (rw [ou _ _ _ (fun c h=>by cases h)];go_simp;try go_bits)
  gi_loopw [8,10,24] (fun _ _ i wr=>∃(n:Nat) (ov:Value),n<=(bM (dA acw bits)).length/\i=.int .i64 n/\Hid (xW w L W W2 w9.heap.size wr ov (k7 acw pre++qQ acw bits n))) (fun _ _ i _=>(bM (dA acw bits)).length - (intOf i).toNat)
  case atStart=>exact ⟨0,_,aI _,rfl,CC.out⟩
  case round =>
   obtain ⟨n,ov,hn,rfl,hR⟩:=hrel;obtain ⟨wo,rfl⟩:∃wo:World,wo=wr:=⟨_,rfl⟩;(have i0:(0:Int)<=(n:Int):=by omega);by_cases hlt:n<(bM (dA acw bits)).length
   ·obtain ⟨ab,ao,rfl,hca⟩:=cA (av.keep jN.out hR.out.kept) hlt
    (have i1:(n:Int)<((bM (dA acw bits)).length:Int):=by omega);(have i2:(n:Int)<16:=by have:=yO.out.1;omega);have bG:=aa hlt;have NW:=aa (RU acw bits hlt);have HR:=aa hR.out;have HZN:Hid ((gs (bM (dA acw bits)) n).size<=100):=yO.out.2 n;generalize gs (bM (dA acw bits)) n=sn at *;clear hR hlt;gi_wp2_with (rw [ou _ _ _ (fun c h=>by cases h)];go_simp;try go_bits)
    gi_loopw [10,30] (fun _ i wr=>∃(m:Nat) (ov:Value),m<=(bM (dB acw bits)).length/\i=.int .i64 m/\Hid (xW w L W W2 w9.heap.size wr ov ((k7 acw pre++qQ acw bits n)++((bM (dB acw bits)).take m).map fun t=>pairT sn t))) (fun _ i _=>(bM (dB acw bits)).length - (intOf i).toNat)
    case atStart=>exact ⟨0,_,aI _,rfl,by rw [List.take_zero,List.map_nil,fM];exact HR.out⟩
    case round =>
     obtain ⟨m,ov2,hm,rfl,DU⟩:=hrel;obtain ⟨wi,rfl⟩:∃wi:World,wi=wr:=⟨_,rfl⟩;(have j0:(0:Int)<=(m:Int):=by omega);by_cases hlm:m<(bM (dB acw bits)).length
     ·obtain ⟨bb,bo,rfl,hcb⟩:=cA (av.keep ct.out DU.out.kept) hlm
      (have j1:(m:Int)<((bM (dB acw bits)).length:Int):=by omega);(have j2:(m:Int)<16:=by have:=Ch.out.1;omega);have IW:=aa hlm;have E1:=aa DU.out;have mV:=DU.out.cells.1;(have lK:Hid (((bM (dB acw bits)).take (m+1)).map (fun t=>pairT sn t)=((bM (dB acw bits)).take m).map (fun t=>pairT sn t)++[pairT sn (gs (bM (dB acw bits)) m)]):=by unfold Hid;rw [jo hlm,cm];simp [gs,hlm]);have z1:=HZN.out;have z2:(gs (bM (dB acw bits)) m).size<=100:=Ch.out.2 m
      have nR:Hid ((((k7 acw pre++qQ acw bits n)++((bM (dB acw bits)).take m).map fun t=>pairT sn t).map Value.string).length<=1000000):=by have h1:=XX.out;have h2:=Ch.out.1;have h3:=yO.out.1;(have h4:(qQ acw bits n).length<=15*15:=by unfold qQ;(have q:=nK (f:=fun s=>(bM (dB acw bits)).map fun t=>pairT s t) (K:=15) ((bM (dA acw bits)).take n) fun s _=>by rw [aD];exact h2);rw [dD] at q;exact aR q (qA _ (by omega)));unfold Hid;simp only [aD,bg,dD];omega
      generalize gs (bM (dB acw bits)) m=tm at *;obtain ⟨T,hT⟩:∃T,T=(k7 acw pre++qQ acw bits n)++((bM (dB acw bits)).take m).map fun t=>pairT sn t:=⟨_,rfl⟩;rw [<- hT] at E1 nR;(have HT:Hid ((k7 acw pre++qQ acw bits n)++((bM (dB acw bits)).take (m+1)).map (fun t=>pairT sn t)=T++[pairT sn tm]):=by unfold Hid;rw [lK.out,<- bZ,<- hT]);obtain ⟨oq,oc,IX,-⟩:=E1.out.own.form (n:=T.length) (by simp);subst IX;have OI:Hid (w9.heap.size<=w9.heap.size/\w.heap.size+1<=wi.heap.size):=⟨ah _,by have h1:=E1.out.size;have h2:=bY.out.size;have h3:=Pa.out.1;omega⟩
      clear DU hlm hm hT lK
      gi_wp2_with (first
       | (gi_at_builtin;refine ru wi rfl _ _ 22 rfl (w.heap.size+1) 9 (.string ⟨#[]⟩) 16 Tryz.underlying22 Tryz.jF rfl (by decide) E1.out.own rfl _ rfl rfl T.length (aD _) (by have h:=nR.out;rw [aD] at h;exact h) OI.out.2 ?_;intro g8 jl w8 dJ eN iV;obtain ⟨⟨Xc,hf8⟩,hP8⟩:=E1.out.push (s:=pairT sn tm) Pa.out.1 Pa.out.2.1 (fun b hb=>mm (Pa.out.2.2.2 b hb) E1.out.size) Pa.out.2.2.1 dJ eN iV;have Xj:=aa hP8;clear dJ eN iV hP8)
       | (rw [ou _ _ _ (fun c h=>by cases h)];go_simp;try go_bits))
      go_roundw
      case rel=>exact ⟨m+1,_,IW.out,by go_num,by rw [HT.out];exact Xj.out⟩
      case measure=>have:=IW.out;simp [intOf];omega
     ·obtain rfl:m=(bM (dB acw bits)).length:=by omega
      (have HKE:Hid (k7 acw pre++qQ acw bits (n+1)=(k7 acw pre++qQ acw bits n)++((bM (dB acw bits)).take (bM (dB acw bits)).length).map fun t=>pairT sn t):=by unfold Hid;rw [NW.out,eT,bZ]);gi_wp2_with (rw [ou _ _ _ (fun c h=>by cases h)];go_simp;try go_bits)
      go_roundw
      case rel=>exact ⟨n+1,_,bG.out,by go_num,by rw [HKE.out];exact DU.out⟩
      case measure=>have:=bG.out;simp [intOf];omega
   ·obtain rfl:n=(bM (dA acw bits)).length:=by omega
    (have Co:Hid (k7 acw pre++qQ acw bits (bM (dA acw bits)).length=k7 acw (pre++[(bits,va,vb)])):=by unfold Hid;rw [Uw,RS]);gi_wp2_with (rw [ou _ _ _ (fun c h=>by cases h)];go_simp;try go_bits);exact hR.out.fin HI.out bY.out fN.out Co.out
 ·intro D xs L W hD hS hI hK
  obtain ⟨ov,e1,e2,e3⟩:=hI.ex;obtain ⟨oq,oc,rfl,-⟩:=e2.form (n:=(k7 acw xs).length) (by simp);have V0:W.cell? ⟨w.heap.size,0,none⟩=some (.slice oq (k7 acw xs).length oc):=by simp [World.cell?,e1]
  have HK:=aa hK;have Pb:=aa e2;have HI:=aa hI;have HT:Hid (k7 acw xs=bM acw):=by unfold Hid k7;rw [hS,XQ h2]
  clear e1 e2 e3 hI hS hK hseq hI0;gi_wp2_with fail;have hq:∀b,b≠D->(W.putObj D (.deferred none)).heap[b]? = W.heap[b]?:=fun b hb=>kU hb;have hu:=HI.out.up;have h9:=H9.out;have hne:∀b,(Value.slice oq (k7 acw xs).length oc).ownBlock=some b->b≠D:=fun b hb e=>by subst e;obtain ⟨c,h10⟩:=ax.Ib Pb.out hb;rw [HK.out] at h10;injection h10 with h10;cases h10
  refine ⟨by simp,.inl ⟨_,_,rfl,run_takeDeferred HK.out,?_⟩⟩;refine ⟨.slice oq (k7 acw xs).length oc,by simp [results,Tryz.results120,go_sem],⟨hu.os,hu.tape,hu.output,by have h:=hu.size;simpa using h,fun b hb=>(hq b (by omega)).trans (hu.block b hb)⟩,_,rfl,?_⟩;have h3:=Pb.out.iC fun b hb=>hq b (hne b hb);rw [<- HT.out];exact h3.strs.sub fun b hb _=>.inr (by omega)
end Go.Proofs.YthgabkgmkolobaaGreat
namespace Go.Proofs
open Go.Shelf
def Tryz.sortEnt_ren:Go.Shelf.Ren:=⟨fun | 6=>122 | 15=>127 | 14=>167 | 28=>181 | 29=>182 | 20=>221 | 21=>222 | 22=>223 | 23=>224 | 24=>225 | 25=>226 | 26=>227 | 27=>228 | 46=>265 | 47=>235 | 48=>236 | 49=>266 | 50=>267 | 57=>278 | n=>n,fun | 22=>91 | 24=>96 | 25=>150 | 3=>3 | 39=>154 | 0=>0 | 53=>191 | 55=>193 | 4=>4 | 46=>183 | 45=>182 | 50=>188 | 5=>5 | 9=>9 | 66=>238 | 70=>242 | 76=>267 | 77=>177 | n=>n,fun | n=>n⟩
theorem Tryz.sortEnt:Go.Proofs.SlLaysF0.n6 Tryz.prog Tryz.sortEnt_ren:={
 mixed:=by kernel_rfl
 f6:=⟨Tryz.f122.name,by decide,Tryz.func122.trans (congrArg some (by kernel_rfl))⟩
 f14:=⟨Tryz.f167.name,by decide,Tryz.func167.trans (congrArg some (by kernel_rfl))⟩
 f15:=Tryz.func127.trans (congrArg some (by kernel_rfl))
 f20:=⟨Tryz.f221.name,by decide,Tryz.func221.trans (congrArg some (by kernel_rfl))⟩
 f21:=⟨Tryz.f222.name,by decide,Tryz.func222.trans (congrArg some (by kernel_rfl))⟩
 f22:=⟨Tryz.f223.name,by decide,Tryz.func223.trans (congrArg some (by kernel_rfl))⟩
 f23:=⟨Tryz.f224.name,by decide,Tryz.func224.trans (congrArg some (by kernel_rfl))⟩
 f24:=⟨Tryz.f225.name,by decide,Tryz.func225.trans (congrArg some (by kernel_rfl))⟩
 f25:=⟨Tryz.f226.name,by decide,Tryz.func226.trans (congrArg some (by kernel_rfl))⟩
 f26:=⟨Tryz.f227.name,by decide,Tryz.func227.trans (congrArg some (by kernel_rfl))⟩
 f27:=⟨Tryz.f228.name,by decide,Tryz.func228.trans (congrArg some (by kernel_rfl))⟩
 f28:=Tryz.func181.trans (congrArg some (by kernel_rfl))
 f29:=Tryz.func182.trans (congrArg some (by kernel_rfl))
 f46:=⟨Tryz.f265.name,by decide,Tryz.func265.trans (congrArg some (by kernel_rfl))⟩
 f47:=Tryz.func235.trans (congrArg some (by kernel_rfl))
 f48:=Tryz.func236.trans (congrArg some (by kernel_rfl))
 f49:=⟨Tryz.f266.name,by decide,Tryz.func266.trans (congrArg some (by kernel_rfl))⟩
 f50:=⟨Tryz.f267.name,by decide,Tryz.func267.trans (congrArg some (by kernel_rfl))⟩
 f57:=⟨Tryz.f278.name,by decide,Tryz.func278.trans (congrArg some (by kernel_rfl))⟩
 t0:=Tryz.underlying0
 a0:=Tryz.isAgg0
 z0:=Tryz.sizeOf0
 v0:=Tryz.zeroValue0
 t3:=Tryz.underlying3
 a3:=Tryz.isAgg3
 z3:=Tryz.sizeOf3
 v3:=Tryz.zeroValue3
 t4:=Tryz.underlying4
 a4:=Tryz.isAgg4
 z4:=Tryz.sizeOf4
 v4:=Tryz.zeroValue4
 t5:=Tryz.underlying5
 a5:=Tryz.isAgg5
 z5:=Tryz.sizeOf5
 v5:=Tryz.zeroValue5
 t9:=Tryz.underlying9
 a9:=Tryz.isAgg9
 z9:=Tryz.sizeOf9
 v9:=Tryz.zeroValue9
 t22:=Tryz.underlying91
 a22:=Tryz.isAgg91
 z22:=Tryz.sizeOf91
 v22:=Tryz.zeroValue91
 t25:=Tryz.underlying150
 a25:=Tryz.isAgg150
 z25:=Tryz.sizeOf150
 v25:=Tryz.zeroValue150
 t39:=Tryz.underlying154
 a39:=Tryz.isAgg154
 z39:=Tryz.sizeOf154
 v39:=Tryz.zeroValue154
 t45:=Tryz.underlying182
 a45:=Tryz.isAgg182
 z45:=Tryz.sizeOf182
 v45:=Tryz.zeroValue182
 t46:=Tryz.underlying183
 a46:=Tryz.isAgg183
 z46:=Tryz.sizeOf183
 v46:=Tryz.zeroValue183
 t50:=Tryz.underlying188
 a50:=Tryz.isAgg188
 z50:=Tryz.sizeOf188
 v50:=Tryz.zeroValue188
 t53:=Tryz.underlying191
 a53:=Tryz.isAgg191
 z53:=Tryz.sizeOf191
 v53:=Tryz.zeroValue191
 t55:=Tryz.underlying193
 a55:=Tryz.isAgg193
 z55:=Tryz.sizeOf193
 v55:=Tryz.zeroValue193
 t66:=Tryz.underlying238
 a66:=Tryz.isAgg238
 z66:=Tryz.sizeOf238
 v66:=Tryz.zeroValue238
 t70:=Tryz.underlying242
 a70:=Tryz.isAgg242
 z70:=Tryz.sizeOf242
 v70:=Tryz.zeroValue242
 t76:=Tryz.underlying267
 a76:=Tryz.isAgg267
 z76:=Tryz.sizeOf267
 v76:=Tryz.zeroValue267
 t77:=Tryz.underlying177
 a77:=Tryz.isAgg177
 z77:=Tryz.sizeOf177
 v77:=Tryz.zeroValue177 }
end Go.Proofs
