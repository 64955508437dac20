/- optimaltree.rooted: the texts of all rooted binary trees. -/
import Derived.Test.YtfomhlbhcifgbaaGreatDoorQ35
set_option maxRecDepth 100000
set_option maxHeartbeats 8000000
namespace Go.Proofs.YtfomhlbhcifgbaaGreatDoor
open Go.RowKit Go.Shelf Go.Deep Go.Sort
def ku (acF:List ByteArray) (pre:List Dv):List ByteArray:=(pre.map (·.1)).flatMap (B1 acF)
structure wX (w:World) (acF:List ByteArray) (pre:List Dv) (L:Nat->Prop) (W:World):Prop where
 up:Up w W
 sz:w.heap.size+1<=W.heap.size
 lo:∀b,L b->w.heap.size<=b
 nL:¬L w.heap.size
 ex:∃ov,W.heap[w.heap.size]? = some (Obj.cells #[ov] 22 (0,0))/\au (w.heap.size+1) 9 W ov ((ku acF pre).map Value.string)/\∀g,ov.ownBlock=some g->¬L g
section
variable {w:World} {acF:List ByteArray}
theorem wX.ab:DJ (wX w acF):=by
 rintro s L L' W W' h hs;obtain ⟨ov,h1,h2,h7⟩:=h.ex;have hsz:=h.sz;have hnl:∀b,b<W.heap.size->¬L b->¬L' b:=fun b hb hn hb'=>by
  rcases hs.more b hb' with e | e
  ·exact hn e.1
  ·omega
 refine ⟨⟨hs.os.trans h.up.os,hs.tape.trans h.up.tape,hs.output.trans h.up.output,aV h.up.size hs.size,fun b hb=>(hs.block b (by omega) fun e=>by have:=h.lo b e;omega).trans (h.up.block b hb)⟩,by have:=hs.size;omega,fun b hb=>?_,hnl _ (by omega) h.nL,
  ov,(hs.block _ (by omega) h.nL).trans h1,au.SZ h2 fun b hb=>hs.block b (az h2 hb).2 (h7 b hb),fun g hg=>hnl g (az h2 hg).2 (h7 g hg)⟩
 rcases hs.more b hb with e | e
 ·exact h.lo b e.1
 ·omega
theorem wX.own {B:Nat} (hB:w.heap.size+1<=B) (L:Nat->Prop):OwnFrom B (fun s W=>wX w acF s L W):=by
 intro s X Y row h hg hr;obtain ⟨ov,h1,h2,h7⟩:=h.ex;have hsz:=h.sz;have AB:∀b,b<w.heap.size+1->Y.heap[b]? = X.heap[b]?:=fun b hb=>hg.block b (by omega) fun e=>by have:=(hr b e.symm).1;omega
 refine ⟨⟨hg.os.trans h.up.os,hg.tape.trans h.up.tape,hg.output.trans h.up.output,aV h.up.size hg.size,fun b hb=>(AB b (by omega)).trans (h.up.block b hb)⟩,by have:=hg.size;omega,h.lo,h.nL,ov,(AB _ (by omega)).trans h1,
  au.SZ h2 fun b hb=>hg.block b (az h2 hb).2 fun e=>?_,h7⟩
 obtain ⟨_,o,h8,h9⟩:=hr b e.symm;obtain ⟨c,h10⟩:=au.F8 h2 hb;rw [h10] at h8;injection h8 with h8;subst h8;cases h9
end
structure wY (w:World) (L:Nat->Prop) (W W2:World) (B:Nat) (wr:World) (ov:Value) (T:List ByteArray):Prop where
 up:Up w wr
 size:W2.heap.size<=wr.heap.size
 keep:∀b,(L b\/(W.heap.size<=b/\b<W2.heap.size))->wr.heap[b]? = W2.heap[b]?
 kf:∀k o,B<=k->W.heap[k]? = some o->o.isCells=false->wr.heap[k]? = some o
 box:wr.heap[w.heap.size]? = some (Obj.cells #[ov] 22 (0,0))
 own:au (w.heap.size+1) 9 wr ov (T.map Value.string)
 nL:∀g,ov.ownBlock=some g->¬L g/\(g<W.heap.size\/W2.heap.size<=g)
section
variable {w W W2 wr X:World} {acF:List ByteArray} {L:Nat->Prop} {B:Nat} {ov:Value} {T:List ByteArray} {s:ByteArray} {g cap k:Nat} {pre:List Dv} {x:Dv}
theorem wX.start (h:wX w acF pre L W) (hu:Up W W2):∃ov,wY w L W W2 B W2 ov (ku acF pre):=by
 obtain ⟨ov,h1,h2,h7⟩:=h.ex;have hsz:=h.sz;exact ⟨ov,⟨h.up.trans hu,aj _,fun _ _=>rfl,fun k o _ hk _=>(aO hu k (bq.1 hk).1).trans hk,(aO hu _ (by omega)).trans h1,h2.fE fun b hb=>aO hu b (az h2 hb).2,fun g hg=>⟨h7 g hg,.inl (az h2 hg).2⟩⟩⟩
theorem wY.cells (h:wY w L W W2 B wr ov T):wr.cell? ⟨w.heap.size,0,none⟩=some ov/\wr.frozen? ⟨w.heap.size,0,none⟩=false:=by
 refine ⟨?_,?_⟩<;>simp [World.cell?,World.frozen?,h.box]
theorem wY.kept (h:wY w L W W2 B wr ov T):Kept (fun b=>L b\/(W.heap.size<=b/\b<W2.heap.size)) W2 wr:=fun b hb _=>h.keep b hb
theorem wY.push (h:wY w L W W2 B wr ov T) (hw:w.heap.size<W.heap.size) (Gk:¬L w.heap.size) (hL:∀b,L b->b<wr.heap.size) (hB:w.heap.size<B) (ho:au (w.heap.size+1) 9 X (.slice (some ⟨g,0,none⟩) k cap) (T.map Value.string++[.string s])) (hg:wr.grownBy X ov.ownBlock) (dr:ov.ownBlock=some g\/wr.heap.size<=g) :
  (X.cell? ⟨w.heap.size,0,none⟩=some ov/\X.frozen? ⟨w.heap.size,0,none⟩=false)/\wY w L W W2 B (X.setCell ⟨w.heap.size,0,none⟩ (.slice (some ⟨g,0,none⟩) k cap)) (.slice (some ⟨g,0,none⟩) k cap) (T++[s]):=by
 have SN:∀q,ov.ownBlock=some q->w.heap.size+1<=q/\q<wr.heap.size:=fun q hq=>az h.own hq;have hbl:w.heap.size<wr.heap.size:=(bq.1 h.box).1;have jE:X.heap[w.heap.size]? = some (Obj.cells #[ov] 22 (0,0)):=(hg.block _ hbl fun e=>by have:=(SN _ e.symm).1;omega).trans h.box;have cZ:∀b,b≠w.heap.size->(X.setCell ⟨w.heap.size,0,none⟩ (.slice (some ⟨g,0,none⟩) k cap)).heap[b]? = X.heap[b]?:=fun b hb=>blk_setCell_other _ _ _ _ hb;have hsz:(X.setCell ⟨w.heap.size,0,none⟩ (.slice (some ⟨g,0,none⟩) k cap)).heap.size=X.heap.size:=by simp [World.size_setCell]
 refine ⟨by constructor<;>simp [World.cell?,World.frozen?,jE],⟨hg.os.trans h.up.os,hg.tape.trans h.up.tape,hg.output.trans h.up.output,by rw [hsz];exact aV h.up.size hg.size,fun b hb=>?_⟩,by rw [hsz];exact aV h.size hg.size,fun b hb=>?_,fun q o hq hk hc=>?_,by simp [World.setCell,Array.getElem?_modify,jE],?_,fun q hq=>?_⟩
 ·rw [cZ b (by omega)]
  exact (hg.block b (by omega) fun e=>by have:=(SN _ e.symm).1;omega).trans (h.up.block b hb)
 ·have hne:b≠w.heap.size:=fun e=>by
   subst e
   rcases hb with hb | hb
   ·exact Gk hb
   ·omega
  rw [cZ b hne]
  refine (hg.block b ?_ fun e=>?_).trans (h.keep b hb)
  ·rcases hb with hb | hb
   ·exact hL b hb
   ·have:=h.size;omega
  ·obtain ⟨n1,n2⟩:=h.nL b e.symm
   rcases hb with hb | hb
   ·exact n1 hb
   ·omega
 ·have h1:=h.kf q o hq hk hc
  rw [cZ q (by omega)];refine (hg.block q (bq.1 h1).1 fun e=>?_).trans h1;obtain ⟨c,h10⟩:=au.F8 h.own e.symm;rw [h1] at h10;injection h10 with h10;subst h10;cases hc
 ·rw [cm]
  exact ho.fE fun b hb=>cZ b (by have:=(az ho hb).1;omega)
 ·have hq:some g=some q:=hq
  injection hq with hq;subst hq;rcases dr with e | e
  ·exact h.nL g e
  ·exact ⟨fun hl=>by have:=hL g hl;omega,.inr (aV h.size e)⟩
theorem wY.fin (h0:wX w acF pre L W) (hu:Up W W2) (hL:∀b,L b->b<W.heap.size) (h:wY w L W W2 B wr ov T) (hT:T=ku acF (pre++[x])) :
  KeepsFrom B W wr/\Below w.heap.size w wr/\(∀b,(L b\/False)->wr.heap[b]? = W.heap[b]?)/\wX w acF (pre++[x]) L wr:=by
 have hs:=hu.size;have hs2:=h.size;have hs0:=h0.sz;refine ⟨⟨aV hs hs2,h.kf⟩,h.up,fun b hb=>?_,h.up,by omega,h0.lo,h0.nL,ov,h.box,by rw [<- hT];exact h.own,fun g hg=>(h.nL g hg).1⟩;have hb:L b:=hb.resolve_right id;exact (h.keep b (.inl hb)).trans (aO hu b (hL b hb))
end
def De (S:Nat->Prop) (w:World) (acF:List ByteArray) (e:Ending) (w':World):Prop:=Up w w'/\∃v,e=.returned v/\aC (fun b=>S b\/w.heap.size<=b) w' v (bK acF)
theorem RG (acF:List ByteArray) (pre:List Dv) (x:Dv):ku acF (pre++[x])=ku acF pre++B1 acF x.1:=by
 unfold ku;rw [cm,o9];simp
def qg (acF:List ByteArray) (bits n:Nat):List ByteArray:=((bK (dA acF bits)).take n).flatMap fun s=>(bK (dB acF bits)).map fun t=>pairT s t
theorem RH (acF:List ByteArray) (bits:Nat) {n:Nat} (h:n<(bK (dA acF bits)).length):qg acF bits (n+1)=qg acF bits n++(bK (dB acF bits)).map fun t=>pairT (gs (bK (dA acF bits)) n) t:=by
 have hg:gs (bK (dA acF bits)) n=(bK (dA acF bits))[n]:=by simp [gs,h]
 unfold qg;rw [iL h,o9,hg];simp
theorem UT (acF:List ByteArray) (bits:Nat):qg acF bits (bK (dA acF bits)).length=B1 acF bits:=by unfold qg B1;rw [gq]
theorem RI:∀(d:Nat) (acF:List ByteArray),acF.length<=d->1<=acF.length->acF.length<=4->(∀x∈acF,x.size<=20)->∀(S:Nat->Prop) (w:World) (v:Value),aC S w v acF->Calls Tryz.prog 42 #[v] w (De S w acF):=by
 intro d
 induction d with
 | zero=>intro acF h1 h2;omega
 | succ d ih =>
 intro acF hd h1 h4 hz S w v h;obtain ⟨mp,mc,rfl,-,-⟩:=aB.open h;have h:aC S w (.slice mp acF.length mc) acF:=h;by_cases hone:acF.length=1
 ·have d1:((acF.length:Int)==1)=true:=by rw [hone];rfl
  have hrt:bK acF=acF:=by obtain ⟨x,rfl⟩:=List.length_eq_one_iff.1 hone;exact UI x
  have HX:Hid (De S w acF (.returned (.slice mp acF.length mc)) w):=⟨Up.refl _,_,rfl,by rw [hrt];exact h.sub fun b hb _=>.inl hb⟩;clear h hrt hone ih;go_in;go_wp2;go_ret;exact HX.out
 have d1:((acF.length:Int)==1)=false:=beq_eq_false_iff_ne.2 (by omega);have h2:2<=acF.length:=by omega
 have tr:=aa ih;have HH:=aa h;have HZ:=aa hz;have HD:=aa hd;clear ih h hz hd h1 hone;refine (callsIn_wide (n:=9)).1 ?_;refine callsIn_of_wp_marks Tryz.func42 rfl trivial ?_;simp only [Tryz.ntmps42,gI,bB,eW,Nat.reduceAdd,Nat.reduceSub,jL,jM,gH,qI,dz,cw];have hb1:=blk_alloc_new w (.cells #[.slice none 0 0] 22);have aM:=Up.alloc w (.cells #[.slice none 0 0] 22)
 have hs1:(w.alloc (.cells #[.slice none 0 0] 22)).heap.size=w.heap.size+1:=by simp
 have qE:=aa hb1;have bU:=aa aM;have jB:=aa hs1;clear hb1 aM hs1;gi_wp2_with fail;generalize w.alloc (.cells #[.slice none 0 0] 22)=w1 at *;refine ⟨trivial,(callsIn_wide.2 (Ju w1 _ _ _)).mono ?_⟩;rintro e w9 ⟨rfl,Cb⟩;have jD:Up w1 w9:=by rw [Cb];exact Up.alloc _ _
 have zS:w9.heap.size=w1.heap.size+1:=by rw [Cb];simp
 have zT:=mE w1 (.slice mp acF.length mc) 22;rw [<- Cb] at zT;have Im:aC Any w (.slice mp acF.length mc) acF:=HH.out.sub fun _ _ _=>trivial
 have hseq:=RA (w0:=w) (w9:=w9) (Bt:=w1.heap.size) (N:=8) 8 h2 h4 (by rw [jB.out];omega) zT Im (by
  have:2 ^ (acF.length - 1)<=2 ^ 3:=Nat.pow_le_pow_right (by decide) (by omega)
  omega)
 have hI0:wX w acF [] (fun b=>b=w1.heap.size) w9:=⟨bU.out.trans jD,by rw [zS,jB.out];omega,fun b hb=>by rw [hb,jB.out];omega,by rw [jB.out];omega,.slice none 0 0,(aO jD _ (by rw [jB.out];omega)).trans qE.out,au.nil _ _ _,fun g hg=>by cases hg⟩;have H9:Hid (w9.heap.size=w.heap.size+2):=by unfold Hid;rw [zS,jB.out]
 have acC:=aa jB.out;clear Cb jD zS zT Im qE;gi_wp2_with fail;apply Jf (F:=Fence.wide) (n:=9) (P:=Tryz.prog) (ps:=#[17,18]) (w:=w9) rfl (by omega) (gf:=110) (lb:=#[.pointer (some ⟨w1.heap.size,0,none⟩)]) rfl trivial (enters_of Tryz.func110 (by kernel_rfl) rfl)
  hseq (fun b hb=>by have:=H9.out;have:=jB.out;omega) (fun x L W b h1 h2=>h2.elim) hI0.up (fun _=>rfl) (fun x L=>UO x L)
  (wX w acF) wX.ab (wX.own (by have:=H9.out;omega)) hI0
 ·intro l x W K hK
  gi_wp2_with (rw [iM _ _ _ (fun c h=>by cases h)];go_simp;try go_bits);exact hK
 ·rintro l pre ⟨bits,va,vb⟩ L W hI hG jh uy hlen
  obtain ⟨⟨g1,g2⟩,ga,gb⟩:=hG;dsimp only at g1 g2 ga gb;obtain ⟨l1,l2,l3,l4⟩:=Tx h2 g1 g2;have hma:=(Ty (L:=acF) (bits:=bits) (by omega)).1;have hmb:=(Ty (L:=acF) (bits:=bits) (by omega)).2;have Yw:∀x∈dA acF bits,x.size<=20:=fun x hx=>HZ.out x (hma x hx);have hzb:∀x∈dB acF bits,x.size<=20:=fun x hx=>HZ.out x (hmb x hx);have Kt:Hid ((bK (dA acF bits)).length<=15/\∀k,(gs (bK (dA acF bits)) k).size<=100):=⟨uS (by omega),q9 fun x hx=>AR (by omega) Yw hx⟩
  have th:Hid ((bK (dB acF bits)).length<=15/\∀k,(gs (bK (dB acF bits)) k).size<=100):=⟨uS (by omega),q9 fun x hx=>AR (by omega) hzb hx⟩;have hpf:(ku acF pre).length<=8*225:=by unfold ku;(have h1:=wq (f:=B1 acF) (K:=225) (pre.map (·.1)) fun b _=>by have p1:=sN (fun i=>!b.testBit i) acF.tail (acF.length - 1);have p2:=sN (fun i=>b.testBit i) acF.tail (acF.length - 1);exact UK (by unfold dA;simp only [bB];omega) (by unfold dB;omega));rw [aD] at h1;exact aV h1 (Nat.mul_le_mul_right _ (by omega))
  have HPF:=aa hpf;have sW:=aa (tr.out (dB acF bits) (by have:=HD.out;omega) l4 (by omega) hzb L W vb gb);have Ku:Hid (∀W1,Up W W1->Calls Tryz.prog 42 #[va] W1 (De L W1 (dA acF bits))):=fun W1 hW=>tr.out (dA acF bits) (by have:=HD.out;omega) l2 (by omega) Yw L W1 va (aC.keep ga (hW.kept _));have HI:=aa hI;have kZ:Hid (∀b,L b->b<W.heap.size):=fun b hb=>(uy b hb).2;clear hI ga gb jh uy hlen hma hmb Yw hzb l1 l2 l3 l4 g1 g2 hpf hseq hI0;dsimp only;gi_wp2_with (rw [iM _ _ _ (fun c h=>by cases h)];go_simp;try go_bits)
  refine ⟨trivial,(callsIn_wide.2 sW.out).mono ?_⟩;rintro e W1 ⟨aM,sb,rfl,eG⟩;have TH:=aa aM;clear aM sW;gi_wp2_with (rw [iM _ _ _ (fun c h=>by cases h)];go_simp;try go_bits);refine ⟨trivial,(callsIn_wide.2 (Ku.out W1 TH.out)).mono ?_⟩;rintro e W2 ⟨aK,sa,rfl,Ko⟩;have hs1:=TH.out.size;have hs2:=aK.size;have cg:Hid (aC (fun b=>L b\/(W.heap.size<=b/\b<W2.heap.size)) W2 sb (bK (dB acF bits))):=(aC.keep eG (aK.kept _)).sub fun b hb hl=>hb.imp id fun e=>⟨e,hl⟩
  have kO:Hid (aC (fun b=>L b\/(W.heap.size<=b/\b<W2.heap.size)) W2 sa (bK (dA acF bits))):=Ko.sub fun b hb hl=>hb.imp id fun e=>⟨by omega,hl⟩;have bF:=aa (TH.out.trans aK);obtain ⟨ov0,hR0⟩:=HI.out.start (B:=w9.heap.size) bF.out;have zn:=aa hR0;obtain ⟨ap,ac,rfl,-,-⟩:=aB.open kO.out;obtain ⟨bp,bc,rfl,-,-⟩:=aB.open cg.out;have kO:Hid (aC (fun b=>L b\/(W.heap.size<=b/\b<W2.heap.size)) W2 (.slice ap (bK (dA acF bits)).length ac) (bK (dA acF bits))):=kO.out
  have cg:Hid (aC (fun b=>L b\/(W.heap.size<=b/\b<W2.heap.size)) W2 (.slice bp (bK (dB acF bits)).length bc) (bK (dB acF bits))):=cg.out;have Kv:Hid (w.heap.size<W.heap.size/\¬L w.heap.size/\w.heap.size<w9.heap.size/\∀b,L b->b<W2.heap.size):=⟨HI.out.sz,HI.out.nL,by have:=H9.out;omega,fun b hb=>by have:=kZ.out b hb;omega⟩;have HT0:Hid (ku acF pre=ku acF pre++qg acF bits 0):=by unfold Hid qg;simp
  rw [HT0.out] at zn;clear aK Ko eG hs1 hs2 hR0 Ku TH HT0;gi_wp2_with (rw [iM _ _ _ (fun c h=>by cases h)];go_simp;try go_bits)
  gi_loopw [8,10,24] (fun _ _ i wr=>∃(n:Nat) (ov:Value),n<=(bK (dA acF bits)).length/\i=.int .i64 n/\Hid (wY w L W W2 w9.heap.size wr ov (ku acF pre++qg acF bits n))) (fun _ _ i _=>(bK (dA acF bits)).length - (intOf i).toNat)
  case atStart=>exact ⟨0,_,bg _,rfl,zn.out⟩
  case round =>
   obtain ⟨n,ov,hn,rfl,hR⟩:=hrel;obtain ⟨wo,rfl⟩:=e9 wr;(have i0:(0:Int)<=(n:Int):=by omega);by_cases hlt:n<(bK (dA acF bits)).length
   ·obtain ⟨ab,ao,rfl,hca⟩:=fI (aC.keep kO.out hR.out.kept) hlt
    (have i1:(n:Int)<((bK (dA acF bits)).length:Int):=by omega);(have i2:(n:Int)<16:=by have:=Kt.out.1;omega);have bf:=aa hlt;have sk:=aa (RH acF bits hlt);have HR:=aa hR.out;have HZN:Hid ((gs (bK (dA acF bits)) n).size<=100):=Kt.out.2 n;generalize gs (bK (dA acF bits)) n=sn at *;clear hR hlt;gi_wp2_with (rw [iM _ _ _ (fun c h=>by cases h)];go_simp;try go_bits)
    gi_loopw [10,30] (fun _ i wr=>∃(m:Nat) (ov:Value),m<=(bK (dB acF bits)).length/\i=.int .i64 m/\Hid (wY w L W W2 w9.heap.size wr ov ((ku acF pre++qg acF bits n)++((bK (dB acF bits)).take m).map fun t=>pairT sn t))) (fun _ i _=>(bK (dB acF bits)).length - (intOf i).toNat)
    case atStart=>exact ⟨0,_,bg _,rfl,by rw [List.take_zero,List.map_nil,gm];exact HR.out⟩
    case round =>
     obtain ⟨m,ov2,hm,rfl,DA⟩:=hrel;obtain ⟨wi,rfl⟩:=e9 wr;(have j0:(0:Int)<=(m:Int):=by omega);by_cases hlm:m<(bK (dB acF bits)).length
     ·obtain ⟨bb,bo,rfl,hcb⟩:=fI (aC.keep cg.out DA.out.kept) hlm
      (have j1:(m:Int)<((bK (dB acF bits)).length:Int):=by omega);(have j2:(m:Int)<16:=by have:=th.out.1;omega);have wR:=aa hlm;have zo:=aa DA.out;have nU:=DA.out.cells.1;(have yJ:Hid (((bK (dB acF bits)).take (m+1)).map (fun t=>pairT sn t)=((bK (dB acF bits)).take m).map (fun t=>pairT sn t)++[pairT sn (gs (bK (dB acF bits)) m)]):=by unfold Hid;rw [iL hlm,cm];simp [gs,hlm]);have z1:=HZN.out;have z2:(gs (bK (dB acF bits)) m).size<=100:=th.out.2 m
      have rZ:Hid ((((ku acF pre++qg acF bits n)++((bK (dB acF bits)).take m).map fun t=>pairT sn t).map Value.string).length<=1000000):=by have h1:=HPF.out;have h2:=th.out.1;have h3:=Kt.out.1;(have h4:(qg acF bits n).length<=15*15:=by unfold qg;(have q:=wq (f:=fun s=>(bK (dB acF bits)).map fun t=>pairT s t) (K:=15) ((bK (dA acF bits)).take n) fun s _=>by rw [aD];exact h2);rw [iy] at q;exact aV q (Nat.mul_le_mul_right _ (by omega)));unfold Hid;simp only [aD,bG,iy];omega
      generalize gs (bK (dB acF bits)) m=tm at *;obtain ⟨T,hT⟩:∃T,T=(ku acF pre++qg acF bits n)++((bK (dB acF bits)).take m).map fun t=>pairT sn t:=⟨_,rfl⟩;rw [<- hT] at zo rZ;(have HT:Hid ((ku acF pre++qg acF bits n)++((bK (dB acF bits)).take (m+1)).map (fun t=>pairT sn t)=T++[pairT sn tm]):=by unfold Hid;rw [yJ.out,<- cU,<- hT]);obtain ⟨oq,oc,hoe,-⟩:=zo.out.own.form (n:=T.length) (by simp);subst hoe;have Og:Hid (w9.heap.size<=w9.heap.size/\w.heap.size+1<=wi.heap.size):=⟨aj _,by have h1:=zo.out.size;have h2:=bF.out.size;have h3:=Kv.out.1;omega⟩
      clear DA hlm hm hT yJ
      gi_wp2_with (first
       | (gi_at_builtin;refine qx wi rfl _ _ 22 rfl (w.heap.size+1) 9 (.string ⟨#[]⟩) 16 Tryz.underlying22 Tryz.fq rfl (by decide) zo.out.own rfl _ rfl rfl T.length (aD _) (by have h:=rZ.out;rw [aD] at h;exact h) Og.out.2 ?_;intro g8 mY w8 cD eC oz;obtain ⟨⟨B4,Tz⟩,hP8⟩:=zo.out.push (s:=pairT sn tm) Kv.out.1 Kv.out.2.1 (fun b hb=>lM (Kv.out.2.2.2 b hb) zo.out.size) Kv.out.2.2.1 cD eC oz;have Yi:=aa hP8;clear cD eC oz hP8)
       | (rw [iM _ _ _ (fun c h=>by cases h)];go_simp;try go_bits))
      go_roundw
      case rel=>exact ⟨m+1,_,wR.out,by go_num,by rw [HT.out];exact Yi.out⟩
      case measure=>have:=wR.out;simp [intOf];omega
     ·obtain rfl:m=(bK (dB acF bits)).length:=by omega
      (have HKE:Hid (ku acF pre++qg acF bits (n+1)=(ku acF pre++qg acF bits n)++((bK (dB acF bits)).take (bK (dB acF bits)).length).map fun t=>pairT sn t):=by unfold Hid;rw [sk.out,gq,cU]);gi_wp2_with (rw [iM _ _ _ (fun c h=>by cases h)];go_simp;try go_bits)
      go_roundw
      case rel=>exact ⟨n+1,_,bf.out,by go_num,by rw [HKE.out];exact DA.out⟩
      case measure=>have:=bf.out;simp [intOf];omega
   ·obtain rfl:n=(bK (dA acF bits)).length:=by omega
    (have yC:Hid (ku acF pre++qg acF bits (bK (dA acF bits)).length=ku acF (pre++[(bits,va,vb)])):=by unfold Hid;rw [UT,RG]);gi_wp2_with (rw [iM _ _ _ (fun c h=>by cases h)];go_simp;try go_bits);exact hR.out.fin HI.out bF.out kZ.out yC.out
 ·intro D xs L W hD hS hI hK
  obtain ⟨ov,e1,e2,e3⟩:=hI.ex;obtain ⟨oq,oc,rfl,-⟩:=e2.form (n:=(ku acF xs).length) (by simp);have XD:W.cell? ⟨w.heap.size,0,none⟩=some (.slice oq (ku acF xs).length oc):=by simp [World.cell?,e1]
  have HK:=aa hK;have Ow:=aa e2;have HI:=aa hI;have HT:Hid (ku acF xs=bK acF):=by unfold Hid ku;rw [hS,X5 h2]
  clear e1 e2 e3 hI hS hK hseq hI0;gi_wp2_with fail;have hq:∀b,b≠D->(W.putObj D (.deferred none)).heap[b]? = W.heap[b]?:=fun b hb=>eA hb;have hu:=HI.out.up;have h9:=H9.out;have hne:∀b,(Value.slice oq (ku acF xs).length oc).ownBlock=some b->b≠D:=fun b hb e=>by subst e;obtain ⟨c,h10⟩:=au.F8 Ow.out hb;rw [HK.out] at h10;injection h10 with h10;cases h10
  refine ⟨by simp,.inl ⟨_,_,rfl,run_takeDeferred HK.out,?_⟩⟩;refine ⟨.slice oq (ku acF xs).length oc,by simp [results,Tryz.results42,go_sem],⟨hu.os,hu.tape,hu.output,by have h:=hu.size;simpa using h,fun b hb=>(hq b (by omega)).trans (hu.block b hb)⟩,_,rfl,?_⟩;have h3:=Ow.out.fE fun b hb=>hq b (hne b hb);rw [<- HT.out];exact h3.strs.sub fun b hb _=>.inr (by omega)
end Go.Proofs.YtfomhlbhcifgbaaGreatDoor
