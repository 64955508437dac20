/- optimaltree.rooted: the texts of all rooted binary trees. The contract of slices.SortFunc .. -/
import Derived.Shelf.SlSortCmp.WholeK
import Derived.Ground.SlsfProg
import Derived.Test.YthgabkgmkolobaaGreatQ21
set_option maxRecDepth 100000
set_option maxHeartbeats 8000000
namespace Go.Proofs.YthgabkgmkolobaaGreat
open Go.RowKit Go.Shelf Go.Deep Go.Sort
def r6 (aac:List ByteArray) (pre:List Dv):List ByteArray:=(pre.map (·.1)).flatMap (NR aac)
structure G6 (w:World) (aac:List ByteArray) (pre:List Dv) (L:Nat->Prop) (W:World):Prop where
 up:Up w W
 sz:w.heap.size+1<=W.heap.size
 lo:∀b,L b->w.heap.size<=b
 nL:¬L w.heap.size
 ex:∃ov,W.heap[w.heap.size]? = some (Obj.cells #[ov] 22 (0,0))/\ax (w.heap.size+1) 9 W ov ((r6 aac pre).map Value.string)/\∀g,ov.ownBlock=some g->¬L g
section
variable {w:World} {aac:List ByteArray}
theorem G6.ab:UK (G6 w aac):=by
 rintro s L L' W W' h hs;obtain ⟨ov,h1,h2,h7⟩:=h.ex;have hsz:=h.sz;have hnl:∀b,b<W.heap.size->¬L b->¬L' b:=fun b hb hn hb'=>by
  rcases hs.more b hb' with e | e
  ·exact hn e.1
  ·omega
 refine ⟨⟨hs.os.trans h.up.os,hs.tape.trans h.up.tape,hs.output.trans h.up.output,aJ h.up.size hs.size,fun b hb=>(hs.block b (by omega) fun e=>by have:=h.lo b e;omega).trans (h.up.block b hb)⟩,by have:=hs.size;omega,fun b hb=>?_,hnl _ (by omega) h.nL,
  ov,(hs.block _ (by omega) h.nL).trans h1,ax.AA h2 fun b hb=>hs.block b (av h2 hb).2 (h7 b hb),fun g hg=>hnl g (av h2 hg).2 (h7 g hg)⟩
 rcases hs.more b hb with e | e
 ·exact h.lo b e.1
 ·omega
theorem G6.own {B:Nat} (hB:w.heap.size+1<=B) (L:Nat->Prop):OwnFrom B (fun s W=>G6 w aac s L W):=by
 intro s X Y row h hg hr;obtain ⟨ov,h1,h2,h7⟩:=h.ex;have hsz:=h.sz;have su:∀b,b<w.heap.size+1->Y.heap[b]? = X.heap[b]?:=fun b hb=>hg.block b (by omega) fun e=>by have:=(hr b e.symm).1;omega
 refine ⟨⟨hg.os.trans h.up.os,hg.tape.trans h.up.tape,hg.output.trans h.up.output,aJ h.up.size hg.size,fun b hb=>(su b (by omega)).trans (h.up.block b hb)⟩,by have:=hg.size;omega,h.lo,h.nL,ov,(su _ (by omega)).trans h1,
  ax.AA h2 fun b hb=>hg.block b (av h2 hb).2 fun e=>?_,h7⟩
 obtain ⟨_,o,h8,h9⟩:=hr b e.symm;obtain ⟨c,h10⟩:=ax.mC h2 hb;rw [h10] at h8;injection h8 with h8;subst h8;cases h9
end
structure G7 (w:World) (L:Nat->Prop) (W W2:World) (B:Nat) (wr:World) (ov:Value) (T:List ByteArray):Prop where
 up:Up w wr
 size:W2.heap.size<=wr.heap.size
 keep:∀b,(L b\/(W.heap.size<=b/\b<W2.heap.size))->wr.heap[b]? = W2.heap[b]?
 kf:∀k o,B<=k->W.heap[k]? = some o->o.isCells=false->wr.heap[k]? = some o
 box:wr.heap[w.heap.size]? = some (Obj.cells #[ov] 22 (0,0))
 own:ax (w.heap.size+1) 9 wr ov (T.map Value.string)
 nL:∀g,ov.ownBlock=some g->¬L g/\(g<W.heap.size\/W2.heap.size<=g)
section
variable {w W W2 wr X:World} {aac:List ByteArray} {L:Nat->Prop} {B:Nat} {ov:Value} {T:List ByteArray} {s:ByteArray} {g cap k:Nat} {pre:List Dv} {x:Dv}
theorem G6.start (h:G6 w aac pre L W) (hu:Up W W2):∃ov,G7 w L W W2 B W2 ov (r6 aac pre):=by
 obtain ⟨ov,h1,h2,h7⟩:=h.ex;have hsz:=h.sz;exact ⟨ov,⟨h.up.trans hu,af _,fun _ _=>rfl,fun k o _ hk _=>(bI hu k (fR.1 hk).1).trans hk,(bI hu _ (by omega)).trans h1,h2.fM fun b hb=>bI hu b (av h2 hb).2,fun g hg=>⟨h7 g hg,.inl (av h2 hg).2⟩⟩⟩
theorem G7.cells (h:G7 w L W W2 B wr ov T):wr.cell? ⟨w.heap.size,0,none⟩=some ov/\wr.frozen? ⟨w.heap.size,0,none⟩=false:=by
 refine ⟨?_,?_⟩<;>simp [World.cell?,World.frozen?,h.box]
theorem G7.kept (h:G7 w L W W2 B wr ov T):Kept (fun b=>L b\/(W.heap.size<=b/\b<W2.heap.size)) W2 wr:=fun b hb _=>h.keep b hb
theorem G7.push (h:G7 w L W W2 B wr ov T) (hw:w.heap.size<W.heap.size) (Ih:¬L w.heap.size) (hL:∀b,L b->b<wr.heap.size) (hB:w.heap.size<B) (ho:ax (w.heap.size+1) 9 X (.slice (some ⟨g,0,none⟩) k cap) (T.map Value.string++[.string s])) (hg:wr.grownBy X ov.ownBlock) (dD:ov.ownBlock=some g\/wr.heap.size<=g) :
  (X.cell? ⟨w.heap.size,0,none⟩=some ov/\X.frozen? ⟨w.heap.size,0,none⟩=false)/\G7 w L W W2 B (X.setCell ⟨w.heap.size,0,none⟩ (.slice (some ⟨g,0,none⟩) k cap)) (.slice (some ⟨g,0,none⟩) k cap) (T++[s]):=by
 have Bz:∀q,ov.ownBlock=some q->w.heap.size+1<=q/\q<wr.heap.size:=fun q hq=>av h.own hq;have hbl:w.heap.size<wr.heap.size:=(fR.1 h.box).1;have jF:X.heap[w.heap.size]? = some (Obj.cells #[ov] 22 (0,0)):=(hg.block _ hbl fun e=>by have:=(Bz _ e.symm).1;omega).trans h.box;have dR:∀b,b≠w.heap.size->(X.setCell ⟨w.heap.size,0,none⟩ (.slice (some ⟨g,0,none⟩) k cap)).heap[b]? = X.heap[b]?:=fun b hb=>blk_setCell_other _ _ _ _ hb;have hsz:(X.setCell ⟨w.heap.size,0,none⟩ (.slice (some ⟨g,0,none⟩) k cap)).heap.size=X.heap.size:=by simp [World.size_setCell]
 refine ⟨by constructor<;>simp [World.cell?,World.frozen?,jF],⟨hg.os.trans h.up.os,hg.tape.trans h.up.tape,hg.output.trans h.up.output,by rw [hsz];exact aJ h.up.size hg.size,fun b hb=>?_⟩,by rw [hsz];exact aJ h.size hg.size,fun b hb=>?_,fun q o hq hk hc=>?_,by simp [World.setCell,Array.getElem?_modify,jF],?_,fun q hq=>?_⟩
 ·rw [dR b (by omega)]
  exact (hg.block b (by omega) fun e=>by have:=(Bz _ e.symm).1;omega).trans (h.up.block b hb)
 ·have hne:b≠w.heap.size:=fun e=>by
   subst e
   rcases hb with hb | hb
   ·exact Ih hb
   ·omega
  rw [dR b hne]
  refine (hg.block b ?_ fun e=>?_).trans (h.keep b hb)
  ·rcases hb with hb | hb
   ·exact hL b hb
   ·have:=h.size;omega
  ·obtain ⟨n1,n2⟩:=h.nL b e.symm
   rcases hb with hb | hb
   ·exact n1 hb
   ·omega
 ·have h1:=h.kf q o hq hk hc
  rw [dR q (by omega)];refine (hg.block q (fR.1 h1).1 fun e=>?_).trans h1;obtain ⟨c,h10⟩:=ax.mC h.own e.symm;rw [h1] at h10;injection h10 with h10;subst h10;cases hc
 ·rw [cg]
  exact ho.fM fun b hb=>dR b (by have:=(av ho hb).1;omega)
 ·have hq:some g=some q:=hq
  injection hq with hq;subst hq;rcases dD with e | e
  ·exact h.nL g e
  ·exact ⟨fun hl=>by have:=hL g hl;omega,.inr (aJ h.size e)⟩
theorem G7.fin (h0:G6 w aac pre L W) (hu:Up W W2) (hL:∀b,L b->b<W.heap.size) (h:G7 w L W W2 B wr ov T) (hT:T=r6 aac (pre++[x])) :
  KeepsFrom B W wr/\Below w.heap.size w wr/\(∀b,(L b\/False)->wr.heap[b]? = W.heap[b]?)/\G6 w aac (pre++[x]) L wr:=by
 have hs:=hu.size;have hs2:=h.size;have hs0:=h0.sz;refine ⟨⟨aJ hs hs2,h.kf⟩,h.up,fun b hb=>?_,h.up,by omega,h0.lo,h0.nL,ov,h.box,by rw [<- hT];exact h.own,fun g hg=>(h.nL g hg).1⟩;have hb:L b:=hb.resolve_right id;exact (h.keep b (.inl hb)).trans (bI hu b (hL b hb))
end
def Pp (S:Nat->Prop) (w:World) (aac:List ByteArray) (e:Ending) (w':World):Prop:=Up w w'/\∃v,e=.returned v/\au (fun b=>S b\/w.heap.size<=b) w' v (dH aac)
theorem dvF_snoc (aac:List ByteArray) (pre:List Dv) (x:Dv):r6 aac (pre++[x])=r6 aac pre++NR aac x.1:=by
 unfold r6;rw [cg,sF];simp
def zj (aac:List ByteArray) (bits n:Nat):List ByteArray:=((dH (dA aac bits)).take n).flatMap fun s=>(dH (dB aac bits)).map fun t=>pairT s t
theorem dvK_succ (aac:List ByteArray) (bits:Nat) {n:Nat} (h:n<(dH (dA aac bits)).length):zj aac bits (n+1)=zj aac bits n++(dH (dB aac bits)).map fun t=>pairT (gs (dH (dA aac bits)) n) t:=by
 have hg:gs (dH (dA aac bits)) n=(dH (dA aac bits))[n]:=by simp [gs,h]
 unfold zj;rw [jY h,sF,hg];simp
theorem dvK_all (aac:List ByteArray) (bits:Nat):zj aac bits (dH (dA aac bits)).length=NR aac bits:=by unfold zj NR;rw [gh]
theorem rooted_t:∀(d:Nat) (aac:List ByteArray),aac.length<=d->1<=aac.length->aac.length<=4->(∀x∈aac,x.size<=20)->∀(S:Nat->Prop) (w:World) (v:Value),au S w v aac->Calls Tryz.prog 120 #[v] w (Pp S w aac):=by
 intro d
 induction d with
 | zero=>intro aac h1 h2;omega
 | succ d ih =>
 intro aac hd h1 h4 hz S w v h;obtain ⟨mp,mc,rfl,-,-⟩:=ay.open h;have h:au S w (.slice mp aac.length mc) aac:=h;by_cases hone:aac.length=1
 ·have d1:((aac.length:Int)==1)=true:=by rw [hone];rfl
  have hrt:dH aac=aac:=by obtain ⟨x,rfl⟩:=CK.1 hone;exact rtT_one x
  have HX:Hid (Pp S w aac (.returned (.slice mp aac.length mc)) w):=⟨Up.refl _,_,rfl,by rw [hrt];exact h.sub fun b hb _=>.inl hb⟩;clear h hrt hone ih
  go_enter Tryz.func120,Tryz.ntmps120
  go_wp2_with fail;go_ret;exact HX.out
 have d1:((aac.length:Int)==1)=false:=beq_eq_false_iff_ne.2 (by omega);have h2:2<=aac.length:=by omega
 have qu:=aa ih;have HH:=aa h;have HZ:=aa hz;have HD:=aa hd;clear ih h hz hd h1 hone;refine (callsIn_wide (n:=9)).1 ?_;refine callsIn_of_wp_marks Tryz.func120 rfl trivial ?_;simp only [Tryz.ntmps120,eW,aT,dO,Nat.reduceAdd,Nat.reduceSub,ji,jk,eV,ve,cH,cr];have hb1:=blk_alloc_new w (.cells #[.slice none 0 0] 22);have bA:=Up.alloc w (.cells #[.slice none 0 0] 22)
 have hs1:(w.alloc (.cells #[.slice none 0 0] 22)).heap.size=w.heap.size+1:=by simp
 have lK:=aa hb1;have cA:=aa bA;have lN:=aa hs1;clear hb1 bA hs1;gi_wp2_with fail;generalize w.alloc (.cells #[.slice none 0 0] 22)=w1 at *;refine ⟨trivial,(callsIn_wide.2 (XR w1 _ _ _)).mono ?_⟩;rintro e w9 ⟨rfl,KW⟩;have kN:Up w1 w9:=by rw [KW];exact Up.alloc _ _
 have I9:w9.heap.size=w1.heap.size+1:=by rw [KW];simp
 have Y8:=nW w1 (.slice mp aac.length mc) 22;rw [<- KW] at Y8;have Dh:au Any w (.slice mp aac.length mc) aac:=HH.out.sub fun _ _ _=>trivial
 have hseq:=div_seqL (w0:=w) (w9:=w9) (Bt:=w1.heap.size) (N:=8) 8 h2 h4 (by rw [lN.out];omega) Y8 Dh (by
  have:2 ^ (aac.length - 1)<=2 ^ 3:=Nat.pow_le_pow_right (by decide) (by omega)
  omega)
 have hI0:G6 w aac [] (fun b=>b=w1.heap.size) w9:=⟨cA.out.trans kN,by rw [I9,lN.out];omega,fun b hb=>by rw [hb,lN.out];omega,by rw [lN.out];omega,.slice none 0 0,(bI kN _ (by rw [lN.out];omega)).trans lK.out,ax.nil _ _ _,fun g hg=>by cases hg⟩;have H9:Hid (w9.heap.size=w.heap.size+2):=by unfold Hid;rw [I9,lN.out]
 have HS1':=aa lN.out;clear KW kN I9 Y8 Dh lK;gi_wp2_with fail;apply KT (F:=Fence.wide) (n:=9) (P:=Tryz.prog) (ps:=#[17,18]) (w:=w9) rfl (by omega) (gf:=215) (lb:=#[.pointer (some ⟨w1.heap.size,0,none⟩)]) rfl trivial (enters_of Tryz.func215 (by kernel_rfl) rfl)
  hseq (fun b hb=>by have:=H9.out;have:=lN.out;omega) (fun x L W b h1 h2=>h2.elim) hI0.up (fun _=>rfl) (fun x L=>gvD_own x L)
  (G6 w aac) G6.ab (G6.own (by have:=H9.out;omega)) hI0
 ·intro l x W K hK
  gi_wp2_with (rw [iJ _ _ _ (fun c h=>by cases h)];go_simp;try go_bits);exact hK
 ·rintro l pre ⟨bits,va,vb⟩ L W hI hG kJ NT hlen
  obtain ⟨⟨g1,g2⟩,ga,gb⟩:=hG;dsimp only at g1 g2 ga gb;obtain ⟨l1,l2,l3,l4⟩:=d_len h2 g1 g2;have hma:=(mem_d (L:=aac) (bits:=bits) (by omega)).1;have hmb:=(mem_d (L:=aac) (bits:=bits) (by omega)).2;have U4:∀x∈dA aac bits,x.size<=20:=fun x hx=>HZ.out x (hma x hx);have hzb:∀x∈dB aac bits,x.size<=20:=fun x hx=>HZ.out x (hmb x hx);have ID:Hid ((dH (dA aac bits)).length<=15/\∀k,(gs (dH (dA aac bits)) k).size<=100):=⟨A6 (by omega),lF fun x hx=>F5 (by omega) U4 hx⟩
  have zg:Hid ((dH (dB aac bits)).length<=15/\∀k,(gs (dH (dB aac bits)) k).size<=100):=⟨A6 (by omega),lF fun x hx=>F5 (by omega) hzb hx⟩;have hpf:(r6 aac pre).length<=8*225:=by unfold r6;(have h1:=vH (f:=NR aac) (K:=225) (pre.map (·.1)) fun b _=>by have p1:=qY (fun i=>!b.testBit i) aac.tail (aac.length - 1);have p2:=qY (fun i=>b.testBit i) aac.tail (aac.length - 1);exact dvT_len (by unfold dA;simp only [aT];omega) (by unfold dB;omega));rw [aG] at h1;exact aJ h1 (yZ _ (by omega))
  have Rq:=aa hpf;have mX:=aa (qu.out (dB aac bits) (by have:=HD.out;omega) l4 (by omega) hzb L W vb gb);have N3:Hid (∀W1,Up W W1->Calls Tryz.prog 120 #[va] W1 (Pp L W1 (dA aac bits))):=fun W1 hW=>qu.out (dA aac bits) (by have:=HD.out;omega) l2 (by omega) U4 L W1 va (au.keep ga (hW.kept _));have HI:=aa hI;have gG:Hid (∀b,L b->b<W.heap.size):=fun b hb=>(NT b hb).2;clear hI ga gb kJ NT hlen hma hmb U4 hzb l1 l2 l3 l4 g1 g2 hpf hseq hI0;dsimp only;gi_wp2_with (rw [iJ _ _ _ (fun c h=>by cases h)];go_simp;try go_bits)
  refine ⟨trivial,(callsIn_wide.2 mX.out).mono ?_⟩;rintro e W1 ⟨bA,sb,rfl,mz⟩;have Rs:=aa bA;clear bA mX;gi_wp2_with (rw [iJ _ _ _ (fun c h=>by cases h)];go_simp;try go_bits);refine ⟨trivial,(callsIn_wide.2 (N3.out W1 Rs.out)).mono ?_⟩;rintro e W2 ⟨aK,sa,rfl,EE⟩;have hs1:=Rs.out.size;have hs2:=aK.size;have fu:Hid (au (fun b=>L b\/(W.heap.size<=b/\b<W2.heap.size)) W2 sb (dH (dB aac bits))):=(au.keep mz (aK.kept _)).sub fun b hb hl=>hb.imp id fun e=>⟨e,hl⟩
  have qy:Hid (au (fun b=>L b\/(W.heap.size<=b/\b<W2.heap.size)) W2 sa (dH (dA aac bits))):=EE.sub fun b hb hl=>hb.imp id fun e=>⟨by omega,hl⟩;have bD:=aa (Rs.out.trans aK);obtain ⟨ov0,Ja⟩:=HI.out.start (B:=w9.heap.size) bD.out;have G8:=aa Ja;obtain ⟨ap,ac,rfl,-,-⟩:=ay.open qy.out;obtain ⟨bp,bc,rfl,-,-⟩:=ay.open fu.out;have qy:Hid (au (fun b=>L b\/(W.heap.size<=b/\b<W2.heap.size)) W2 (.slice ap (dH (dA aac bits)).length ac) (dH (dA aac bits))):=qy.out
  have fu:Hid (au (fun b=>L b\/(W.heap.size<=b/\b<W2.heap.size)) W2 (.slice bp (dH (dB aac bits)).length bc) (dH (dB aac bits))):=fu.out;have HWS:Hid (w.heap.size<W.heap.size/\¬L w.heap.size/\w.heap.size<w9.heap.size/\∀b,L b->b<W2.heap.size):=⟨HI.out.sz,HI.out.nL,by have:=H9.out;omega,fun b hb=>by have:=gG.out b hb;omega⟩;have um:Hid (r6 aac pre=r6 aac pre++zj aac bits 0):=by unfold Hid zj;simp
  rw [um.out] at G8;clear aK EE mz hs1 hs2 Ja N3 Rs um;gi_wp2_with (rw [iJ _ _ _ (fun c h=>by cases h)];go_simp;try go_bits)
  gi_loopw [8,10,24] (fun _ _ i wr=>∃(n:Nat) (ov:Value),n<=(dH (dA aac bits)).length/\i=.int .i64 n/\Hid (G7 w L W W2 w9.heap.size wr ov (r6 aac pre++zj aac bits n))) (fun _ _ i _=>(dH (dA aac bits)).length - (intOf i).toNat)
  case atStart=>exact ⟨0,_,aL _,rfl,G8.out⟩
  case round =>
   obtain ⟨n,ov,hn,rfl,hR⟩:=hrel;obtain ⟨wo,rfl⟩:∃wo:World,wo=wr:=⟨_,rfl⟩;(have i0:(0:Int)<=(n:Int):=by omega);by_cases hlt:n<(dH (dA aac bits)).length
   ·obtain ⟨ab,ao,rfl,hca⟩:=dr (au.keep qy.out hR.out.kept) hlt
    (have i1:(n:Int)<((dH (dA aac bits)).length:Int):=by omega);(have i2:(n:Int)<16:=by have:=ID.out.1;omega);have bu:=aa hlt;have ND:=aa (dvK_succ aac bits hlt);have HR:=aa hR.out;have HZN:Hid ((gs (dH (dA aac bits)) n).size<=100):=ID.out.2 n;generalize gs (dH (dA aac bits)) n=sn at *;clear hR hlt;gi_wp2_with (rw [iJ _ _ _ (fun c h=>by cases h)];go_simp;try go_bits)
    gi_loopw [10,30] (fun _ i wr=>∃(m:Nat) (ov:Value),m<=(dH (dB aac bits)).length/\i=.int .i64 m/\Hid (G7 w L W W2 w9.heap.size wr ov ((r6 aac pre++zj aac bits n)++((dH (dB aac bits)).take m).map fun t=>pairT sn t))) (fun _ i _=>(dH (dB aac bits)).length - (intOf i).toNat)
    case atStart=>exact ⟨0,_,aL _,rfl,by rw [List.take_zero,wQ,gN];exact HR.out⟩
    case round =>
     obtain ⟨m,ov2,hm,rfl,Qj⟩:=hrel;obtain ⟨wi,rfl⟩:∃wi:World,wi=wr:=⟨_,rfl⟩;(have j0:(0:Int)<=(m:Int):=by omega);by_cases hlm:m<(dH (dB aac bits)).length
     ·obtain ⟨bb,bo,rfl,hcb⟩:=dr (au.keep fu.out Qj.out.kept) hlm
      (have j1:(m:Int)<((dH (dB aac bits)).length:Int):=by omega);(have j2:(m:Int)<16:=by have:=zg.out.1;omega);have U5:=aa hlm;have Rt:=aa Qj.out;have iT:=Qj.out.cells.1;(have oy:Hid (((dH (dB aac bits)).take (m+1)).map (fun t=>pairT sn t)=((dH (dB aac bits)).take m).map (fun t=>pairT sn t)++[pairT sn (gs (dH (dB aac bits)) m)]):=by unfold Hid;rw [jY hlm,cg];simp [gs,hlm]);have z1:=HZN.out;have z2:(gs (dH (dB aac bits)) m).size<=100:=zg.out.2 m
      have fN:Hid ((((r6 aac pre++zj aac bits n)++((dH (dB aac bits)).take m).map fun t=>pairT sn t).map Value.string).length<=1000000):=by have h1:=Rq.out;have h2:=zg.out.1;have h3:=ID.out.1;(have h4:(zj aac bits n).length<=15*15:=by unfold zj;(have q:=vH (f:=fun s=>(dH (dB aac bits)).map fun t=>pairT s t) (K:=15) ((dH (dA aac bits)).take n) fun s _=>by rw [aG];exact h2);rw [gV] at q;exact aJ q (yZ _ (by omega)));unfold Hid;simp only [aG,aZ,gV];omega
      generalize gs (dH (dB aac bits)) m=tm at *;obtain ⟨T,hT⟩:∃T,T=(r6 aac pre++zj aac bits n)++((dH (dB aac bits)).take m).map fun t=>pairT sn t:=⟨_,rfl⟩;rw [<- hT] at Rt fN;(have HT:Hid ((r6 aac pre++zj aac bits n)++((dH (dB aac bits)).take (m+1)).map (fun t=>pairT sn t)=T++[pairT sn tm]):=by unfold Hid;rw [oy.out,<- dN,<- hT]);obtain ⟨oq,oc,U6,-⟩:=Rt.out.own.form (n:=T.length) (by simp);subst U6;have HSW:Hid (w9.heap.size<=w9.heap.size/\w.heap.size+1<=wi.heap.size):=⟨af _,by have h1:=Rt.out.size;have h2:=bD.out.size;have h3:=HWS.out.1;omega⟩
      clear Qj hlm hm hT oy
      gi_wp2_with (first
       | (gi_at_builtin;refine zI wi rfl _ _ 22 rfl (w.heap.size+1) 9 (.string ⟨#[]⟩) 16 Tryz.underlying22 Tryz.kR rfl (by decide) Rt.out.own rfl _ rfl rfl T.length (aG _) (by have h:=fN.out;rw [aG] at h;exact h) HSW.out.2 ?_;intro g8 oz w8 fH ic jJ;obtain ⟨⟨hc8,hf8⟩,KX⟩:=Rt.out.push (s:=pairT sn tm) HWS.out.1 HWS.out.2.1 (fun b hb=>js (HWS.out.2.2.2 b hb) Rt.out.size) HWS.out.2.2.1 fH ic jJ;have HP8:=aa KX;clear fH ic jJ KX)
       | (rw [iJ _ _ _ (fun c h=>by cases h)];go_simp;try go_bits))
      go_roundw
      case rel=>exact ⟨m+1,_,U5.out,by go_num,by rw [HT.out];exact HP8.out⟩
      case measure=>have:=U5.out;simp [intOf];omega
     ·obtain rfl:m=(dH (dB aac bits)).length:=by omega
      (have Y9:Hid (r6 aac pre++zj aac bits (n+1)=(r6 aac pre++zj aac bits n)++((dH (dB aac bits)).take (dH (dB aac bits)).length).map fun t=>pairT sn t):=by unfold Hid;rw [ND.out,gh,dN]);gi_wp2_with (rw [iJ _ _ _ (fun c h=>by cases h)];go_simp;try go_bits)
      go_roundw
      case rel=>exact ⟨n+1,_,bu.out,by go_num,by rw [Y9.out];exact Qj.out⟩
      case measure=>have:=bu.out;simp [intOf];omega
   ·obtain rfl:n=(dH (dA aac bits)).length:=by omega
    (have I1:Hid (r6 aac pre++zj aac bits (dH (dA aac bits)).length=r6 aac (pre++[(bits,va,vb)])):=by unfold Hid;rw [dvK_all,dvF_snoc]);gi_wp2_with (rw [iJ _ _ _ (fun c h=>by cases h)];go_simp;try go_bits);exact hR.out.fin HI.out bD.out gG.out I1.out
 ·intro D xs L W hD hS hI hK
  obtain ⟨ov,e1,e2,e3⟩:=hI.ex;obtain ⟨oq,oc,rfl,-⟩:=e2.form (n:=(r6 aac xs).length) (by simp);have zQ:W.cell? ⟨w.heap.size,0,none⟩=some (.slice oq (r6 aac xs).length oc):=by simp [World.cell?,e1]
  have HK:=aa hK;have qO:=aa e2;have HI:=aa hI;have HT:Hid (r6 aac xs=dH aac):=by unfold Hid r6;rw [hS,rtT_eq h2]
  clear e1 e2 e3 hI hS hK hseq hI0;gi_wp2_with fail;have hq:∀b,b≠D->(W.putObj D (.deferred none)).heap[b]? = W.heap[b]?:=fun b hb=>nT hb;have hu:=HI.out.up;have h9:=H9.out;have hne:∀b,(Value.slice oq (r6 aac xs).length oc).ownBlock=some b->b≠D:=fun b hb e=>by subst e;obtain ⟨c,h10⟩:=ax.mC qO.out hb;rw [HK.out] at h10;injection h10 with h10;cases h10
  refine ⟨by simp,.inl ⟨_,_,rfl,run_takeDeferred HK.out,?_⟩⟩;refine ⟨.slice oq (r6 aac xs).length oc,by simp [results,Tryz.results120,go_sem],⟨hu.os,hu.tape,hu.output,by have h:=hu.size;simpa using h,fun b hb=>(hq b (by omega)).trans (hu.block b hb)⟩,_,rfl,?_⟩;have h3:=qO.out.fM fun b hb=>hq b (hne b hb);rw [<- HT.out];exact h3.strs.sub fun b hb _=>.inr (by omega)
end Go.Proofs.YthgabkgmkolobaaGreat
namespace Go.Proofs
open Go.Shelf
def Tryz.sortEnt_ren:Go.Shelf.Ren:=⟨fun | 6=>122 | 15=>127 | 14=>167 | 28=>181 | 29=>182 | 20=>221 | 21=>222 | 22=>223 | 23=>224 | 24=>225 | 25=>226 | 26=>227 | 27=>228 | 46=>265 | 47=>235 | 48=>236 | 49=>266 | 50=>267 | 57=>278 | n=>n,fun | 22=>91 | 24=>96 | 25=>150 | 3=>3 | 39=>154 | 0=>0 | 53=>191 | 55=>193 | 4=>4 | 46=>183 | 45=>182 | 50=>188 | 5=>5 | 9=>9 | 66=>238 | 70=>242 | 76=>267 | 77=>177 | n=>n,fun | n=>n⟩
theorem Tryz.sortEnt:Go.Proofs.SlLaysF0.n6 Tryz.prog Tryz.sortEnt_ren:={
 mixed:=by kernel_rfl
 f6:=⟨Tryz.f122.name,by decide,Tryz.func122.trans (congrArg some (by kernel_rfl))⟩
 f14:=⟨Tryz.f167.name,by decide,Tryz.func167.trans (congrArg some (by kernel_rfl))⟩
 f15:=Tryz.func127.trans (congrArg some (by kernel_rfl))
 f20:=⟨Tryz.f221.name,by decide,Tryz.func221.trans (congrArg some (by kernel_rfl))⟩
 f21:=⟨Tryz.f222.name,by decide,Tryz.func222.trans (congrArg some (by kernel_rfl))⟩
 f22:=⟨Tryz.f223.name,by decide,Tryz.func223.trans (congrArg some (by kernel_rfl))⟩
 f23:=⟨Tryz.f224.name,by decide,Tryz.func224.trans (congrArg some (by kernel_rfl))⟩
 f24:=⟨Tryz.f225.name,by decide,Tryz.func225.trans (congrArg some (by kernel_rfl))⟩
 f25:=⟨Tryz.f226.name,by decide,Tryz.func226.trans (congrArg some (by kernel_rfl))⟩
 f26:=⟨Tryz.f227.name,by decide,Tryz.func227.trans (congrArg some (by kernel_rfl))⟩
 f27:=⟨Tryz.f228.name,by decide,Tryz.func228.trans (congrArg some (by kernel_rfl))⟩
 f28:=Tryz.func181.trans (congrArg some (by kernel_rfl))
 f29:=Tryz.func182.trans (congrArg some (by kernel_rfl))
 f46:=⟨Tryz.f265.name,by decide,Tryz.func265.trans (congrArg some (by kernel_rfl))⟩
 f47:=Tryz.func235.trans (congrArg some (by kernel_rfl))
 f48:=Tryz.func236.trans (congrArg some (by kernel_rfl))
 f49:=⟨Tryz.f266.name,by decide,Tryz.func266.trans (congrArg some (by kernel_rfl))⟩
 f50:=⟨Tryz.f267.name,by decide,Tryz.func267.trans (congrArg some (by kernel_rfl))⟩
 f57:=⟨Tryz.f278.name,by decide,Tryz.func278.trans (congrArg some (by kernel_rfl))⟩
 t0:=Tryz.underlying0
 a0:=Tryz.isAgg0
 z0:=Tryz.sizeOf0
 v0:=Tryz.zeroValue0
 t3:=Tryz.underlying3
 a3:=Tryz.isAgg3
 z3:=Tryz.sizeOf3
 v3:=Tryz.zeroValue3
 t4:=Tryz.underlying4
 a4:=Tryz.isAgg4
 z4:=Tryz.sizeOf4
 v4:=Tryz.zeroValue4
 t5:=Tryz.underlying5
 a5:=Tryz.isAgg5
 z5:=Tryz.sizeOf5
 v5:=Tryz.zeroValue5
 t9:=Tryz.underlying9
 a9:=Tryz.isAgg9
 z9:=Tryz.sizeOf9
 v9:=Tryz.zeroValue9
 t22:=Tryz.underlying91
 a22:=Tryz.isAgg91
 z22:=Tryz.sizeOf91
 v22:=Tryz.zeroValue91
 t25:=Tryz.underlying150
 a25:=Tryz.isAgg150
 z25:=Tryz.sizeOf150
 v25:=Tryz.zeroValue150
 t39:=Tryz.underlying154
 a39:=Tryz.isAgg154
 z39:=Tryz.sizeOf154
 v39:=Tryz.zeroValue154
 t45:=Tryz.underlying182
 a45:=Tryz.isAgg182
 z45:=Tryz.sizeOf182
 v45:=Tryz.zeroValue182
 t46:=Tryz.underlying183
 a46:=Tryz.isAgg183
 z46:=Tryz.sizeOf183
 v46:=Tryz.zeroValue183
 t50:=Tryz.underlying188
 a50:=Tryz.isAgg188
 z50:=Tryz.sizeOf188
 v50:=Tryz.zeroValue188
 t53:=Tryz.underlying191
 a53:=Tryz.isAgg191
 z53:=Tryz.sizeOf191
 v53:=Tryz.zeroValue191
 t55:=Tryz.underlying193
 a55:=Tryz.isAgg193
 z55:=Tryz.sizeOf193
 v55:=Tryz.zeroValue193
 t66:=Tryz.underlying238
 a66:=Tryz.isAgg238
 z66:=Tryz.sizeOf238
 v66:=Tryz.zeroValue238
 t70:=Tryz.underlying242
 a70:=Tryz.isAgg242
 z70:=Tryz.sizeOf242
 v70:=Tryz.zeroValue242
 t76:=Tryz.underlying267
 a76:=Tryz.isAgg267
 z76:=Tryz.sizeOf267
 v76:=Tryz.zeroValue267
 t77:=Tryz.underlying177
 a77:=Tryz.isAgg177
 z77:=Tryz.sizeOf177
 v77:=Tryz.zeroValue177 }
end Go.Proofs
namespace Go.Proofs.YthgabkgmkolobaaGreat
section
open Go.RowKit Go.Deep Go.Sort Go.Shelf Go.Lib
abbrev uS:=(Value×Value)×RT
def cz (r:RT):ByteArray:=⟨(fq r).toArray⟩
def oA (x:uS):List Value:=[x.1.1,x.1.2,.string (cz x.2)]
def lB (es:List uS):List Value:=es.flatMap oA
def ge (es:List uS) (k:Nat):uS:=es.getD k ((undef,undef),.node ByteArray.empty [])
theorem XS (es:List uS) (x:uS):lB (es++[x])=lB es++oA x:=by unfold lB;rw [sF];simp
theorem Ru:∀(es:List uS) (k:Nat),k<es.length->(lB es)[k*3]? = some (ge es k).1.1/\(lB es)[k*3+1]? = some (ge es k).1.2/\(lB es)[k*3+2]? = some (.string (cz (ge es k).2))
 | [],k,h=>absurd h (bG _)
 | x::es,0,_=>by simp [lB,oA,ge]
 | x::es,k+1,h=>by
  have ih:=Ru es k (by simpa using h)
  have e:(k+1)*3=k*3+1+1+1:=by omega
  have e2:ge (x::es) (k+1)=ge es k:=by simp [ge]
  have e3:lB (x::es)=x.1.1::x.1.2::.string (cz x.2)::lB es:=by simp [lB,oA]
  rw [e2,e3,e]
  simp only [List.getElem?_cons_succ]
  exact ih
def pY (base:Nat) (w:World) (v:Value) (es:List uS):Prop :=
 w.ownsRow base 96 3 v es.length (lB es)/\∀x∈es,aI (fun b=>some b≠v.ownBlock) w (.agg #[x.1.1,x.1.2]) (flat x.2)
theorem pY.nil (base:Nat) (w:World):pY base w (.slice none 0 0) []:=⟨World.ownsRow_nil _ _ _ _,fun _ h=>by cases h⟩
def ET (w:World) (v:Value) (qs:List RT):Prop :=
 ∃g cap,∃es:List uS,v=.slice (some ⟨g,0,none⟩) qs.length cap/\es.map (·.2)=qs/\(∀k,k<es.length->w.cell? ⟨g,k*3,none⟩=some (ge es k).1.1/\w.cell? ⟨g,k*3+1,none⟩=some (ge es k).1.2/\w.cell? ⟨g,k*3+2,none⟩=some (.string (cz (ge es k).2)))/\∀x∈es,aI Any w (.agg #[x.1.1,x.1.2]) (flat x.2)
theorem ge_mem {es:List uS} {k:Nat} (h:k<es.length):ge es k∈es:=by simp [ge,h]
theorem ET.keep {w w':World} {v:Value} {qs:List RT} (h:ET w v qs) (hu:Up w w'):ET w' v qs:=by
 obtain ⟨g,cap,es,e1,e2,h1,h2⟩:=h;exact ⟨g,cap,es,e1,e2,fun k hk=>⟨hu.cell (h1 k hk).1,hu.cell (h1 k hk).2.1,hu.cell (h1 k hk).2.2⟩,fun x hx=>(h2 x hx).keep (hu.kept _)⟩
section
variable {P:Program} {ops:Array Oper} {rest:List Oper} {o:Oper} {a:Act} {Q:Exit->Act->World->Prop}
theorem SM (W:World) (hgd:o.guard=none) (s x:Operand) (t:TypeId) (ho:o.op=.call { callee:=.builtin .append,args:=#[s,x],argTypes:=#[t,t] })
  (base:Nat) (z:Value) (bytes:Nat) (ht:P.underlying t=some (.slice 96)) (hinfo:(P.info? 96).map (fun i=>(i.zero,i.size,i.bytes))=some (some z,3,bytes))
  (hz1:z.cells.size=3) (qE:bytes<=64) {v:Value} {es:List uS} (hown:pY base W v es) (hs:a.eval s=v) (G:uS)
  (hx:a.eval x=.slice (some ⟨W.heap.size,0,none⟩) 1 1) (hu:aI (fun b=>some b≠v.ownBlock) W (.agg #[G.1.1,G.1.2]) (flat G.2)) (n:Nat) (qF:es.length=n) (hn:n<=1000000) (hbase:base<=W.heap.size)
  (h:∀g cap w',pY base w' (.slice (some ⟨g,0,none⟩) (n+1) cap) (es++[G])->W.grownBy w' v.ownBlock->Below base W w'->wpList P ops Q rest (a.put o.dst (.slice (some ⟨g,0,none⟩) (n+1) cap)) w') :
  wpList P ops Q (o::rest) a (W.alloc (.cells #[G.1.1,G.1.2,.string (cz G.2)] 96)):=by
 subst qF;obtain ⟨i,hi,hzz⟩:=mh.1 hinfo;simp only [mj] at hzz;obtain ⟨hz,hs1,hb⟩:=hzz;obtain ⟨hown,hrows⟩:=hown;have h1:G.1.1.oneCell'=true/\G.1.2.oneCell'=true:=by
  obtain ⟨P1,N1,e,hP,hN⟩:=hu;injection e with e;have e1:G.1.1=P1/\G.1.2=N1:=by simpa using e
  obtain ⟨p,c,e2,_⟩:=ay.open hP;obtain ⟨q,d,e3,_⟩:=ay.open hN;rw [e1.1,e1.2,e2,e3];exact ⟨rfl,rfl⟩
 refine wpList_append_lies _ hgd s x t ho base 96 i z 3 bytes ht hi hz hs1 hb hz1 (by omega) v es.length (lB es) hs (hown.alloc _) ⟨W.heap.size,0,none⟩ 1 1 (oA G) hx rfl ?_ (fun q hq=>by
  unfold oA at hq;rcases aW.1 hq with e | hq
  ·subst e;exact h1.1
  ·rcases aW.1 hq with e | hq
   ·subst e;exact h1.2
   ·rw [dP.1 hq];rfl) (by omega)
  (by unfold maxLen;omega) ?_ (by simp;omega) _ rfl fun g cap w' h2 h3 h4 _=>?_
 ·intro j u' hj
  match j with
  | 0 =>
   (obtain rfl:G.1.1=u':=by simpa [oA] using hj);exact aS W _ _ 0
  | 1 =>
   (obtain rfl:G.1.2=u':=by simpa [oA] using hj);exact aS W _ _ 1
  | 2 =>
   (obtain rfl:Value.string (cz G.2)=u':=by simpa [oA] using hj);exact aS W _ _ 2
  | j+3=>simp [oA] at hj
 ·have:(es.length+1)*bytes<=(es.length+1)*64:=sW _ qE
  omega
 ·have hg:=nB h3
  have LX:∀b:Nat,some b≠v.ownBlock->b<W.heap.size->some b≠(Value.slice (some ⟨g,0,none⟩) (es.length+1) cap).ownBlock:=fun b hb hlt e=>by
   simp only [Value.ownBlock,Eh] at e;rcases h4 with h4 | h4
   ·exact hb (by rw [h4,e])
   ·rw [aQ] at h4;omega
  have hkeep:∀ {u':Value} {y':az},aI (fun b=>some b≠v.ownBlock) W u' y'->aI (fun b=>some b≠(Value.slice (some ⟨g,0,none⟩) (es.length+1) cap).ownBlock) w' u' y':=fun hi'=>by obtain ⟨P1,N1,e,hP,hN⟩:=hi';have k:Kept (fun b=>some b≠v.ownBlock/\b<W.heap.size) W w':=fun b hb hlt=>hg.block b hlt hb.1;exact ⟨P1,N1,e,(ah.keep (hP.sub fun b hb hlt=>⟨hb,hlt⟩) k).sub fun b hb _=>LX b hb.1 hb.2,(au.keep (hN.sub fun b hb hlt=>⟨hb,hlt⟩) k).sub fun b hb _=>LX b hb.1 hb.2⟩
  refine h g cap w' ⟨by rw [aZ,XS];exact h2,fun x hx=>?_⟩ hg (zA (dM _ _) hg hbase fun k hk=>(j8 hown k hk).1);rcases dV.1 hx with hx | hx
  ·exact hkeep (hrows x hx)
  ·rw [dP.1 hx];exact hkeep hu
end
def N9 (x y:uS):Int:=if Lib.compareBytes (fq x.2) (fq y.2)<0 then -1 else if 0<Lib.compareBytes (fq x.2) (fq y.2) then 1 else 0
theorem Oa (x y:uS):ltOf N9 x y=decide (Lib.compareBytes (fq x.2) (fq y.2)<0):=by
 unfold ltOf N9;split
 ·rename_i h;simp [h]
 ·rename_i h
  split<;>simp [h]
theorem swo_E:SWO (ltOf N9) where
 irrefl x:=by rw [Oa,FD];simp
 trans x y z h1 h2:=by
  rw [Oa] at *
  simp only [decide_eq_true_eq] at *
  exact CU h1 h2
 ntrans x y z h1 h2:=by
  rw [Oa] at *
  simp only [decide_eq_false_iff_not] at *
  intro h3
  by_cases e:Lib.compareBytes (fq x.2) (fq y.2)=0
  ·rw [xT e] at h3;exact h2 h3
  ·have h4:=vB (fq x.2) (fq y.2)
   exact h2 (CU (show Lib.compareBytes (fq y.2) (fq x.2)<0 by omega) h3)
theorem entCmp_t (x y:uS) (W:World) :
  Calls Tryz.prog 123 #[.agg (oA x).toArray,.agg (oA y).toArray] W fun e w'=>e=.returned (.int .i64 (N9 x y))/\∃q os,w'=grow (W.drewN q) os:=by
 have HC:Hid (N9 x y=if Lib.compareBytes (fq x.2) (fq y.2)<0 then -1 else if 0<Lib.compareBytes (fq x.2) (fq y.2) then 1 else 0):=rfl;have hkx:(cz x.2).toList=fq x.2:=by rw [toList_data];rfl
 have hky:(cz y.2).toList=fq y.2:=by rw [toList_data];rfl
 have HL:Hid (Op.bytesLess (cz x.2).toList (cz y.2).toList=decide (Lib.compareBytes (fq x.2) (fq y.2)<0)):=by unfold Hid;rw [hkx,hky];exact FV _ _
 have HQ:Hid (((cz x.2).toList==(cz y.2).toList)=decide (Lib.compareBytes (fq x.2) (fq y.2)=0)):=by
  unfold Hid;rw [hkx,hky];by_cases e:fq x.2=fq y.2
  ·rw [e,FD];simp
  ·rw [beq_eq_false_iff_ne.2 e,decide_eq_false fun q=>e (xT q)]
 have HW:Hid (∃q os,(W.alloc (.cells #[x.1.1,x.1.2,.string (cz x.2)] 96)).alloc (.cells #[y.1.1,y.1.2,.string (cz y.2)] 96)=grow (W.drewN q) os):=⟨0,_,by rw [alloc_eq_grow,alloc_eq_grow,grow_grow];rfl⟩;clear hkx hky;unfold oA;generalize Lib.compareBytes (fq x.2) (fq y.2)=cb at *;generalize N9 x y=c at *
 go_enter Tryz.func123,Tryz.ntmps123
 go_wp2_with fail
 ·rename_i hb
  rw [HL.out] at hb;have hb:=of_decide_eq_true hb;go_ret;exact ⟨aM (by rw [HC.out,if_pos hb]),HW.out⟩
 ·rename_i hb hc
  rw [HL.out] at hb;have hb:=of_decide_eq_false hb;have hc:((cz x.2).toList==(cz y.2).toList)=false:=by simpa using hc
  rw [HQ.out] at hc;have hc:=of_decide_eq_false hc;go_ret;exact ⟨aM (by rw [HC.out,if_neg hb,if_pos (by omega)]),HW.out⟩
 ·rename_i hb hc
  rw [HL.out] at hb;have hb:=of_decide_eq_false hb;have hc:((cz x.2).toList==(cz y.2).toList)=true:=by simpa using hc
  rw [HQ.out] at hc;have hc:=of_decide_eq_true hc;go_ret;exact ⟨aM (by rw [HC.out,if_neg hb,if_neg (by omega)]),HW.out⟩
theorem ent_one {S:Nat->Prop} {w:World} {x:uS} (h:aI S w (.agg #[x.1.1,x.1.2]) (flat x.2)):x.1.1.oneCell'=true/\x.1.2.oneCell'=true:=by
 obtain ⟨P1,N1,e,hP,hN⟩:=h;injection e with e;have e1:x.1.1=P1/\x.1.2=N1:=by simpa using e
 obtain ⟨p,c,e2,_⟩:=ay.open hP;obtain ⟨q,d,e3,_⟩:=ay.open hN;rw [e1.1,e1.2,e2,e3];exact ⟨rfl,rfl⟩
theorem entSort_t {base:Nat} {w:World} {v:Value} {es:List uS} (h:pY base w v es) (hne:es≠[]) (hn:es.length<=1000000) :
  Calls Tryz.prog 122 #[v,.func (.func 123) #[] #[]] w fun e w'=>e=.returned (.tuple #[])/\w.grownBy w' v.ownBlock/\∃es':List uS,es'.Perm es/\(es'.map (·.2)).Pairwise kZ /\
   ∃g cap,v=.slice (some ⟨g,0,none⟩) es'.length cap/\∀k,k<es'.length->w'.cell? ⟨g,k*3,none⟩=some (ge es' k).1.1/\w'.cell? ⟨g,k*3+1,none⟩=some (ge es' k).1.2/\w'.cell? ⟨g,k*3+2,none⟩=some (.string (cz (ge es' k).2)):=by
 obtain ⟨ho,hT⟩:=h;obtain ⟨x0,hx0⟩:∃x,x∈es:=Fs _ hne;have hl0:0<es.length:=Ak.2 hne;letI:Inhabited {x // x∈es}:=⟨⟨x0,hx0⟩⟩;obtain ⟨blk,cap,hv⟩:∃blk cap,v=.slice (some ⟨blk,0,none⟩) es.length cap:=by
  rcases ho.2 with ⟨_,h0⟩ | ⟨g,cap,cur,e,_⟩
  ·exfalso
   have:=h0;omega
  ·exact ⟨g,cap,e⟩
 subst hv;have hblk:blk<w.heap.size:=(j8 ho blk rfl).2;have hsize:(es.attach.toArray).size=es.length:=by simp
 have Pq:∀i,i<es.length->((es.attach.toArray)[i]!).1=ge es i:=fun i hi=>by rw [getElem!_pos _ _ (by simpa using hi)];simp [ge,hi]
 have hfz:∀j,w.frozen? ⟨blk,j,none⟩=false:=fun j=>by
  rcases ho.2 with ⟨e,_⟩ | ⟨g',cap',cur,hs',_,hc',_⟩
  ·cases e
  ·injection hs' with hs1
   injection hs1 with hs1;injection hs1 with hs1;subst hs1;simp [World.frozen?,hc']
 have hH:HoldsK (fun x:{x // x∈es}=>oA x.1) 3 w blk 0 es.attach.toArray:=by
  intro j hj;rw [size_flatK,hsize] at hj;refine ⟨?_,by rw [mg];exact hfz j⟩;rw [get_flatK _ _ _ _ (by rw [hsize];exact hj),mg,ho.cellAt j hj];have hi:j / 3<es.length:=by omega
  obtain ⟨c1,c2,c3⟩:=Ru es (j / 3) hi;show _=some ((oA ((es.attach.toArray)[j / 3]!).1)[j % 3]!);rw [Pq _ hi];have h3:j % 3=0\/j % 3=1\/j % 3=2:=by omega
  rcases h3 with h3 | h3 | h3
  ·rw [h3,show (lB es)[j]? = (lB es)[j / 3*3]? by congr 1;omega,c1];simp [oA]
  ·rw [h3,show (lB es)[j]? = (lB es)[j / 3*3+1]? by congr 1;omega,c2];simp [oA]
  ·rw [h3,show (lB es)[j]? = (lB es)[j / 3*3+2]? by congr 1;omega,c3];simp [oA]
 have hgb:∀(m:Nat) (os:Array Obj) (dk:Array {x // x∈es}),w.grownBy (sortWorldK (fun x:{x // x∈es}=>oA x.1) 3 w blk 0 m dk os) (some blk):=fun m os dk=>⟨rfl,rfl,rfl,size_sortWorldK_c _ _ _ _ _ _ _ _,fun b hb hne=>iL (enc:=id) (fun e=>hne (by rw [e])) hb⟩;have hcmp:CmpLays Tryz.prog 123 #[] (fun x:{x // x∈es}=>oA x.1) 3 (fun x y=>N9 x.1 y.1) blk 0 es.attach.toArray.size w:=fun m os dk _ x y=>entCmp_t x.1 y.1 _
 have hcon:=AnyQ.slices_SortFunc Tryz.sortEnt 3 Tryz.isAgg96 Tryz.sizeOf96 (fun x:{x // x∈es}=>oA x.1) (fun _=>rfl) (fun x u hu=>by
   obtain ⟨o1,o2⟩:=ent_one (hT x.1 x.2);unfold oA at hu;rcases aW.1 hu with e | hu
   ·subst e;exact o1
   ·rcases aW.1 hu with e | hu
    ·subst e;exact o2
    ·rw [dP.1 hu];rfl) (fun x y=>N9 x.1 y.1) ⟨fun x=>swo_E.irrefl x.1,fun x y z=>swo_E.trans x.1 y.1 z.1,fun x y z=>swo_E.ntrans x.1 y.1 z.1⟩ 123 #[] blk 0 cap es.attach.toArray w (enters_of Tryz.func123 (by kernel_rfl) rfl) hcmp hH hblk (by rw [hsize];omega)
 rw [hsize] at hcon;refine hcon.mono fun e w' ⟨he,d',m,os,Rv,G0,hw⟩=>⟨he,by rw [hw];exact hgb m os d',d'.toList.map (·.1),?_,?_,blk,cap,?_,?_⟩
 ·obtain ⟨hsz,_,qB⟩:=Rv
  have e1:d'.extract 0 es.length=d':=by rw [<- hsize,<- hsz];exact Array.extract_size
  have e2:es.attach.toArray.extract 0 es.length=es.attach.toArray:=by rw [<- hsize];exact Array.extract_size
  rw [e1,e2] at qB;have h2:=qB.map (fun (x:{x // x∈es})=>x.1);rw [List.toList_toArray,List.attach_map_subtype_val] at h2;exact h2
 ·obtain ⟨hsz,_,_⟩:=Rv
  rw [hsize] at hsz;rw [jO,uD,nS];intro i j hi hj hij;have hi':i<d'.size:=by simpa using hi
  have hj':j<d'.size:=by simpa using hj
  have h3:=G0 i j (aL _) hij (by omega);rw [getElem!_pos d' j hj',getElem!_pos d' i hi'] at h3;have h4:ltOf N9 (d'[j]'hj').1 (d'[i]'hi').1=false:=h3;rw [Oa,decide_eq_false_iff_not] at h4;show Lib.compareBytes (fq (d'.toList[i]'(by simpa using hi)).1.2) (fq (d'.toList[j]'(by simpa using hj)).1.2)<=0;rw [Array.getElem_toList,Array.getElem_toList];have:=vB (fq (d'[j]'hj').1.2) (fq (d'[i]'hi').1.2);omega
 ·have:d'.size=es.length:=by rw [Rv.1,hsize]
  simp [this]
 ·intro k hk
  have hk':k<d'.size:=by simpa using hk
  have hHd:=holdsK_sortWorldK_c (fun x:{x // x∈es}=>oA x.1) 3 w blk 0 es.attach.toArray d' m os hH hblk Rv.1;have hge:ge (d'.toList.map (·.1)) k=(d'[k]!).1:=by rw [getElem!_pos d' k hk'];simp [ge,hk']
  have c0:=(hHd.cell (i:=k) (c:=0) hk' (by decide)).1;have c1:=(hHd.cell (i:=k) (c:=1) hk' (by decide)).1;have c2:=(hHd.cell (i:=k) (c:=2) hk' (by decide)).1;rw [mg] at c0 c1 c2;rw [hge,hw];exact ⟨c0,c1,c2⟩
end
section
open Go.RowKit Go.Deep
theorem tT {s:ByteArray} (h:b7 s.data.toList=true):s.size<=20:=by
 have hl:s.data.toList.length=s.size:=size_data s;unfold b7 jl at h;split at h
 ·simp only [gD,decide_eq_true_eq] at h;omega
 ·simp only [gD,decide_eq_true_eq] at h;omega
theorem Rw {S:Nat->Prop} {w:World} {b o n cap:Nat} {xs:List ByteArray} (h:au S w (.slice (some ⟨b,o,none⟩) n cap) xs) (hn:2<=xs.length):au S w (.slice (some ⟨b,o+1,none⟩) (xs.length - 1) (cap - 1)) xs.tail:=by
 obtain ⟨p,c,e,hc,h⟩:=h;injection e with e1 e2 e3;subst e1;subst e3;refine ⟨_,_,by rw [yD],by rw [yD];omega,?_⟩;rcases h with h | ⟨b',o',e4,hS,h⟩
 ·omega
 ·injection e4 with e4
  injection e4 with e5 e6;subst e5;subst e6;refine .inr ⟨b,o+1,rfl,hS,fun k hk=>?_⟩;rw [yD] at hk;have:=h (k+1) (by omega);rw [show o+1+k=o+(k+1) by omega,this];show some (Value.string (gs xs (k+1)))=some (Value.string (gs xs.tail k));have:gs xs.tail k=gs xs (k+1):=by
   unfold gs;cases xs with
   | nil=>simp at hn
   | cons a l=>rfl
  rw [this]
def wA (aac:List ByteArray) (s:ByteArray):ByteArray:=⟨#[40]⟩++gs aac 0++⟨#[44]⟩++s++⟨#[41,59]⟩
structure EnF (aac:List ByteArray) (r:BT ByteArray):Prop where
 pars:qw (wA aac (qx r)).data.toList=some (eF (uB aac r))
 psz:(wA aac (qx r)).size<=1000
 te:aH (flat (eF (uB aac r)))=0
 can:o8 (flat (eF (uB aac r)))=flat (uR aac r)
 te2:aH (flat (uR aac r))=0
 tx:De (flat (uR aac r))=fq (uR aac r)
 len:aU (eF (uB aac r))<=9/\aU (uR aac r)<=9
 sz:∀k,(gs (flat (eF (uB aac r))).ns k).size<=70000
 sz2:∀k,(gs (flat (uR aac r)).ns k).size<=70000
theorem DZ {r:RT} (h:iq r) (k:Nat):(gs (flat r).ns k).size<=70000:=by
 refine lF (M:=70000) (fun x hx=>?_) k;have hx:x∈gJ r:=hx;rw [wk] at hx;obtain ⟨s,hs,rfl⟩:=cm.1 hx;by_cases e:s.kids=[]
 ·exact aJ (tT (h.lf s hs e)) (by decide)
 ·rw [h.wm s hs e];exact aL _
theorem enF {aac:List ByteArray} (h:gT aac) {r:BT ByteArray} (hr:r∈r5 aac.tail):EnF aac r:=by
 have hp:r.eR.Perm aac.tail:=Iy _ _ _ hr;have ho:=uB_ok h hp;have hg:=ho.Ri.good;have hhi:=h.hi;have hlo:=h.lo;have hl:=(EO h hp).length_eq;have hs:=J6 (uB aac r);have hz:∀x∈aac,x.size<=20:=fun x hx=>tT (h.nm x hx);have ht:=BS hg (by omega);have EA:r∈rt aac.length aac.tail:=by have:rt aac.length aac.tail=r5 aac.tail:=yc _ _ _ (by simp) (af _);rw [this];exact hr
 obtain ⟨_,_,q3,_,q5,_⟩:=jU h (F3.2 ⟨r,EA,rfl⟩);refine ⟨?_,?_,ht,by rw [wh ht,vE];rfl,q5,by rw [txT_eq q5,vE];rfl,by omega,DZ hg,DZ (r:=uR aac r) hg.sort⟩
 ·have e:(wA aac (qx r)).data.toList=dy (eF (uB aac r))++[59]:=by
   unfold wA qx uB
   rw [bt_tx,eF,FY]
   simp
  rw [e];exact EK hg.qq
 ·have h1:=F4 r fun x hx=>hz x (JU (hp.mem_iff.1 hx))
  have h2:=hp.length_eq;have h3:=lF hz 0;rw [yD] at h2;unfold wA;simp only [ByteArray.size_append];show 1+(gs aac 0).size+1+(qx r).size+2<=1000;omega
def U7 (w:World) (aac:List ByteArray) (e:Ending) (w':World):Prop:=Up w w'/\∃v,e=.returned (.tuple #[v,.int .i64 0])/\ET w' v (cI aac)
theorem zk {base n size:Nat} {e:TypeId} {w w':World} {v:Value} {vs:List Value} (h:w.ownsRow base e size v n vs) (k:∀b,v.ownBlock=some b->w'.heap[b]? = w.heap[b]?):w'.ownsRow base e size v n vs:=by
 refine ⟨h.1,?_⟩;rcases h.2 with h2 | ⟨g,cap,cur,hv,hg,hc,h3⟩
 ·exact .inl h2
 ·exact .inr ⟨g,cap,cur,hv,hg,(k g (by rw [hv];rfl)).trans hc,h3⟩
theorem pY.up {base:Nat} {w w':World} {v:Value} {es:List uS} (h:pY base w v es) (hu:Up w w'):pY base w' v es :=
 ⟨zk h.1 fun b hb=>bI hu b (j8 h.1 b hb).2,fun x hx=>(h.2 x hx).keep (hu.kept _)⟩
def gB (R:List (BT ByteArray)) (n:Nat):BT ByteArray:=R.getD n (.leaf ByteArray.empty)
theorem rts_gs {L:List ByteArray} {n:Nat} (h:n<(r5 L).length):gs (dH L) n=qx (gB (r5 L) n)/\gB (r5 L) n∈r5 L:=by
 unfold gs gB dH;constructor
 ·simp [h]
 ·simp [h]
end
end Go.Proofs.YthgabkgmkolobaaGreat
