/- optimaltree.rooted: the texts of all .. -/
import Derived.Shelf.SlSortCmp.WholeK
import Derived.Ground.SlsfProg
import Derived.Test.YthgabkgmkolobaaGreatQ27
set_option maxRecDepth 100000
set_option maxHeartbeats 8000000
namespace Go.Proofs.YthgabkgmkolobaaGreat
open Go.RowKit Go.Shelf Go.Deep Go.Sort
def qa (amd:List ByteArray) (pre:List Dv):List ByteArray:=(pre.map (·.1)).flatMap (J3 amd)
structure D7 (w:World) (amd:List ByteArray) (pre:List Dv) (L:Nat->Prop) (W:World):Prop where
 up:Up w W
 sz:w.heap.size+1<=W.heap.size
 lo:∀b,L b->w.heap.size<=b
 nL:¬L w.heap.size
 ex:∃ov,W.heap[w.heap.size]? = some (Obj.cells #[ov] 22 (0,0))/\au (w.heap.size+1) 9 W ov ((qa amd pre).map Value.string)/\∀g,ov.ownBlock=some g->¬L g
section
variable {w:World} {amd:List ByteArray}
theorem D7.ab:QN (D7 w amd):=by
 rintro s L L' W W' h hs;obtain ⟨ov,h1,h2,h7⟩:=h.ex;have hsz:=h.sz;have hnl:∀b,b<W.heap.size->¬L b->¬L' b:=fun b hb hn hb'=>by
  rcases hs.more b hb' with e | e
  ·exact hn e.1
  ·omega
 refine ⟨⟨hs.os.trans h.up.os,hs.tape.trans h.up.tape,hs.output.trans h.up.output,aB h.up.size hs.size,fun b hb=>(hs.block b (by omega) fun e=>by have:=h.lo b e;omega).trans (h.up.block b hb)⟩,by have:=hs.size;omega,fun b hb=>?_,hnl _ (by omega) h.nL,
  ov,(hs.block _ (by omega) h.nL).trans h1,au.yc h2 fun b hb=>hs.block b (av h2 hb).2 (h7 b hb),fun g hg=>hnl g (av h2 hg).2 (h7 g hg)⟩
 rcases hs.more b hb with e | e
 ·exact h.lo b e.1
 ·omega
theorem D7.own {B:Nat} (hB:w.heap.size+1<=B) (L:Nat->Prop):OwnFrom B (fun s W=>D7 w amd s L W):=by
 intro s X Y row h hg hr;obtain ⟨ov,h1,h2,h7⟩:=h.ex;have hsz:=h.sz;have qj:∀b,b<w.heap.size+1->Y.heap[b]? = X.heap[b]?:=fun b hb=>hg.block b (by omega) fun e=>by have:=(hr b e.symm).1;omega
 refine ⟨⟨hg.os.trans h.up.os,hg.tape.trans h.up.tape,hg.output.trans h.up.output,aB h.up.size hg.size,fun b hb=>(qj b (by omega)).trans (h.up.block b hb)⟩,by have:=hg.size;omega,h.lo,h.nL,ov,(qj _ (by omega)).trans h1,
  au.yc h2 fun b hb=>hg.block b (av h2 hb).2 fun e=>?_,h7⟩
 obtain ⟨_,o,h8,h9⟩:=hr b e.symm;obtain ⟨c,h10⟩:=au.kL h2 hb;rw [h10] at h8;injection h8 with h8;subst h8;cases h9
end
structure D8 (w:World) (L:Nat->Prop) (W W2:World) (B:Nat) (wr:World) (ov:Value) (T:List ByteArray):Prop where
 up:Up w wr
 size:W2.heap.size<=wr.heap.size
 keep:∀b,(L b\/(W.heap.size<=b/\b<W2.heap.size))->wr.heap[b]? = W2.heap[b]?
 kf:∀k o,B<=k->W.heap[k]? = some o->o.isCells=false->wr.heap[k]? = some o
 box:wr.heap[w.heap.size]? = some (Obj.cells #[ov] 22 (0,0))
 own:au (w.heap.size+1) 9 wr ov (T.map Value.string)
 nL:∀g,ov.ownBlock=some g->¬L g/\(g<W.heap.size\/W2.heap.size<=g)
section
variable {w W W2 wr X:World} {amd:List ByteArray} {L:Nat->Prop} {B:Nat} {ov:Value} {T:List ByteArray} {s:ByteArray} {g cap k:Nat} {pre:List Dv} {x:Dv}
theorem D7.start (h:D7 w amd pre L W) (hu:Up W W2):∃ov,D8 w L W W2 B W2 ov (qa amd pre):=by
 obtain ⟨ov,h1,h2,h7⟩:=h.ex;have hsz:=h.sz;exact ⟨ov,⟨h.up.trans hu,ah _,fun _ _=>rfl,fun k o _ hk _=>(bH hu k (fq.1 hk).1).trans hk,(bH hu _ (by omega)).trans h1,h2.eH fun b hb=>bH hu b (av h2 hb).2,fun g hg=>⟨h7 g hg,.inl (av h2 hg).2⟩⟩⟩
theorem D8.cells (h:D8 w L W W2 B wr ov T):wr.cell? ⟨w.heap.size,0,none⟩=some ov/\wr.frozen? ⟨w.heap.size,0,none⟩=false:=by
 refine ⟨?_,?_⟩<;>simp [World.cell?,World.frozen?,h.box]
theorem D8.kept (h:D8 w L W W2 B wr ov T):Kept (fun b=>L b\/(W.heap.size<=b/\b<W2.heap.size)) W2 wr:=fun b hb _=>h.keep b hb
theorem D8.push (h:D8 w L W W2 B wr ov T) (hw:w.heap.size<W.heap.size) (xm:¬L w.heap.size) (hL:∀b,L b->b<wr.heap.size) (hB:w.heap.size<B) (ho:au (w.heap.size+1) 9 X (.slice (some ⟨g,0,none⟩) k cap) (T.map Value.string++[.string s])) (hg:wr.grownBy X ov.ownBlock) (gH:ov.ownBlock=some g\/wr.heap.size<=g) :
  (X.cell? ⟨w.heap.size,0,none⟩=some ov/\X.frozen? ⟨w.heap.size,0,none⟩=false)/\D8 w L W W2 B (X.setCell ⟨w.heap.size,0,none⟩ (.slice (some ⟨g,0,none⟩) k cap)) (.slice (some ⟨g,0,none⟩) k cap) (T++[s]):=by
 have Jt:∀q,ov.ownBlock=some q->w.heap.size+1<=q/\q<wr.heap.size:=fun q hq=>av h.own hq;have hbl:w.heap.size<wr.heap.size:=(fq.1 h.box).1;have iM:X.heap[w.heap.size]? = some (Obj.cells #[ov] 22 (0,0)):=(hg.block _ hbl fun e=>by have:=(Jt _ e.symm).1;omega).trans h.box;have cA:∀b,b≠w.heap.size->(X.setCell ⟨w.heap.size,0,none⟩ (.slice (some ⟨g,0,none⟩) k cap)).heap[b]? = X.heap[b]?:=fun b hb=>blk_setCell_other _ _ _ _ hb;have hsz:(X.setCell ⟨w.heap.size,0,none⟩ (.slice (some ⟨g,0,none⟩) k cap)).heap.size=X.heap.size:=by simp [World.size_setCell]
 refine ⟨by constructor<;>simp [World.cell?,World.frozen?,iM],⟨hg.os.trans h.up.os,hg.tape.trans h.up.tape,hg.output.trans h.up.output,by rw [hsz];exact aB h.up.size hg.size,fun b hb=>?_⟩,by rw [hsz];exact aB h.size hg.size,fun b hb=>?_,fun q o hq hk hc=>?_,by simp [World.setCell,Array.getElem?_modify,iM],?_,fun q hq=>?_⟩
 ·rw [cA b (by omega)]
  exact (hg.block b (by omega) fun e=>by have:=(Jt _ e.symm).1;omega).trans (h.up.block b hb)
 ·have hne:b≠w.heap.size:=fun e=>by
   subst e
   rcases hb with hb | hb
   ·exact xm hb
   ·omega
  rw [cA b hne]
  refine (hg.block b ?_ fun e=>?_).trans (h.keep b hb)
  ·rcases hb with hb | hb
   ·exact hL b hb
   ·have:=h.size;omega
  ·obtain ⟨n1,n2⟩:=h.nL b e.symm
   rcases hb with hb | hb
   ·exact n1 hb
   ·omega
 ·have h1:=h.kf q o hq hk hc
  rw [cA q (by omega)];refine (hg.block q (fq.1 h1).1 fun e=>?_).trans h1;obtain ⟨c,h10⟩:=au.kL h.own e.symm;rw [h1] at h10;injection h10 with h10;subst h10;cases hc
 ·rw [cg]
  exact ho.eH fun b hb=>cA b (by have:=(av ho hb).1;omega)
 ·have hq:some g=some q:=hq
  injection hq with hq;subst hq;rcases gH with e | e
  ·exact h.nL g e
  ·exact ⟨fun hl=>by have:=hL g hl;omega,.inr (aB h.size e)⟩
theorem D8.fin (h0:D7 w amd pre L W) (hu:Up W W2) (hL:∀b,L b->b<W.heap.size) (h:D8 w L W W2 B wr ov T) (hT:T=qa amd (pre++[x])) :
  KeepsFrom B W wr/\Below w.heap.size w wr/\(∀b,(L b\/False)->wr.heap[b]? = W.heap[b]?)/\D7 w amd (pre++[x]) L wr:=by
 have hs:=hu.size;have hs2:=h.size;have hs0:=h0.sz;refine ⟨⟨aB hs hs2,h.kf⟩,h.up,fun b hb=>?_,h.up,by omega,h0.lo,h0.nL,ov,h.box,by rw [<- hT];exact h.own,fun g hg=>(h.nL g hg).1⟩;have hb:L b:=hb.resolve_right id;exact (h.keep b (.inl hb)).trans (bH hu b (hL b hb))
end
def Lu (S:Nat->Prop) (w:World) (amd:List ByteArray) (e:Ending) (w':World):Prop:=Up w w'/\∃v,e=.returned v/\aj (fun b=>S b\/w.heap.size<=b) w' v (cV amd)
theorem ab3 (amd:List ByteArray) (pre:List Dv) (x:Dv):qa amd (pre++[x])=qa amd pre++J3 amd x.1:=by
 unfold qa;rw [cg,qq];simp
def wM (amd:List ByteArray) (bits n:Nat):List ByteArray:=((cV (dA amd bits)).take n).flatMap fun s=>(cV (dB amd bits)).map fun t=>pairT s t
theorem ab4 (amd:List ByteArray) (bits:Nat) {n:Nat} (h:n<(cV (dA amd bits)).length):wM amd bits (n+1)=wM amd bits n++(cV (dB amd bits)).map fun t=>pairT (gs (cV (dA amd bits)) n) t:=by
 have hg:gs (cV (dA amd bits)) n=(cV (dA amd bits))[n]:=by simp [gs,h]
 unfold wM;rw [jQ h,qq,hg];simp
theorem aeS (amd:List ByteArray) (bits:Nat):wM amd bits (cV (dA amd bits)).length=J3 amd bits:=by unfold wM J3;rw [fT]
theorem ab5:∀(d:Nat) (amd:List ByteArray),amd.length<=d->1<=amd.length->amd.length<=4->(∀x∈amd,x.size<=20)->∀(S:Nat->Prop) (w:World) (v:Value),aj S w v amd->Calls Tryz.prog 120 #[v] w (Lu S w amd):=by
 intro d
 induction d with
 | zero=>intro amd h1 h2;omega
 | succ d ih =>
 intro amd hd h1 h4 hz S w v h;obtain ⟨mp,mc,rfl,-,-⟩:=aq.open h;have h:aj S w (.slice mp amd.length mc) amd:=h;by_cases hone:amd.length=1
 ·have d1:((amd.length:Int)==1)=true:=by rw [hone];rfl
  have hrt:cV amd=amd:=by obtain ⟨x,rfl⟩:=zZ.1 hone;exact aeH x
  have HX:Hid (Lu S w amd (.returned (.slice mp amd.length mc)) w):=⟨Up.refl _,_,rfl,by rw [hrt];exact h.sub fun b hb _=>.inl hb⟩;clear h hrt hone ih;go_in;go_wp2;go_ret;exact HX.out
 have d1:((amd.length:Int)==1)=false:=beq_eq_false_iff_ne.2 (by omega);have h2:2<=amd.length:=by omega
 have oO:=aa ih;have HH:=aa h;have HZ:=aa hz;have HD:=aa hd;clear ih h hz hd h1 hone;refine (callsIn_wide (n:=9)).1 ?_;refine callsIn_of_wp_marks Tryz.func120 rfl trivial ?_;simp only [Tryz.ntmps120,dY,aW,dw,Nat.reduceAdd,Nat.reduceSub,iu,iw,dX,s9,di,cm];have hb1:=blk_alloc_new w (.cells #[.slice none 0 0] 22);have bK:=Up.alloc w (.cells #[.slice none 0 0] 22);have hs1:(w.alloc (.cells #[.slice none 0 0] 22)).heap.size=w.heap.size+1:=by simp
 have mO:=aa hb1;have cB:=aa bK;have lg:=aa hs1;clear hb1 bK hs1;gi_wp2_with fail;generalize w.alloc (.cells #[.slice none 0 0] 22)=w1 at *;refine ⟨trivial,(callsIn_wide.2 (Tc w1 _ _ _)).mono ?_⟩;rintro e w9 ⟨rfl,AU⟩;have qK:Up w1 w9:=by rw [AU];exact Up.alloc _ _
 have Kh:w9.heap.size=w1.heap.size+1:=by rw [AU];simp
 have UA:=mA w1 (.slice mp amd.length mc) 22;rw [<- AU] at UA;have AP:aj Any w (.slice mp amd.length mc) amd:=HH.out.sub fun _ _ _=>trivial
 have hseq:=ab2 (w0:=w) (w9:=w9) (Bt:=w1.heap.size) (N:=8) 8 h2 h4 (by rw [lg.out];omega) UA AP (by
  have:2 ^ (amd.length - 1)<=2 ^ 3:=Nat.pow_le_pow_right (by decide) (by omega)
  omega)
 have hI0:D7 w amd [] (fun b=>b=w1.heap.size) w9:=⟨cB.out.trans qK,by rw [Kh,lg.out];omega,fun b hb=>by rw [hb,lg.out];omega,by rw [lg.out];omega,.slice none 0 0,(bH qK _ (by rw [lg.out];omega)).trans mO.out,au.nil _ _ _,fun g hg=>by cases hg⟩;have H9:Hid (w9.heap.size=w.heap.size+2):=by unfold Hid;rw [Kh,lg.out]
 have al4:=aa lg.out;clear AU qK Kh UA AP mO;gi_wp2_with fail;apply GV (F:=Fence.wide) (n:=9) (P:=Tryz.prog) (ps:=#[17,18]) (w:=w9) rfl (by omega) (gf:=215) (lb:=#[.pointer (some ⟨w1.heap.size,0,none⟩)]) rfl trivial (enters_of Tryz.func215 (by kernel_rfl) rfl)
  hseq (fun b hb=>by have:=H9.out;have:=lg.out;omega) (fun x L W b h1 h2=>h2.elim) hI0.up (fun _=>rfl) (fun x L=>aeQ x L)
  (D7 w amd) D7.ab (D7.own (by have:=H9.out;omega)) hI0
 ·intro l x W K hK
  gi_wp2_with (rw [gF _ _ _ (fun c h=>by cases h)];go_simp;try go_bits);exact hK
 ·rintro l pre ⟨bits,va,vb⟩ L W hI hG iE J4 hlen
  obtain ⟨⟨g1,g2⟩,ga,gb⟩:=hG;dsimp only at g1 g2 ga gb;obtain ⟨l1,l2,l3,l4⟩:=adR h2 g1 g2;have hma:=(adS (L:=amd) (bits:=bits) (by omega)).1;have hmb:=(adS (L:=amd) (bits:=bits) (by omega)).2;have hza:∀x∈dA amd bits,x.size<=20:=fun x hx=>HZ.out x (hma x hx);have hzb:∀x∈dB amd bits,x.size<=20:=fun x hx=>HZ.out x (hmb x hx);have DV:Hid ((cV (dA amd bits)).length<=15/\∀k,(gs (cV (dA amd bits)) k).size<=100):=⟨Cy (by omega),vE fun x hx=>IA (by omega) hza hx⟩;have JP:Hid ((cV (dB amd bits)).length<=15/\∀k,(gs (cV (dB amd bits)) k).size<=100):=⟨Cy (by omega),vE fun x hx=>IA (by omega) hzb hx⟩;have hpf:(qa amd pre).length<=8*225:=by unfold qa;(have h1:=Dk (f:=J3 amd) (K:=225) (pre.map (·.1)) fun b _=>by have p1:=Ag (fun i=>!b.testBit i) amd.tail (amd.length - 1);have p2:=Ag (fun i=>b.testBit i) amd.tail (amd.length - 1);exact aeJ (by unfold dA;simp only [aW];omega) (by unfold dB;omega));rw [aD] at h1;exact aB h1 (Nat.mul_le_mul_right _ (by omega))
  have HPF:=aa hpf;have mz:=aa (oO.out (dB amd bits) (by have:=HD.out;omega) l4 (by omega) hzb L W vb gb);have UB:Hid (∀W1,Up W W1->Calls Tryz.prog 120 #[va] W1 (Lu L W1 (dA amd bits))):=fun W1 hW=>oO.out (dA amd bits) (by have:=HD.out;omega) l2 (by omega) hza L W1 va (aj.keep ga (hW.kept _));have HI:=aa hI;have dG:Hid (∀b,L b->b<W.heap.size):=fun b hb=>(J4 b hb).2;clear hI ga gb iE J4 hlen hma hmb hza hzb l1 l2 l3 l4 g1 g2 hpf hseq hI0;dsimp only;gi_wp2_with (rw [gF _ _ _ (fun c h=>by cases h)];go_simp;try go_bits);refine ⟨trivial,(callsIn_wide.2 mz.out).mono ?_⟩;rintro e W1 ⟨bK,sb,rfl,uS⟩;have HUa:=aa bK;clear bK mz;gi_wp2_with (rw [gF _ _ _ (fun c h=>by cases h)];go_simp;try go_bits);refine ⟨trivial,(callsIn_wide.2 (UB.out W1 HUa.out)).mono ?_⟩;rintro e W2 ⟨aI,sa,rfl,JO⟩;have hs1:=HUa.out.size;have hs2:=aI.size;have fo:Hid (aj (fun b=>L b\/(W.heap.size<=b/\b<W2.heap.size)) W2 sb (cV (dB amd bits))):=(aj.keep uS (aI.kept _)).sub fun b hb hl=>hb.imp id fun e=>⟨e,hl⟩;have uH:Hid (aj (fun b=>L b\/(W.heap.size<=b/\b<W2.heap.size)) W2 sa (cV (dA amd bits))):=JO.sub fun b hb hl=>hb.imp id fun e=>⟨by omega,hl⟩;have b7:=aa (HUa.out.trans aI);obtain ⟨ov0,hR0⟩:=HI.out.start (B:=w9.heap.size) b7.out;have UC:=aa hR0;obtain ⟨ap,ac,rfl,-,-⟩:=aq.open uH.out;obtain ⟨bp,bc,rfl,-,-⟩:=aq.open fo.out;have uH:Hid (aj (fun b=>L b\/(W.heap.size<=b/\b<W2.heap.size)) W2 (.slice ap (cV (dA amd bits)).length ac) (cV (dA amd bits))):=uH.out;have fo:Hid (aj (fun b=>L b\/(W.heap.size<=b/\b<W2.heap.size)) W2 (.slice bp (cV (dB amd bits)).length bc) (cV (dB amd bits))):=fo.out;have Y7:Hid (w.heap.size<W.heap.size/\¬L w.heap.size/\w.heap.size<w9.heap.size/\∀b,L b->b<W2.heap.size):=⟨HI.out.sz,HI.out.nL,by have:=H9.out;omega,fun b hb=>by have:=dG.out b hb;omega⟩;have PR:Hid (qa amd pre=qa amd pre++wM amd bits 0):=by unfold Hid wM;simp
  rw [PR.out] at UC;clear aI JO uS hs1 hs2 hR0 UB HUa PR;gi_wp2_with (rw [gF _ _ _ (fun c h=>by cases h)];go_simp;try go_bits)
  gi_loopw [8,10,24] (fun _ _ i wr=>∃(n:Nat) (ov:Value),n<=(cV (dA amd bits)).length/\i=.int .i64 n/\Hid (D8 w L W W2 w9.heap.size wr ov (qa amd pre++wM amd bits n))) (fun _ _ i _=>(cV (dA amd bits)).length - (intOf i).toNat)
  case atStart=>exact ⟨0,_,aF _,rfl,UC.out⟩
  case round =>
   obtain ⟨n,ov,hn,rfl,hR⟩:=hrel;obtain ⟨wo,rfl⟩:=eM wr;(have i0:(0:Int)<=(n:Int):=by omega);by_cases hlt:n<(cV (dA amd bits)).length
   ·obtain ⟨ab,ao,rfl,hca⟩:=cH (aj.keep uH.out hR.out.kept) hlt
    (have i1:(n:Int)<((cV (dA amd bits)).length:Int):=by omega);(have i2:(n:Int)<16:=by have:=DV.out.1;omega);have aR:=aa hlt;have PN:=aa (ab4 amd bits hlt);have HR:=aa hR.out;have HZN:Hid ((gs (cV (dA amd bits)) n).size<=100):=DV.out.2 n;generalize gs (cV (dA amd bits)) n=sn at *;clear hR hlt;gi_wp2_with (rw [gF _ _ _ (fun c h=>by cases h)];go_simp;try go_bits)
    gi_loopw [10,30] (fun _ i wr=>∃(m:Nat) (ov:Value),m<=(cV (dB amd bits)).length/\i=.int .i64 m/\Hid (D8 w L W W2 w9.heap.size wr ov ((qa amd pre++wM amd bits n)++((cV (dB amd bits)).take m).map fun t=>pairT sn t))) (fun _ i _=>(cV (dB amd bits)).length - (intOf i).toNat)
    case atStart=>exact ⟨0,_,aF _,rfl,by rw [List.take_zero,List.map_nil,eG];exact HR.out⟩
    case round =>
     obtain ⟨m,ov2,hm,rfl,Mb⟩:=hrel;obtain ⟨wi,rfl⟩:=eM wr;(have j0:(0:Int)<=(m:Int):=by omega);by_cases hlm:m<(cV (dB amd bits)).length
     ·obtain ⟨bb,bo,rfl,hcb⟩:=cH (aj.keep fo.out Mb.out.kept) hlm
      (have j1:(m:Int)<((cV (dB amd bits)).length:Int):=by omega);(have j2:(m:Int)<16:=by have:=JP.out.1;omega);have Y8:=aa hlm;have G2:=aa Mb.out;have gX:=Mb.out.cells.1;(have sV:Hid (((cV (dB amd bits)).take (m+1)).map (fun t=>pairT sn t)=((cV (dB amd bits)).take m).map (fun t=>pairT sn t)++[pairT sn (gs (cV (dB amd bits)) m)]):=by unfold Hid;rw [jQ hlm,cg];simp [gs,hlm]);have z1:=HZN.out;have z2:(gs (cV (dB amd bits)) m).size<=100:=JP.out.2 m;(have eC:Hid ((((qa amd pre++wM amd bits n)++((cV (dB amd bits)).take m).map fun t=>pairT sn t).map Value.string).length<=1000000):=by have h1:=HPF.out;have h2:=JP.out.1;have h3:=DV.out.1;(have h4:(wM amd bits n).length<=15*15:=by unfold wM;(have q:=Dk (f:=fun s=>(cV (dB amd bits)).map fun t=>pairT s t) (K:=15) ((cV (dA amd bits)).take n) fun s _=>by rw [aD];exact h2);rw [jl] at q;exact aB q (Nat.mul_le_mul_right _ (by omega)));unfold Hid;simp only [aD,bg,jl];omega);generalize gs (cV (dB amd bits)) m=tm at *;obtain ⟨T,hT⟩:∃T,T=(qa amd pre++wM amd bits n)++((cV (dB amd bits)).take m).map fun t=>pairT sn t:=⟨_,rfl⟩;rw [<- hT] at G2 eC;(have HT:Hid ((qa amd pre++wM amd bits n)++((cV (dB amd bits)).take (m+1)).map (fun t=>pairT sn t)=T++[pairT sn tm]):=by unfold Hid;rw [sV.out,<- dS,<- hT]);obtain ⟨oq,oc,hoe,-⟩:=G2.out.own.form (n:=T.length) (by simp);subst hoe;have YO:Hid (w9.heap.size<=w9.heap.size/\w.heap.size+1<=wi.heap.size):=⟨ah _,by have h1:=G2.out.size;have h2:=b7.out.size;have h3:=Y7.out.1;omega⟩;clear Mb hlm hm hT sV
      gi_wp2_with (first
       | (gi_at_builtin;refine wY wi rfl _ _ 22 rfl (w.heap.size+1) 9 (.string ⟨#[]⟩) 16 Tryz.underlying22 Tryz.mD rfl (by decide) G2.out.own rfl _ rfl rfl T.length (aD _) (by have h:=eC.out;rw [aD] at h;exact h) YO.out.2 ?_;intro g8 kM w8 gp jr uG;obtain ⟨⟨QY,Ug⟩,AV⟩:=G2.out.push (s:=pairT sn tm) Y7.out.1 Y7.out.2.1 (fun b hb=>iI (Y7.out.2.2.2 b hb) G2.out.size) Y7.out.2.2.1 gp jr uG;have HP8:=aa AV;clear gp jr uG AV)
       | (rw [gF _ _ _ (fun c h=>by cases h)];go_simp;try go_bits))
      go_roundw
      case rel=>exact ⟨m+1,_,Y8.out,by go_num,by rw [HT.out];exact HP8.out⟩
      case measure=>have:=Y8.out;simp [intOf];omega
     ·obtain rfl:m=(cV (dB amd bits)).length:=by omega
      (have G3:Hid (qa amd pre++wM amd bits (n+1)=(qa amd pre++wM amd bits n)++((cV (dB amd bits)).take (cV (dB amd bits)).length).map fun t=>pairT sn t):=by unfold Hid;rw [PN.out,fT,dS]);gi_wp2_with (rw [gF _ _ _ (fun c h=>by cases h)];go_simp;try go_bits)
      go_roundw
      case rel=>exact ⟨n+1,_,aR.out,by go_num,by rw [G3.out];exact Mb.out⟩
      case measure=>have:=aR.out;simp [intOf];omega
   ·obtain rfl:n=(cV (dA amd bits)).length:=by omega
    (have Fc:Hid (qa amd pre++wM amd bits (cV (dA amd bits)).length=qa amd (pre++[(bits,va,vb)])):=by unfold Hid;rw [aeS,ab3]);gi_wp2_with (rw [gF _ _ _ (fun c h=>by cases h)];go_simp;try go_bits);exact hR.out.fin HI.out b7.out dG.out Fc.out
 ·intro D xs L W hD hS hI hK
  obtain ⟨ov,e1,e2,e3⟩:=hI.ex;obtain ⟨oq,oc,rfl,-⟩:=e2.form (n:=(qa amd xs).length) (by simp);have DT:W.cell? ⟨w.heap.size,0,none⟩=some (.slice oq (qa amd xs).length oc):=by simp [World.cell?,e1]
  have HK:=aa hK;have xD:=aa e2;have HI:=aa hI;have HT:Hid (qa amd xs=cV amd):=by unfold Hid qa;rw [hS,agF h2]
  clear e1 e2 e3 hI hS hK hseq hI0;gi_wp2_with fail;have hq:∀b,b≠D->(W.putObj D (.deferred none)).heap[b]? = W.heap[b]?:=fun b hb=>l9 hb;have hu:=HI.out.up;have h9:=H9.out;have hne:∀b,(Value.slice oq (qa amd xs).length oc).ownBlock=some b->b≠D:=fun b hb e=>by subst e;obtain ⟨c,h10⟩:=au.kL xD.out hb;rw [HK.out] at h10;injection h10 with h10;cases h10
  refine ⟨by simp,.inl ⟨_,_,rfl,run_takeDeferred HK.out,?_⟩⟩;refine ⟨.slice oq (qa amd xs).length oc,by simp [results,Tryz.results120,go_sem],⟨hu.os,hu.tape,hu.output,by have h:=hu.size;simpa using h,fun b hb=>(hq b (by omega)).trans (hu.block b hb)⟩,_,rfl,?_⟩;have h3:=xD.out.eH fun b hb=>hq b (hne b hb);rw [<- HT.out];exact h3.strs.sub fun b hb _=>.inr (by omega)
end Go.Proofs.YthgabkgmkolobaaGreat
namespace Go.Proofs
open Go.Shelf
def Tryz.sortEnt_ren:Go.Shelf.Ren:=⟨fun | 6=>122 | 15=>127 | 14=>167 | 28=>181 | 29=>182 | 20=>221 | 21=>222 | 22=>223 | 23=>224 | 24=>225 | 25=>226 | 26=>227 | 27=>228 | 46=>265 | 47=>235 | 48=>236 | 49=>266 | 50=>267 | 57=>278 | n=>n,fun | 22=>91 | 24=>96 | 25=>150 | 3=>3 | 39=>154 | 0=>0 | 53=>191 | 55=>193 | 4=>4 | 46=>183 | 45=>182 | 50=>188 | 5=>5 | 9=>9 | 66=>238 | 70=>242 | 76=>267 | 77=>177 | n=>n,fun | n=>n⟩
theorem Tryz.sortEnt:Go.Proofs.SlLaysF0.n6 Tryz.prog Tryz.sortEnt_ren:={
 mixed:=by kernel_rfl
 f6:=⟨Tryz.f122.name,by decide,Tryz.func122.trans (congrArg some (by kernel_rfl))⟩
 f14:=⟨Tryz.f167.name,by decide,Tryz.func167.trans (congrArg some (by kernel_rfl))⟩
 f15:=Tryz.func127.trans (congrArg some (by kernel_rfl))
 f20:=⟨Tryz.f221.name,by decide,Tryz.func221.trans (congrArg some (by kernel_rfl))⟩
 f21:=⟨Tryz.f222.name,by decide,Tryz.func222.trans (congrArg some (by kernel_rfl))⟩
 f22:=⟨Tryz.f223.name,by decide,Tryz.func223.trans (congrArg some (by kernel_rfl))⟩
 f23:=⟨Tryz.f224.name,by decide,Tryz.func224.trans (congrArg some (by kernel_rfl))⟩
 f24:=⟨Tryz.f225.name,by decide,Tryz.func225.trans (congrArg some (by kernel_rfl))⟩
 f25:=⟨Tryz.f226.name,by decide,Tryz.func226.trans (congrArg some (by kernel_rfl))⟩
 f26:=⟨Tryz.f227.name,by decide,Tryz.func227.trans (congrArg some (by kernel_rfl))⟩
 f27:=⟨Tryz.f228.name,by decide,Tryz.func228.trans (congrArg some (by kernel_rfl))⟩
 f28:=Tryz.func181.trans (congrArg some (by kernel_rfl))
 f29:=Tryz.func182.trans (congrArg some (by kernel_rfl))
 f46:=⟨Tryz.f265.name,by decide,Tryz.func265.trans (congrArg some (by kernel_rfl))⟩
 f47:=Tryz.func235.trans (congrArg some (by kernel_rfl))
 f48:=Tryz.func236.trans (congrArg some (by kernel_rfl))
 f49:=⟨Tryz.f266.name,by decide,Tryz.func266.trans (congrArg some (by kernel_rfl))⟩
 f50:=⟨Tryz.f267.name,by decide,Tryz.func267.trans (congrArg some (by kernel_rfl))⟩
 f57:=⟨Tryz.f278.name,by decide,Tryz.func278.trans (congrArg some (by kernel_rfl))⟩
 t0:=Tryz.underlying0
 a0:=Tryz.isAgg0
 z0:=Tryz.sizeOf0
 v0:=Tryz.zeroValue0
 t3:=Tryz.underlying3
 a3:=Tryz.isAgg3
 z3:=Tryz.sizeOf3
 v3:=Tryz.zeroValue3
 t4:=Tryz.underlying4
 a4:=Tryz.isAgg4
 z4:=Tryz.sizeOf4
 v4:=Tryz.zeroValue4
 t5:=Tryz.underlying5
 a5:=Tryz.isAgg5
 z5:=Tryz.sizeOf5
 v5:=Tryz.zeroValue5
 t9:=Tryz.underlying9
 a9:=Tryz.isAgg9
 z9:=Tryz.sizeOf9
 v9:=Tryz.zeroValue9
 t22:=Tryz.underlying91
 a22:=Tryz.isAgg91
 z22:=Tryz.sizeOf91
 v22:=Tryz.zeroValue91
 t25:=Tryz.underlying150
 a25:=Tryz.isAgg150
 z25:=Tryz.sizeOf150
 v25:=Tryz.zeroValue150
 t39:=Tryz.underlying154
 a39:=Tryz.isAgg154
 z39:=Tryz.sizeOf154
 v39:=Tryz.zeroValue154
 t45:=Tryz.underlying182
 a45:=Tryz.isAgg182
 z45:=Tryz.sizeOf182
 v45:=Tryz.zeroValue182
 t46:=Tryz.underlying183
 a46:=Tryz.isAgg183
 z46:=Tryz.sizeOf183
 v46:=Tryz.zeroValue183
 t50:=Tryz.underlying188
 a50:=Tryz.isAgg188
 z50:=Tryz.sizeOf188
 v50:=Tryz.zeroValue188
 t53:=Tryz.underlying191
 a53:=Tryz.isAgg191
 z53:=Tryz.sizeOf191
 v53:=Tryz.zeroValue191
 t55:=Tryz.underlying193
 a55:=Tryz.isAgg193
 z55:=Tryz.sizeOf193
 v55:=Tryz.zeroValue193
 t66:=Tryz.underlying238
 a66:=Tryz.isAgg238
 z66:=Tryz.sizeOf238
 v66:=Tryz.zeroValue238
 t70:=Tryz.underlying242
 a70:=Tryz.isAgg242
 z70:=Tryz.sizeOf242
 v70:=Tryz.zeroValue242
 t76:=Tryz.underlying267
 a76:=Tryz.isAgg267
 z76:=Tryz.sizeOf267
 v76:=Tryz.zeroValue267
 t77:=Tryz.underlying177
 a77:=Tryz.isAgg177
 z77:=Tryz.sizeOf177
 v77:=Tryz.zeroValue177 }
end Go.Proofs
namespace Go.Proofs.YthgabkgmkolobaaGreat
section
open Go.RowKit Go.Deep Go.Sort Go.Shelf Go.Lib
abbrev s5:=(Value×Value)×RT
def iU (r:RT):ByteArray:=⟨(fu r).toArray⟩
def mI (x:s5):List Value:=[x.1.1,x.1.2,.string (iU x.2)]
def jS (es:List s5):List Value:=es.flatMap mI
def ge (es:List s5) (k:Nat):s5:=es.getD k ((undef,undef),.node ByteArray.empty [])
theorem Td (es:List s5) (x:s5):jS (es++[x])=jS es++mI x:=by unfold jS;rw [qq];simp
theorem Nx:∀(es:List s5) (k:Nat),k<es.length->(jS es)[k*3]? = some (ge es k).1.1/\(jS es)[k*3+1]? = some (ge es k).1.2/\(jS es)[k*3+2]? = some (.string (iU (ge es k).2))
 | [],k,h=>absurd h (aZ _)
 | x::es,0,_=>by simp [jS,mI,ge]
 | x::es,k+1,h=>by
  have ih:=Nx es k (by simpa using h)
  have e:(k+1)*3=k*3+1+1+1:=by omega
  have e2:ge (x::es) (k+1)=ge es k:=by simp [ge]
  have e3:jS (x::es)=x.1.1::x.1.2::.string (iU x.2)::jS es:=by simp [jS,mI]
  rw [e2,e3,e]
  simp only [F2]
  exact ih
def nG (base:Nat) (w:World) (v:Value) (es:List s5):Prop :=
 w.ownsRow base 96 3 v es.length (jS es)/\∀x∈es,aG (fun b=>some b≠v.ownBlock) w (.agg #[x.1.1,x.1.2]) (flat x.2)
theorem nG.nil (base:Nat) (w:World):nG base w (.slice none 0 0) []:=⟨World.ownsRow_nil _ _ _ _,fun _ h=>by cases h⟩
def CA (w:World) (v:Value) (qs:List RT):Prop :=
 ∃g cap,∃es:List s5,v=.slice (some ⟨g,0,none⟩) qs.length cap/\es.map (·.2)=qs/\(∀k,k<es.length->w.cell? ⟨g,k*3,none⟩=some (ge es k).1.1/\w.cell? ⟨g,k*3+1,none⟩=some (ge es k).1.2/\w.cell? ⟨g,k*3+2,none⟩=some (.string (iU (ge es k).2)))/\∀x∈es,aG Any w (.agg #[x.1.1,x.1.2]) (flat x.2)
theorem ag6 {es:List s5} {k:Nat} (h:k<es.length):ge es k∈es:=by simp [ge,h]
theorem CA.keep {w w':World} {v:Value} {qs:List RT} (h:CA w v qs) (hu:Up w w'):CA w' v qs:=by
 obtain ⟨g,cap,es,e1,e2,h1,h2⟩:=h;exact ⟨g,cap,es,e1,e2,fun k hk=>⟨hu.cell (h1 k hk).1,hu.cell (h1 k hk).2.1,hu.cell (h1 k hk).2.2⟩,fun x hx=>(h2 x hx).keep (hu.kept _)⟩
section
variable {P:Program} {ops:Array Oper} {rest:List Oper} {o:Oper} {a:Act} {Q:Exit->Act->World->Prop}
theorem Om (W:World) (hgd:o.guard=none) (s x:Operand) (t:TypeId) (ho:o.op=.call { callee:=.builtin .append,args:=#[s,x],argTypes:=#[t,t] })
  (base:Nat) (z:Value) (bytes:Nat) (ht:P.underlying t=some (.slice 96)) (hinfo:(P.info? 96).map (fun i=>(i.zero,i.size,i.bytes))=some (some z,3,bytes))
  (hz1:z.cells.size=3) (lN:bytes<=64) {v:Value} {es:List s5} (hown:nG base W v es) (hs:a.eval s=v) (G:s5)
  (hx:a.eval x=.slice (some ⟨W.heap.size,0,none⟩) 1 1) (hu:aG (fun b=>some b≠v.ownBlock) W (.agg #[G.1.1,G.1.2]) (flat G.2)) (n:Nat) (ug:es.length=n) (hn:n<=1000000) (hbase:base<=W.heap.size)
  (h:∀g cap w',nG base w' (.slice (some ⟨g,0,none⟩) (n+1) cap) (es++[G])->W.grownBy w' v.ownBlock->Below base W w'->wpList P ops Q rest (a.put o.dst (.slice (some ⟨g,0,none⟩) (n+1) cap)) w') :
  wpList P ops Q (o::rest) a (W.alloc (.cells #[G.1.1,G.1.2,.string (iU G.2)] 96)):=by
 subst ug;obtain ⟨i,hi,hzz⟩:=jR.1 hinfo;simp only [kX] at hzz;obtain ⟨hz,hs1,hb⟩:=hzz;obtain ⟨hown,hrows⟩:=hown;have h1:G.1.1.oneCell'=true/\G.1.2.oneCell'=true:=by
  obtain ⟨P1,N1,e,hP,hN⟩:=hu;injection e with e;have e1:G.1.1=P1/\G.1.2=N1:=by simpa using e
  obtain ⟨p,c,e2,_⟩:=aq.open hP;obtain ⟨q,d,e3,_⟩:=aq.open hN;rw [e1.1,e1.2,e2,e3];exact ⟨rfl,rfl⟩
 refine wpList_append_lies _ hgd s x t ho base 96 i z 3 bytes ht hi hz hs1 hb hz1 (by omega) v es.length (jS es) hs (hown.alloc _) ⟨W.heap.size,0,none⟩ 1 1 (mI G) hx rfl ?_ (fun q hq=>by
  unfold mI at hq;rcases bA.1 hq with e | hq
  ·subst e;exact h1.1
  ·rcases bA.1 hq with e | hq
   ·subst e;exact h1.2
   ·rw [cN.1 hq];rfl) (by omega)
  (by unfold maxLen;omega) ?_ (by simp;omega) _ rfl fun g cap w' h2 h3 h4 _=>?_
 ·intro j u' hj
  match j with
  | 0 =>
   (obtain rfl:G.1.1=u':=by simpa [mI] using hj);exact aS W _ _ 0
  | 1 =>
   (obtain rfl:G.1.2=u':=by simpa [mI] using hj);exact aS W _ _ 1
  | 2 =>
   (obtain rfl:Value.string (iU G.2)=u':=by simpa [mI] using hj);exact aS W _ _ 2
  | j+3=>simp [mI] at hj
 ·have:(es.length+1)*bytes<=(es.length+1)*64:=qO _ lN
  omega
 ·have hg:=lM h3
  have Hu:∀b:Nat,some b≠v.ownBlock->b<W.heap.size->some b≠(Value.slice (some ⟨g,0,none⟩) (es.length+1) cap).ownBlock:=fun b hb hlt e=>by
   simp only [Value.ownBlock,B3] at e;rcases h4 with h4 | h4
   ·exact hb (by rw [h4,e])
   ·rw [aQ] at h4;omega
  have hkeep:∀ {u':Value} {y':ax},aG (fun b=>some b≠v.ownBlock) W u' y'->aG (fun b=>some b≠(Value.slice (some ⟨g,0,none⟩) (es.length+1) cap).ownBlock) w' u' y':=fun hi'=>by obtain ⟨P1,N1,e,hP,hN⟩:=hi';have k:Kept (fun b=>some b≠v.ownBlock/\b<W.heap.size) W w':=fun b hb hlt=>hg.block b hlt hb.1;exact ⟨P1,N1,e,(af.keep (hP.sub fun b hb hlt=>⟨hb,hlt⟩) k).sub fun b hb _=>Hu b hb.1 hb.2,(aj.keep (hN.sub fun b hb hlt=>⟨hb,hlt⟩) k).sub fun b hb _=>Hu b hb.1 hb.2⟩
  refine h g cap w' ⟨by rw [bg,Td];exact h2,fun x hx=>?_⟩ hg (Below.grown (cM _ _) hg hbase fun k hk=>(sJ hown k hk).1);rcases ey.1 hx with hx | hx
  ·exact hkeep (hrows x hx)
  ·rw [cN.1 hx];exact hkeep hu
end
def Ki (x y:s5):Int:=if Lib.compareBytes (fu x.2) (fu y.2)<0 then -1 else if 0<Lib.compareBytes (fu x.2) (fu y.2) then 1 else 0
theorem Kj (x y:s5):ltOf Ki x y=decide (Lib.compareBytes (fu x.2) (fu y.2)<0):=by
 unfold ltOf Ki;split
 ·rename_i h;simp [h]
 ·rename_i h
  split<;>simp [h]
theorem Wt:SWO (ltOf Ki) where
 irrefl x:=by rw [Kj,Hw];simp
 trans x y z h1 h2:=by
  rw [Kj] at *
  simp only [decide_eq_true_eq] at *
  exact Ah h1 h2
 ntrans x y z h1 h2:=by
  rw [Kj] at *
  simp only [decide_eq_false_iff_not] at *
  intro h3
  by_cases e:Lib.compareBytes (fu x.2) (fu y.2)=0
  ·rw [yN e] at h3;exact h2 h3
  ·have h4:=tB (fu x.2) (fu y.2)
   exact h2 (Ah (show Lib.compareBytes (fu y.2) (fu x.2)<0 by omega) h3)
theorem ab6 (x y:s5) (W:World) :
  Calls Tryz.prog 123 #[.agg (mI x).toArray,.agg (mI y).toArray] W fun e w'=>e=.returned (.int .i64 (Ki x y))/\∃q os,w'=grow (W.drewN q) os:=by
 have HC:Hid (Ki x y=if Lib.compareBytes (fu x.2) (fu y.2)<0 then -1 else if 0<Lib.compareBytes (fu x.2) (fu y.2) then 1 else 0):=rfl;have hkx:(iU x.2).toList=fu x.2:=by rw [toList_data];rfl
 have hky:(iU y.2).toList=fu y.2:=by rw [toList_data];rfl
 have HL:Hid (Op.bytesLess (iU x.2).toList (iU y.2).toList=decide (Lib.compareBytes (fu x.2) (fu y.2)<0)):=by unfold Hid;rw [hkx,hky];exact Io _ _
 have HQ:Hid (((iU x.2).toList==(iU y.2).toList)=decide (Lib.compareBytes (fu x.2) (fu y.2)=0)):=by
  unfold Hid;rw [hkx,hky];by_cases e:fu x.2=fu y.2
  ·rw [e,Hw];simp
  ·rw [beq_eq_false_iff_ne.2 e,decide_eq_false fun q=>e (yN q)]
 have HW:Hid (∃q os,(W.alloc (.cells #[x.1.1,x.1.2,.string (iU x.2)] 96)).alloc (.cells #[y.1.1,y.1.2,.string (iU y.2)] 96)=grow (W.drewN q) os):=⟨0,_,by rw [alloc_eq_grow,alloc_eq_grow,grow_grow];rfl⟩;clear hkx hky;unfold mI;generalize Lib.compareBytes (fu x.2) (fu y.2)=cb at *;generalize Ki x y=c at *;go_in;go_wp2_with fail
 ·rename_i hb
  rw [HL.out] at hb;have hb:=of_decide_eq_true hb;go_ret;exact ⟨aC (by rw [HC.out,if_pos hb]),HW.out⟩
 ·rename_i hb hc
  rw [HL.out] at hb;have hb:=of_decide_eq_false hb;have hc:((iU x.2).toList==(iU y.2).toList)=false:=by simpa using hc
  rw [HQ.out] at hc;have hc:=of_decide_eq_false hc;go_ret;exact ⟨aC (by rw [HC.out,if_neg hb,if_pos (by omega)]),HW.out⟩
 ·rename_i hb hc
  rw [HL.out] at hb;have hb:=of_decide_eq_false hb;have hc:((iU x.2).toList==(iU y.2).toList)=true:=by simpa using hc
  rw [HQ.out] at hc;have hc:=of_decide_eq_true hc;go_ret;exact ⟨aC (by rw [HC.out,if_neg hb,if_neg (by omega)]),HW.out⟩
theorem aeT {S:Nat->Prop} {w:World} {x:s5} (h:aG S w (.agg #[x.1.1,x.1.2]) (flat x.2)):x.1.1.oneCell'=true/\x.1.2.oneCell'=true:=by
 obtain ⟨P1,N1,e,hP,hN⟩:=h;injection e with e;have e1:x.1.1=P1/\x.1.2=N1:=by simpa using e
 obtain ⟨p,c,e2,_⟩:=aq.open hP;obtain ⟨q,d,e3,_⟩:=aq.open hN;rw [e1.1,e1.2,e2,e3];exact ⟨rfl,rfl⟩
theorem Y9 {base:Nat} {w:World} {v:Value} {es:List s5} (h:nG base w v es) (hne:es≠[]) (hn:es.length<=1000000) :
  Calls Tryz.prog 122 #[v,.func (.func 123) #[] #[]] w fun e w'=>e=.returned (.tuple #[])/\w.grownBy w' v.ownBlock/\∃es':List s5,es'.Perm es/\(es'.map (·.2)).Pairwise si /\
   ∃g cap,v=.slice (some ⟨g,0,none⟩) es'.length cap/\∀k,k<es'.length->w'.cell? ⟨g,k*3,none⟩=some (ge es' k).1.1/\w'.cell? ⟨g,k*3+1,none⟩=some (ge es' k).1.2/\w'.cell? ⟨g,k*3+2,none⟩=some (.string (iU (ge es' k).2)):=by
 obtain ⟨ho,hT⟩:=h;obtain ⟨x0,hx0⟩:∃x,x∈es:=CP _ hne;have hl0:0<es.length:=z7.2 hne;letI:Inhabited {x // x∈es}:=⟨⟨x0,hx0⟩⟩;obtain ⟨blk,cap,hv⟩:∃blk cap,v=.slice (some ⟨blk,0,none⟩) es.length cap:=by
  rcases ho.2 with ⟨_,h0⟩ | ⟨g,cap,cur,e,_⟩
  ·exfalso
   have:=h0;omega
  ·exact ⟨g,cap,e⟩
 subst hv;have hblk:blk<w.heap.size:=(sJ ho blk rfl).2;have hsize:(es.attach.toArray).size=es.length:=by simp
 have ajO:∀i,i<es.length->((es.attach.toArray)[i]!).1=ge es i:=fun i hi=>by rw [getElem!_pos _ _ (by simpa using hi)];simp [ge,hi]
 have hfz:∀j,w.frozen? ⟨blk,j,none⟩=false:=fun j=>by
  rcases ho.2 with ⟨e,_⟩ | ⟨g',cap',cur,hs',_,hc',_⟩
  ·cases e
  ·injection hs' with hs1
   injection hs1 with hs1;injection hs1 with hs1;subst hs1;simp [World.frozen?,hc']
 have hH:HoldsK (fun x:{x // x∈es}=>mI x.1) 3 w blk 0 es.attach.toArray:=by
  intro j hj;rw [size_flatK,hsize] at hj;refine ⟨?_,by rw [je];exact hfz j⟩;rw [get_flatK _ _ _ _ (by rw [hsize];exact hj),je,ho.cellAt j hj];have hi:j / 3<es.length:=by omega
  obtain ⟨c1,c2,c3⟩:=Nx es (j / 3) hi;show _=some ((mI ((es.attach.toArray)[j / 3]!).1)[j % 3]!);rw [ajO _ hi];have h3:j % 3=0\/j % 3=1\/j % 3=2:=by omega
  rcases h3 with h3 | h3 | h3
  ·rw [h3,show (jS es)[j]? = (jS es)[j / 3*3]? by congr 1;omega,c1];simp [mI]
  ·rw [h3,show (jS es)[j]? = (jS es)[j / 3*3+1]? by congr 1;omega,c2];simp [mI]
  ·rw [h3,show (jS es)[j]? = (jS es)[j / 3*3+2]? by congr 1;omega,c3];simp [mI]
 have hgb:∀(m:Nat) (os:Array Obj) (dk:Array {x // x∈es}),w.grownBy (sortWorldK (fun x:{x // x∈es}=>mI x.1) 3 w blk 0 m dk os) (some blk):=fun m os dk=>⟨rfl,rfl,rfl,size_sortWorldK_c _ _ _ _ _ _ _ _,fun b hb hne=>gI (enc:=id) (fun e=>hne (by rw [e])) hb⟩;have hcmp:CmpLays Tryz.prog 123 #[] (fun x:{x // x∈es}=>mI x.1) 3 (fun x y=>Ki x.1 y.1) blk 0 es.attach.toArray.size w:=fun m os dk _ x y=>ab6 x.1 y.1 _
 have hcon:=AnyQ.slices_SortFunc Tryz.sortEnt 3 Tryz.isAgg96 Tryz.sizeOf96 (fun x:{x // x∈es}=>mI x.1) (fun _=>rfl) (fun x u hu=>by
   obtain ⟨o1,o2⟩:=aeT (hT x.1 x.2);unfold mI at hu;rcases bA.1 hu with e | hu
   ·subst e;exact o1
   ·rcases bA.1 hu with e | hu
    ·subst e;exact o2
    ·rw [cN.1 hu];rfl) (fun x y=>Ki x.1 y.1) ⟨fun x=>Wt.irrefl x.1,fun x y z=>Wt.trans x.1 y.1 z.1,fun x y z=>Wt.ntrans x.1 y.1 z.1⟩ 123 #[] blk 0 cap es.attach.toArray w (enters_of Tryz.func123 (by kernel_rfl) rfl) hcmp hH hblk (by rw [hsize];omega)
 rw [hsize] at hcon;refine hcon.mono fun e w' ⟨he,d',m,os,D5,zm,hw⟩=>⟨he,by rw [hw];exact hgb m os d',d'.toList.map (·.1),?_,?_,blk,cap,?_,?_⟩
 ·obtain ⟨hsz,_,kB⟩:=D5
  have e1:d'.extract 0 es.length=d':=by rw [<- hsize,<- hsz];exact Array.extract_size
  have e2:es.attach.toArray.extract 0 es.length=es.attach.toArray:=by rw [<- hsize];exact Array.extract_size
  rw [e1,e2] at kB;have h2:=kB.map (fun (x:{x // x∈es})=>x.1);rw [List.toList_toArray,List.attach_map_subtype_val] at h2;exact h2
 ·obtain ⟨hsz,_,_⟩:=D5
  rw [hsize] at hsz;rw [jA,sI,mY];intro i j hi hj hij;have hi':i<d'.size:=by simpa using hi
  have hj':j<d'.size:=by simpa using hj
  have h3:=zm i j (aF _) hij (by omega);rw [getElem!_pos d' j hj',getElem!_pos d' i hi'] at h3;have h4:ltOf Ki (d'[j]'hj').1 (d'[i]'hi').1=false:=h3;rw [Kj,decide_eq_false_iff_not] at h4;show Lib.compareBytes (fu (d'.toList[i]'(by simpa using hi)).1.2) (fu (d'.toList[j]'(by simpa using hj)).1.2)<=0;rw [Array.getElem_toList,Array.getElem_toList];have:=tB (fu (d'[j]'hj').1.2) (fu (d'[i]'hi').1.2);omega
 ·have:d'.size=es.length:=by rw [D5.1,hsize]
  simp [this]
 ·intro k hk
  have hk':k<d'.size:=by simpa using hk
  have hHd:=holdsK_sortWorldK_c (fun x:{x // x∈es}=>mI x.1) 3 w blk 0 es.attach.toArray d' m os hH hblk D5.1;have hge:ge (d'.toList.map (·.1)) k=(d'[k]!).1:=by rw [getElem!_pos d' k hk'];simp [ge,hk']
  have c0:=(hHd.cell (i:=k) (c:=0) hk' (by decide)).1;have c1:=(hHd.cell (i:=k) (c:=1) hk' (by decide)).1;have c2:=(hHd.cell (i:=k) (c:=2) hk' (by decide)).1;rw [je] at c0 c1 c2;rw [hge,hw];exact ⟨c0,c1,c2⟩
end
section
open Go.RowKit Go.Deep
theorem Lx {s:ByteArray} (h:bq s.data.toList=true):s.size<=20:=by
 have hl:s.data.toList.length=s.size:=size_data s;unfold bq gN at h;split at h
 ·simp only [eF,decide_eq_true_eq] at h;omega
 ·simp only [eF,decide_eq_true_eq] at h;omega
theorem Za {S:Nat->Prop} {w:World} {b o n cap:Nat} {xs:List ByteArray} (h:aj S w (.slice (some ⟨b,o,none⟩) n cap) xs) (hn:2<=xs.length):aj S w (.slice (some ⟨b,o+1,none⟩) (xs.length - 1) (cap - 1)) xs.tail:=by
 obtain ⟨p,c,e,hc,h⟩:=h;injection e with e1 e2 e3;subst e1;subst e3;refine ⟨_,_,by rw [CR],by rw [CR];omega,?_⟩;rcases h with h | ⟨b',o',e4,hS,h⟩
 ·omega
 ·injection e4 with e4
  injection e4 with e5 e6;subst e5;subst e6;refine .inr ⟨b,o+1,rfl,hS,fun k hk=>?_⟩;rw [CR] at hk;have:=h (k+1) (by omega);rw [show o+1+k=o+(k+1) by omega,this];show some (Value.string (gs xs (k+1)))=some (Value.string (gs xs.tail k));have:gs xs.tail k=gs xs (k+1):=by
   unfold gs;cases xs with
   | nil=>simp at hn
   | cons a l=>rfl
  rw [this]
def D9 (amd:List ByteArray) (s:ByteArray):ByteArray:=⟨#[40]⟩++gs amd 0++⟨#[44]⟩++s++⟨#[41,59]⟩
structure EnF (amd:List ByteArray) (r:BT ByteArray):Prop where
 ag7:tQ (D9 amd (uV r)).data.toList=some (nC (uB amd r))
 psz:(D9 amd (uV r)).size<=1000
 te:aA (flat (nC (uB amd r)))=0
 can:kW (flat (nC (uB amd r)))=flat (uR amd r)
 te2:aA (flat (uR amd r))=0
 tx:M8 (flat (uR amd r))=fu (uR amd r)
 len:aP (nC (uB amd r))<=9/\aP (uR amd r)<=9
 sz:∀k,(gs (flat (nC (uB amd r))).ns k).size<=70000
 sz2:∀k,(gs (flat (uR amd r)).ns k).size<=70000
theorem BG {r:RT} (h:jm r) (k:Nat):(gs (flat r).ns k).size<=70000:=by
 refine vE (M:=70000) (fun x hx=>?_) k;have hx:x∈eo r:=hx;rw [vz] at hx;obtain ⟨s,hs,rfl⟩:=bI.1 hx;by_cases e:s.kids=[]
 ·exact aB (Lx (h.lf s hs e)) (by decide)
 ·rw [h.y9 s hs e];exact aF _
theorem enF {amd:List ByteArray} (h:nQ amd) {r:BT ByteArray} (hr:r∈sj amd.tail):EnF amd r:=by
 have hp:r.lR.Perm amd.tail:=EJ _ _ _ hr;have ho:=adQ h hp;have hg:=ho.QI.good;have hhi:=h.hi;have hlo:=h.lo;have hl:=(Cx h hp).length_eq;have hs:=Gd (uB amd r);have hz:∀x∈amd,x.size<=20:=fun x hx=>Lx (h.nm x hx);have ht:=uv hg (by omega);have GH:r∈rt amd.length amd.tail:=by have:rt amd.length amd.tail=sj amd.tail:=yw _ _ _ (by simp) (ah _);rw [this];exact hr
 obtain ⟨_,_,q3,_,q5,_⟩:=rY h (QJ.2 ⟨r,GH,rfl⟩);refine ⟨?_,?_,ht,by rw [oQ ht,vw];rfl,q5,by rw [agD q5,vw];rfl,by omega,BG hg,BG (r:=uR amd r) hg.sort⟩
 ·have e:(D9 amd (uV r)).data.toList=gL (nC (uB amd r))++[59]:=by
   unfold D9 uV uB
   rw [adP,nC,Iu]
   simp
  rw [e];exact Qt hg.oJ
 ·have h1:=Dl r fun x hx=>hz x (List.mem_of_mem_tail (hp.mem_iff.1 hx))
  have h2:=hp.length_eq;have h3:=vE hz 0;rw [CR] at h2;unfold D9;simp only [ByteArray.size_append];show 1+(gs amd 0).size+1+(uV r).size+2<=1000;omega
def Zb (w:World) (amd:List ByteArray) (e:Ending) (w':World):Prop:=Up w w'/\∃v,e=.returned (.tuple #[v,.int .i64 0])/\CA w' v (gV amd)
theorem Ny {base n size:Nat} {e:TypeId} {w w':World} {v:Value} {vs:List Value} (h:w.ownsRow base e size v n vs) (k:∀b,v.ownBlock=some b->w'.heap[b]? = w.heap[b]?):w'.ownsRow base e size v n vs:=by
 refine ⟨h.1,?_⟩;rcases h.2 with h2 | ⟨g,cap,cur,hv,hg,hc,h3⟩
 ·exact .inl h2
 ·exact .inr ⟨g,cap,cur,hv,hg,(k g (by rw [hv];rfl)).trans hc,h3⟩
theorem nG.up {base:Nat} {w w':World} {v:Value} {es:List s5} (h:nG base w v es) (hu:Up w w'):nG base w' v es :=
 ⟨Ny h.1 fun b hb=>bH hu b (sJ h.1 b hb).2,fun x hx=>(h.2 x hx).keep (hu.kept _)⟩
def gB (R:List (BT ByteArray)) (n:Nat):BT ByteArray:=R.getD n (.leaf ByteArray.empty)
theorem ag8 {L:List ByteArray} {n:Nat} (h:n<(sj L).length):gs (cV L) n=uV (gB (sj L) n)/\gB (sj L) n∈sj L:=by
 unfold gs gB cV;constructor
 ·simp [h]
 ·simp [h]
end
end Go.Proofs.YthgabkgmkolobaaGreat
