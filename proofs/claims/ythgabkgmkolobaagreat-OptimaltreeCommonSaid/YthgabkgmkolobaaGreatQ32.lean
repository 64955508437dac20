/- split.below: an iterator over a recursive closure that owns what it builds: one node. .. -/
import Derived.Test.YthgabkgmkolobaaGreatQ31
set_option maxRecDepth 100000
set_option maxHeartbeats 2000000
namespace Go.Proofs.YthgabkgmkolobaaGreat
section
open Go.RowKit Go.Shelf Go.Deep Go.Sort
theorem sort_g (base:Nat) (w1:World) (v:Value) (xs:List Int) (ho:ax base 3 w1 v (xs.map (Value.int .i64))) (hlen:xs.length<=1000000) :
  Calls Tryz.prog 71 #[v] w1 fun e w'=>e=.returned (.tuple #[])/\w1.grownBy w' v.ownBlock/\ax base 3 w' v ((jC xs).map (Value.int .i64)):=by
 rcases ho.2 with ⟨rfl,h0⟩ | ⟨g,cap,cur,rfl,hg,hc,hn,hcm,hcs,ht⟩
 ·have hx:xs=[]:=by cases xs with | nil=>rfl | cons _ _=>simp at h0
  subst hx;refine (AnyM.slices_Sort_int_none Tryz.sortZ none 0 w1).mono ?_;rintro e w' ⟨rfl,rfl⟩;exact ⟨rfl,⟨rfl,rfl,rfl,af _,fun _ _ _=>rfl⟩,by unfold jC;simpa using ho⟩
 ·simp only [aG] at hn ht ho ⊢
  refine (AnyM.slices_Sort_int Tryz.sortZ g 0 cap xs w1 (holds_of_blockI hc (by simpa using ht)) (fR.1 hc).1 (by omega)).mono ?_;rintro e w' ⟨rfl,n,os,rfl⟩;refine ⟨rfl,grownBy_sortedI _,?_⟩;have h:=ownsRow_sortedI (n:=n) (os:=os) (ss:=xs) (ts:=jC xs) (qZ xs) hg hc hn hcm (by simpa using hcs);unfold ax;rw [aG,qZ];exact h
def VR (t:az) (aac:List ByteArray) (x:El) (L:Nat->Prop) (W:World):Prop:=x.1<t.ps.length/\x.1≠0/\∃p c,x.2=.slice p (cu t aac x.1).length c/\ah (fun b=>¬L b) W x.2 (cu t aac x.1)/\∀g,x.2.ownBlock=some g->∃c z,W.heap[g]? = some (Obj.cells c 3 z)
def lq (t:az) (aac:List ByteArray) (i k:Nat):List Int:=(dc t.ps i k).flatMap (cu t aac)
theorem RX {t:az} {aac:List ByteArray} (hn:aac.length<=32) (i k:Nat):(lq t aac i k).length<=32*k:=by
 have h:∀l:List Nat,(l.flatMap (cu t aac)).length<=32*l.length:=fun l=>by
  induction l with
  | nil=>simp
  | cons a l ih =>
   have h1:(cu t aac a).length<=aac.length:=rS _ _;rw [gU,aZ,aT];omega
 have h1:=h (dc t.ps i k);have h2:=vS t.ps i k;unfold lq;omega
section
variable (w0:World) (t:az) (aac:List ByteArray) (l Bt Be Bn Bq N:Nat) (J:List El->(Nat->Prop)->World->Prop)
def WkPost (pre:List El) (i:Nat) (L:Nat->Prop) (W:World) (e:Ending) (W':World):Prop :=
 ∃(v:Value) (ys:List El) (L':Nat->Prop),e=.returned (.tuple #[v,.bool true])/\ys.map (·.1)=kH t i/\J (pre++ys) L' W'/\Up w0 W'/\W.heap.size<=W'.heap.size/\(∀b,L b->W'.heap[b]? = W.heap[b]?)/\(∀b,L b->L' b)/\(∀b,L' b->w0.heap.size<=b/\b<W'.heap.size) /\
  (∃p c,v=.slice p (cu t aac i).length c)/\ah Any W' v (cu t aac i)
def VS (i:Nat):Prop :=
 ∀(m:Nat) (pre:List El) (L:Nat->Prop) (W:World),J pre L W->Up w0 W->(∀b,L b->w0.heap.size<=b/\b<W.heap.size)->L Bq->L Be->L Bt->L Bn->(∃(pp np mp:Option Addr) (pc nc mc:Nat),W.cell? ⟨Bt,0,none⟩=some (.slice pp t.ps.length pc)/\W.cell? ⟨Bt,1,none⟩=some (.slice np t.ns.length nc)/\W.cell? ⟨Bn,0,none⟩=some (.slice mp aac.length mc)/\ah Any w0 (.slice pp t.ps.length pc) t.ps/\au Any w0 (.slice np t.ns.length nc) t.ns/\au Any w0 (.slice mp aac.length mc) aac) ->
  W.cell? ⟨Bq,0,none⟩=some (.func (.yield l) #[] #[])->W.cell? ⟨Be,0,none⟩=some (.func (.func 133) #[] #[.pointer (some ⟨Bt,0,none⟩),.pointer (some ⟨Be,0,none⟩),.pointer (some ⟨Bn,0,none⟩),.pointer (some ⟨Bq,0,none⟩)]) ->
  pre.length+(kH t i).length<=N ->
  CallsIn Fence.wide m Tryz.prog 133 #[.int .i64 (i:Int),.pointer (some ⟨Bt,0,none⟩),.pointer (some ⟨Be,0,none⟩),.pointer (some ⟨Bn,0,none⟩),.pointer (some ⟨Bq,0,none⟩)] W (WkPost w0 t aac J pre i L W)
structure Lc (pre:List El) (L:Nat->Prop) (W:World) (Z:List Nat) (X:List Int) (ys:List El) (L':Nat->Prop) (out:Value) (wr:World):Prop where
 eY:ys.map (·.1)=Z
 jj:J (pre++ys) L' wr
 up:Up w0 wr
 sz:W.heap.size<=wr.heap.size
 lb:∀b,L b->b<W.heap.size
 kept:∀b,L b->wr.heap[b]? = W.heap[b]?
 sub:∀b,L b->L' b
 bd:∀b,L' b->w0.heap.size<=b/\b<wr.heap.size
 own:ax W.heap.size 3 wr out (X.map (Value.int .i64))
 mine:∀g,out.ownBlock=some g->L' g
variable {w0 t aac l Bt Be Bn Bq N J}
theorem Dw {S:Nat->Prop} {w:World} {v:Value} {xs:List Int} (h:ah S w v xs):ah (fun b=>v.ownBlock=some b) w v xs:=by
 obtain ⟨p,cap,rfl,hn,h⟩:=h;exact ⟨p,cap,rfl,hn,h.imp id fun ⟨g,off,e,_,hc⟩=>⟨g,off,e,by rw [e];rfl,hc⟩⟩
theorem flat_pre {α β:Type} (f:α->List β) {a b:List α} (h:a <+: b):(a.flatMap f).length<=(b.flatMap f).length:=by
 obtain ⟨c,rfl⟩:=h;rw [sF,aZ];omega
theorem RY (ps:List Int) (i k:Nat):∀ {n:Nat},k<=n->dc ps i k <+: dc ps i n
 | 0,h=>by rw [show k=0 by omega];exact List.prefix_refl _
 | n+1,h=>by
  by_cases e:k=n+1
  ·rw [e];exact List.prefix_refl _
  ·refine (RY ps i k (n:=n) (by omega)).trans ?_
   rw [ng];exact List.prefix_append _ _
theorem Lc.grow (hA:UK J) {pre:List El} {L:Nat->Prop} {W:World} {Z:List Nat} {X Y:List Int} {ys:List El} {L':Nat->Prop} {out:Value} {wr:World} (h:Lc w0 J pre L W Z X ys L' out wr) {v':Value} {w4:World}
  (ho:ax W.heap.size 3 w4 v' (Y.map (Value.int .i64))) (hg:wr.grownBy w4 out.ownBlock) (hb:∀g,v'.ownBlock=some g->out.ownBlock=some g\/(wr.heap.size<=g)) :
  Lc w0 J pre L W Z Y ys (fun b=>L' b\/(wr.heap.size<=b/\b<w4.heap.size)) v' w4:=by
 have hw0:=h.up.size;have hmo:∀b,out.ownBlock=some b->W.heap.size<=b:=fun b hb=>(av h.own hb).1
 refine ⟨h.eY,hA _ L' _ wr w4 h.jj ⟨hg.os,hg.tape,hg.output,hg.size,fun b hb hn=>hg.block b hb fun e=>hn (h.mine b e.symm),fun b hb=>hb.imp (fun e=>⟨e,(h.bd b e).2⟩) id⟩,zA h.up hg hw0 fun k hk=>(h.bd k (h.mine k hk)).1,aJ h.sz hg.size,h.lb,
  fun b hb=>(hg.block b (js (h.lb b hb) h.sz) fun e=>?_).trans (h.kept b hb),fun b hb=>.inl (h.sub b hb),fun b hb=>?_,ho,fun g hg'=>?_⟩
 ·have h1:=hmo b e.symm
  have h2:=h.lb b hb;omega
 ·have:=hg.size
  rcases hb with hb | hb
  ·have:=h.bd b hb;omega
  ·omega
 ·rcases hb g hg' with e | e
  ·exact .inl (h.mine g e)
  ·exact .inr ⟨e,(av ho hg').2⟩
theorem Lc.kid {pre:List El} {L:Nat->Prop} {W:World} {Z:List Nat} {X:List Int} {ys:List El} {L':Nat->Prop} {out:Value} {wr:World} (h:Lc w0 J pre L W Z X ys L' out wr) {ZA:List El} {L2:Nat->Prop} {W3:World} {Z2:List Nat}
  (hn2:ZA.map (·.1)=Z2) (hj2:J (pre++ys++ZA) L2 W3) (aK:Up w0 W3) (hs2:wr.heap.size<=W3.heap.size) (hk2:∀b,L' b->W3.heap[b]? = wr.heap[b]?) (Ox:∀b,L' b->L2 b) (hbd2:∀b,L2 b->w0.heap.size<=b/\b<W3.heap.size) :
  Lc w0 J pre L W (Z++Z2) X (ys++ZA) L2 out W3 :=
 ⟨by rw [cg,h.eY,hn2],by rw [<- dN];exact hj2,aK,aJ h.sz hs2,h.lb,fun b hb=>(hk2 b (h.sub b hb)).trans (h.kept b hb),fun b hb=>Ox b (h.sub b hb),hbd2,h.own.AA fun b hb=>hk2 b (h.mine b hb),fun g hg=>Ox g (h.mine g hg)⟩
theorem Mg {W W':World} (h:Up W W') (row:Option Nat):W.grownBy W' row:=⟨h.os,h.tape,h.output,h.size,fun j hj _=>bI h j hj⟩
theorem walk_step (tF:dK t aac) (hA:UK J)
  (hY:∀m pre x L W1,J pre L W1->VR t aac x L W1->Up w0 W1->(∀b,L b->w0.heap.size<=b/\b<W1.heap.size)->pre.length<N->YieldAt Fence.wide m Tryz.prog l #[x.2] W1 fun e W' =>
   e=.returned (.bool true)/\J (pre++[x]) L W'/\Up w0 W'/\W1.heap.size<=W'.heap.size/\∀b,(L b\/x.2.ownBlock=some b)->W'.heap[b]? = W1.heap[b]?)
  {i:Nat} (hi:i<t.ps.length) (ih:∀c∈bq t.ps i,VS w0 t aac l Bt Be Bn Bq N J c):VS w0 t aac l Bt Be Bn Bq N J i:=by
 intro m pre L W hJ hU hL hLq hLe hLt Ih qV hq he hN;obtain ⟨pp,np,mp,pc,nc,mc,BX,kY,Nd,hP,Dh,ZB⟩:=qV;obtain ⟨ht0,ht64,htl,_,_⟩:=aF tF.te;have G5:Hid (Lc w0 J pre L W ((dc t.ps i 0).flatMap (kH t)) (lq t aac i 0) [] L (.slice none 0 0) W):=⟨rfl,by rw [gN];exact hJ,hU,af _,fun b hb=>(hL b hb).2,fun _ _=>rfl,fun _ h=>h,hL,ax.nil _ _ _,fun g hg=>by cases hg⟩
 have EF:Hid (∀(wr:World),(∀b,L b->wr.heap[b]? = W.heap[b]?)->wr.cell? ⟨Bt,0,none⟩=some (.slice pp t.ps.length pc)/\wr.cell? ⟨Bt,1,none⟩=some (.slice np t.ns.length nc)/\wr.cell? ⟨Bn,0,none⟩=some (.slice mp aac.length mc)):=fun wr hk=>⟨(eX (a:=⟨Bt,0,none⟩) (hk Bt hLt)).trans BX,(eX (a:=⟨Bt,1,none⟩) (hk Bt hLt)).trans kY,(eX (a:=⟨Bn,0,none⟩) (hk Bn Ih)).trans Nd⟩
 have HREST:Hid (∀(wr:World),(∀b,L b->wr.heap[b]? = W.heap[b]?)->∃(pp np mp:Option Addr) (pc nc mc:Nat),wr.cell? ⟨Bt,0,none⟩=some (.slice pp t.ps.length pc)/\wr.cell? ⟨Bt,1,none⟩=some (.slice np t.ns.length nc)/\wr.cell? ⟨Bn,0,none⟩=some (.slice mp aac.length mc)/\ah Any w0 (.slice pp t.ps.length pc) t.ps/\au Any w0 (.slice np t.ns.length nc) t.ns/\au Any w0 (.slice mp aac.length mc) aac):=fun wr hk=>by obtain ⟨q1,q2,q3⟩:=EF.out wr hk;exact ⟨_,_,_,_,_,_,q1,q2,q3,hP,Dh,ZB⟩
 have bu:=aa hLt;have HLNN:=aa Ih;have ZC:Hid (∀k,k<t.ps.length->∃b off,pp=some ⟨b,off,none⟩/\∀wr,Up w0 wr->wr.cell? ⟨b,off+k,none⟩=some (.int .i64 (gi t.ps k))):=fun k hk=>by obtain ⟨b,off,e,hc⟩:=dG hP hk;exact ⟨b,off,e,fun wr hu=>hu.cell hc⟩
 have dz:Hid (∀(wr:World),(∀b,L b->wr.heap[b]? = W.heap[b]?)->wr.cell? ⟨Bq,0,none⟩=some (.func (.yield l) #[] #[])/\wr.cell? ⟨Be,0,none⟩=some (.func (.func 133) #[] #[.pointer (some ⟨Bt,0,none⟩),.pointer (some ⟨Be,0,none⟩),.pointer (some ⟨Bn,0,none⟩),.pointer (some ⟨Bq,0,none⟩)])):=fun wr hk =>
  ⟨(eX (a:=⟨Bq,0,none⟩) (hk Bq hLq)).trans hq,(eX (a:=⟨Be,0,none⟩) (hk Be hLe)).trans he⟩
 have HNC:Hid (∃nb no,np=some ⟨nb,no,none⟩/\∀wr,Up w0 wr->wr.cell? ⟨nb,no+i,none⟩=some (.string (gs t.ns i))):=by obtain ⟨nb,no,e,hc⟩:=dr Dh (k:=i) (by omega);exact ⟨nb,no,e,fun wr hu=>hu.cell hc⟩
 have vU:Hid (∀wr,Up w0 wr->Calls Tryz.prog 95 #[.slice mp aac.length mc,.string (gs t.ns i)] wr fun e w'=>e=.returned (.int .i64 (iD aac (gs t.ns i)))/\wr=w'):=fun wr hu=>DJ Any wr _ aac.length (gs aac) (gs t.ns i) (ay.keep ZB (hu.kept _)) (by have:=tF.le;omega);have ii1:(0:Int)<=(i:Int):=CG _;have ii2:(i:Int)<(t.ns.length:Int):=by rw [htl];exact Ai.2 hi
 obtain ⟨c0,c1,c2⟩:=EF.out W (fun _ _=>rfl);have n64:(t.ps.length:Int)<=64:=by omega
 refine callsIn_of_wp Tryz.func133 rfl trivial ?_ rfl;simp only [Tryz.ntmps133,eW,aT,dO,Nat.reduceAdd,Nat.reduceSub,ji,jk,eV,ve,cH,cr];have HN:=aa hN;have qu:=aa ih;have HY:=aa hY;have VA:=aa hLq;have C7:=aa hLe;have Qr:=aa Dh;have je:=aa ZB;have HA:=aa hA;have oC:=aa tF;clear hJ hU hL hLq hLe hLt Ih hq he hN ih hY hA BX kY Nd hP Dh ZB tF htl;gi_wp2
 gi_loopw [8,9,10,11,12,16] (fun out _ _ _ _ i' wr=>∃(k:Nat) (ys:List El) (L':Nat->Prop),k<=t.ps.length/\i'=.int .i64 k/\Hid (Lc w0 J pre L W ((dc t.ps i k).flatMap (kH t)) (lq t aac i k) ys L' out wr)) (fun _ _ _ _ _ i' _=>t.ps.length - (intOf i').toNat)
 case atStart=>exact ⟨0,[],L,aL _,rfl,G5⟩
 case round =>
  obtain ⟨k,ys,L',hk,rfl,hS⟩:=hrel;clear G5 c0 c1 c2;obtain ⟨c0,c1,c2⟩:=EF.out wr hS.out.kept;obtain ⟨cq,ce⟩:=dz.out wr hS.out.kept;by_cases hlt:k<t.ps.length
  ·obtain ⟨pb,po,rfl,hpc⟩:=ZC.out k hlt
   have hcell:=hpc wr hS.out.up;have ND:=aa (ng t.ps i k);have fN:Hid (gi t.ps k=(i:Int)->i<k):=par_lt oC.out.te hlt;have k1:(0:Int)<=(k:Int):=CG _;have k2:(k:Int)<(t.ps.length:Int):=Ai.2 hlt;(have k3:(k:Int)<64:=by omega);clear hpc;have HGX:Hid (∃x,gi t.ps k=x):=⟨_,rfl⟩;by_cases hx:gi t.ps k=(i:Int)
   ·rw [hx] at hcell ND
    have hik:=fN.out hx;(have xz:Hid (dc t.ps i (k+1)=dc t.ps i k++[k]):=by unfold Hid;rw [ND.out,if_pos ⟨hik,rfl⟩]);have hkm:k∈bq t.ps i:=cD.2 ⟨hlt,hik,hx⟩
    have hnl:(pre++ys).length+(kH t k).length<=N:=by have h1:=HN.out;have h2:=flat_pre (kH t) (RY t.ps i (k+1) (n:=t.ps.length) (by omega));rw [xz.out,sF,aZ] at h2;have h3:(ys.map (·.1)).length=_:=congrArg List.length hS.out.eY;rw [Kg t hi,aZ] at h1;rw [aG] at h3;rw [aZ];have h4:((dc t.ps i t.ps.length).flatMap (kH t)).length=((bq t.ps i).flatMap (kH t)).length:=rfl;simp only [gU,List.flatMap_nil,gN] at h2;omega
    have jq:=aa (qu.out k hkm (m - 1) (pre++ys) L' wr hS.out.jj hS.out.up hS.out.bd (hS.out.sub _ VA.out) (hS.out.sub _ C7.out) (hS.out.sub _ bu.out) (hS.out.sub _ HLNN.out) (HREST.out wr hS.out.kept) cq ce hnl);have hm0:0<(cu t aac k).length:=VQ oC.out hlt;have HM0:=aa hm0;have zT:Hid ((cu t aac k).length<=32):=aJ (rS _ _) oC.out.le;have kK:Hid ((lq t aac i k).length<=32*k):=RX oC.out.le i k;clear hx hik hkm hnl hm0;gi_wp2;refine ⟨trivial,fun h=>(by cases h),?_⟩;refine jq.out.mono ?_
    rintro e W3 ⟨v2,ZA,L2,rfl,hn2,hj2,aK,hs2,hk2,Ox,hbd2,⟨p2,cc2,rfl⟩,hI2⟩;obtain ⟨b2,o2,rfl,_⟩:=dG hI2 HM0.out;have EW:=aa (hS.out.kid hn2 hj2 aK hs2 hk2 Ox hbd2);have ZE:=aa hI2;clear hn2 hj2 aK hs2 hk2 Ox hbd2 hI2 jq cq ce c0 c1 c2 hcell;obtain ⟨i0,jg,hz0,hz1,hz2⟩:=info_parts Tryz.kE;(have Cr:W3.ownsRow W.heap.size 3 1 u8 (lq t aac i k).length ((lq t aac i k).map (Value.int .i64)):=by have h:=EW.out.own;unfold ax at h;rwa [aG] at h);have VT:=aa Cr;clear Cr
    gi_wp2_with (gi_at_builtin;refine wpListIn_append_own_at _ rfl _ _ 26 rfl W.heap.size 3 i0 (.int .i64 0) 1 8 Tryz.underlying26 jg hz0 hz1 hz2 rfl (by decide) _ _ _ rfl VT.out ⟨b2,o2,none⟩ (cu t aac k).length cc2 ((cu t aac k).map (Value.int .i64)) rfl (by rw [aG];omega) (news_ints ZE.out) (by simp [Value.oneCell']) (by have h1:=zT.out;have h2:=kK.out;unfold maxLen;omega) (by have h1:=zT.out;have h2:=kK.out;omega) EW.out.sz ?_;intro v4 w4 wW hg4 hnil4 hblk4)
    have Q1:Hid (∃L4,Lc w0 J pre L W ((dc t.ps i (k+1)).flatMap (kH t)) (lq t aac i (k+1)) (ys++ZA) L4 v4 w4):=by
     (have e1:(dc t.ps i (k+1)).flatMap (kH t)=(dc t.ps i k).flatMap (kH t)++kH t k:=by rw [xz.out,sF];simp);have e2:lq t aac i (k+1)=lq t aac i k++cu t aac k:=by unfold lq;rw [xz.out,sF];simp
     have g4:=EW.out.grow HA.out (Y:=lq t aac i k++cu t aac k) (v':=v4) (w4:=w4) (by unfold ax;rw [aG,aZ,cg];exact wW) hg4 (fun g hg=>by
      rcases hblk4 with e | e
      ·exact .inl (e ▸ hg)
      ·rw [e] at hg;injection hg with hg;exact .inr (by omega))
     rw [<- e1,<- e2] at g4;exact ⟨_,g4⟩
    clear wW hg4 hnil4 hblk4 EW;gi_wp2
    go_roundw
    case rel =>obtain ⟨L4,h4⟩:=Q1.out;exact ⟨k+1,ys++ZA,L4,by omega,by go_num,h4⟩
    case measure=>simp [intOf];omega
   ·generalize gi t.ps k=x at *
    (have d1:(x==(i:Int))=false:=by simpa using hx);(have d2:(x != (i:Int))=true:=by simpa using hx);(have xz:Hid (dc t.ps i (k+1)=dc t.ps i k):=by unfold Hid;rw [ND.out,if_neg (fun e=>hx e.2),gN]);clear hx;gi_wp2
    go_roundw
    case rel=>exact ⟨k+1,ys,L',by omega,by go_num,by
     have h:=hS.out
     unfold Hid lq;rw [xz.out];exact h⟩
    case measure=>simp [intOf];omega
  ·obtain rfl:k=t.ps.length:=by omega
   have HKN:Hid (dc t.ps i t.ps.length=bq t.ps i):=rfl;obtain ⟨op,oc,rfl,hform⟩:=hS.out.own.form (n:=(lq t aac i t.ps.length).length) (by rw [aG]);clear hform cq ce hlt hk;by_cases kW:bq t.ps i=[]
   ·have hx0:lq t aac i t.ps.length=[]:=by unfold lq;rw [HKN.out,kW];rfl
    (have hz0:(dc t.ps i t.ps.length).flatMap (kH t)=[]:=by rw [HKN.out,kW];rfl);rw [hx0,hz0] at hS;rw [hx0];have HLF:=aa (lvS_leaf oC.out hi kW);(have VU:Hid (kH t i=[]++if i=0 then [] else [i]):=by unfold Hid;rw [Kg t hi,kW];rfl);have HBXX:=dz;obtain ⟨nb,no,rfl,hnc⟩:=HNC.out;have c3:=hnc wr hS.out.up;have jx:=aa c0;have jG:=aa c1;have uT:=aa c2;have VV:=aa c3;have vT:=hS;have HIXw:=aa (vU.out wr.drew (hS.out.up.trans (Up.drewN wr 1)));clear hx0 hz0 kW hnc c0 c1 c2 c3 vU EF dz ZC;generalize gs t.ns i=nm at *
    generalize iD aac nm=fx at *;simp only [dO];gi_wp2;refine TM (by kernel_rfl) 9 (fun w'=>w'.cell? ⟨Bn,0,none⟩=some (.slice mp aac.length mc)/\w'.cell? ⟨Bt,1,none⟩=some (.slice (some ⟨nb,no,none⟩) t.ns.length nc)/\w'.cell? ⟨nb,no+i,none⟩=some (.string nm)) ⟨uT.out,jG.out,VV.out⟩ (fun hS=>?_);simp only [eW,aT,dO,Nat.reduceAdd,ji,jk,eV,cH,cr]
    refine cF.take (i:=0) (v:=?gv0) rfl (by kernel_rfl) (fun _ _ _ h=>h) (by rfl) (fun _=>rfl) (fun w hSw=>?gy0) hS ?gr0
    case gy0 =>obtain ⟨q1,q2,q3⟩:=hSw;go_simp;try with_reducible rfl
    (try simp only [Act.put,aA,aB,aC]);refine cF.take (i:=1) (v:=?gv1) rfl (by kernel_rfl) (fun _ _ _ h=>h) (by rfl) (fun _=>rfl) (fun w hSw=>?gy1) hS ?gr1
    case gy1 =>obtain ⟨q1,q2,q3⟩:=hSw;go_simp;try with_reducible rfl
    (try simp only [Act.put,aA,aB,aC]);refine cF.take (i:=2) (v:=?gv2) rfl (by kernel_rfl) (fun _ _ _ h=>h) (by rfl) (fun _=>rfl) (fun w hSw=>?gy2) hS ?gr2
    case gy2 =>obtain ⟨q1,q2,q3⟩:=hSw;go_simp;try with_reducible rfl
    (try simp only [Act.put,aA,aB,aC]);refine cF.take (i:=3) (v:=?gv3) rfl (by kernel_rfl) (fun _ _ _ h=>h) (by rfl) (fun _=>rfl) (fun w hSw=>?gy3) hS ?gr3
    case gy3 =>obtain ⟨q1,q2,q3⟩:=hSw;go_simp;try with_reducible rfl
    (try simp only [Act.put,aA,aB,aC]);refine cF.take (i:=4) (v:=?gv4) rfl (by kernel_rfl) (fun _ _ _ h=>h) (by rfl) (fun _=>rfl) (fun w hSw=>?gy4) hS ?gr4
    case gy4 =>obtain ⟨q1,q2,q3⟩:=hSw;go_simp;try with_reducible rfl
    (try simp only [Act.put,aA,aB,aC]);refine cF.take (i:=5) (v:=?gv5) rfl (by kernel_rfl) (fun _ _ _ h=>h) (by rfl) (fun _=>rfl) (fun w hSw=>?gy5) hS ?gr5
    case gy5 =>obtain ⟨q1,q2,q3⟩:=hSw;go_simp;try with_reducible rfl
    (try simp only [Act.put,aA,aB,aC]);refine cF.step (i:=6) rfl (by kernel_rfl) (fun K' hK=>?_);go_simp;refine ⟨trivial,fun h=>(by cases h),(callsIn_wide.2 HIXw.out).mono ?_⟩;rintro e wd ⟨rfl,rfl⟩;refine hK.out _ _ (fun _=>⟨uT.out,jG.out,VV.out⟩) (fun hS=>?_);(try simp only [aA,aB,aC]);refine cF.step (i:=7) rfl (by kernel_rfl) (fun K' hK=>?_);go_simp;have ey:=Up.alloc wr.drew (.cells #[.int .i64 fx] 3);have xm:=LW wr.drew W.heap.size 3 (.int .i64 fx) vT.out.sz
    refine hK.out _ _ (fun _=>⟨ey.cell uT.out,ey.cell jG.out,ey.cell VV.out⟩) (fun hS=>?_);(try simp only [aA,aB,aC]);refine cF.step (i:=8) rfl (by kernel_rfl) (fun K' hK=>?_);go_simp;refine hK.out _ _ (aO (by kernel_rfl)) (fun hS=>?_);refine cF.done (by kernel_rfl) ?_;have hud:Up wr (wr.alloc (.cells #[.int .i64 fx] 3)).drew:=Up.trans (Up.drewN wr 1) ey
    have xy:Hid (∃L5,Lc w0 J pre L W [] [fx] ys L5 (.slice (some ⟨wr.heap.size,0,none⟩) 1 1) (wr.alloc (.cells #[.int .i64 fx] 3)).drew):=⟨_,vT.out.grow HA.out (Y:=[fx]) (w4:=(wr.alloc (.cells #[.int .i64 fx] 3)).drew) xm (Mg hud _) (fun g hg=>.inr (by injection hg with hg;exact fB hg))⟩;obtain ⟨L5,hs5⟩:=xy.out;have xy:=aa hs5;(have ZF:Hid (jC [fx]=cu t aac i):=by unfold Hid;rw [HLF.out];unfold jC;simp);have hwe:(wr.drew.heap.size)=wr.heap.size:=rfl;(try rw [hwe]);clear hS ey xm hud hs5 hwe;generalize (wr.alloc (.cells #[.int .i64 fx] 3)).drew=w5 at *
    have pW:=aa (sort_g W.heap.size w5 _ [fx] xy.out.own (by simp));gi_wp2
    first | refine ⟨trivial,fun h=>(by cases h),?_⟩ | refine ⟨fun h=>(by cases h),?_⟩
    refine (callsIn_wide.2 pW.out).mono ?_;rintro e w6 ⟨rfl,hg6,ho6⟩;have h6:=xy.out.grow HA.out ho6 hg6 (fun g hg=>.inl hg);rw [ZF.out] at h6;obtain ⟨L6,hL6⟩:∃L6:Nat->Prop,L6=fun b=>L5 b\/(w5.heap.size<=b/\b<w6.heap.size):=⟨_,rfl⟩;rw [<- hL6] at h6;have gu:=aa h6;(have gI:Hid (1=(cu t aac i).length):=by unfold Hid;rw [<- ZF.out,qZ];try rfl);clear hg6 ho6 pW xy h6 hL6;by_cases jg:i=0
    ·have qP:=aa jg
     (have d0:((i:Int)==0)=true:=by subst jg;rfl);clear jg;gi_wp2;rename_i hkk _ _ _ _;refine ⟨fun f h=>(by cases h),hkk _ _ ?_⟩;gi_wp2;exact ⟨rfl,.tuple #[(Value.slice (some ⟨wr.heap.size,0,none⟩) 1 1),.bool true],by simp [results,Tryz.results133,go_sem],_,ys,L6,rfl,by rw [gu.out.eY,VU.out,if_pos qP.out,gN],gu.out.jj,gu.out.up,gu.out.sz,gu.out.kept,gu.out.sub,gu.out.bd,⟨some ⟨wr.heap.size,0,none⟩,1,by rw [<- gI.out]⟩,gu.out.own.ints.sub fun _ _ _=>trivial⟩
    ·have qP:=aa jg
     have d0:((i:Int)==0)=false:=beq_eq_false_iff_ne.2 (by omega);have Rm:J (pre++ys) (fun b=>L6 b/\(Value.slice (some ⟨wr.heap.size,0,none⟩) 1 1).ownBlock≠some b) w6:=HA.out _ L6 _ w6 w6 gu.out.jj ⟨rfl,rfl,rfl,af _,fun _ _ _=>rfl,fun b hb=>.inl ⟨hb.1,(gu.out.bd b hb.1).2⟩⟩;have hin:ah (fun b=>¬(L6 b/\(Value.slice (some ⟨wr.heap.size,0,none⟩) 1 1).ownBlock≠some b)) w6 (Value.slice (some ⟨wr.heap.size,0,none⟩) 1 1) (cu t aac i):=(Dw gu.out.own.ints).sub fun b hb _ (h7:_/\_)=>h7.2 hb
     have I5:VR t aac (i,(Value.slice (some ⟨wr.heap.size,0,none⟩) 1 1)) (fun b=>L6 b/\(Value.slice (some ⟨wr.heap.size,0,none⟩) 1 1).ownBlock≠some b) w6:=⟨hi,qP.out,some ⟨wr.heap.size,0,none⟩,1,by show (Value.slice (some ⟨wr.heap.size,0,none⟩) 1 1)=_;rw [<- gI.out],hin,fun g hg=>by obtain ⟨c,h⟩:=ax.mC gu.out.own hg;exact ⟨c,_,h⟩⟩;have jv:(pre++ys).length<N:=by have h1:=HN.out;have h2:=congrArg List.length gu.out.eY;rw [VU.out,if_neg qP.out,aZ,CM] at h1;rw [aG] at h2;rw [aZ];omega
     obtain ⟨cq,ce⟩:=HBXX.out w6 gu.out.kept;obtain ⟨fn,tmps,assign,body,hy,hR⟩:=HY.out (m - 1) (pre++ys) (i,(Value.slice (some ⟨wr.heap.size,0,none⟩) 1 1)) _ w6 Rm I5 gu.out.up (fun b hb=>gu.out.bd b hb.1) jv;(have hne:Hid (∀b,L b->(Value.slice (some ⟨wr.heap.size,0,none⟩) 1 1).ownBlock≠some b):=fun b hb e=>by have h1:=(av gu.out.own e).1;have h2:=gu.out.lb b hb;omega);simp only at hy;clear jg Rm I5 jv hin;gi_wp2
     first | refine ⟨trivial,fun h=>(by cases h),?_⟩ | refine ⟨fun h=>(by cases h),?_⟩
     refine hR.mono ?_;rintro e W7 ⟨rfl,Rn,gK,Ro,Rp⟩;have H8:=aa (⟨Rn,gK,Ro,Rp⟩:_/\_/\_/\_);clear Rn gK Ro Rp hR;gi_wp2
     exact ⟨rfl,.tuple #[(Value.slice (some ⟨wr.heap.size,0,none⟩) 1 1),.bool true],by simp [results,Tryz.results133,go_sem],_,ys++[(i,(Value.slice (some ⟨wr.heap.size,0,none⟩) 1 1))],(fun b=>L6 b/\(Value.slice (some ⟨wr.heap.size,0,none⟩) 1 1).ownBlock≠some b),rfl,by rw [cg,gu.out.eY,VU.out,if_neg qP.out];rfl,by rw [<- dN];exact H8.out.1,H8.out.2.1,aJ gu.out.sz H8.out.2.2.1,fun b hb=>(H8.out.2.2.2 b (.inl ⟨gu.out.sub b hb,hne.out b hb⟩)).trans (gu.out.kept b hb),fun b hb=>⟨gu.out.sub b hb,hne.out b hb⟩,
      fun b hb=>(by have h1:=gu.out.bd b hb.1;have h2:=H8.out.2.2.1;omega),⟨some ⟨wr.heap.size,0,none⟩,1,by rw [<- gI.out]⟩,(ay.keep (Dw gu.out.own.ints) fun b hb _=>H8.out.2.2.2 b (.inr hb)).sub fun _ _ _=>trivial⟩
   ·have ZF:Hid (jC (lq t aac i t.ps.length)=cu t aac i):=lvS_node oC.out hi kW
    have VU:Hid (kH t i=(dc t.ps i t.ps.length).flatMap (kH t)++if i=0 then [] else [i]):=Kg t hi;have kK:Hid ((lq t aac i t.ps.length).length<=32*t.ps.length):=RX oC.out.le i _;(have hx0:0<(lq t aac i t.ps.length).length:=by have h1:=ZF.out;have h2:=congrArg List.length h1;rw [qZ] at h2;rw [h2];exact VQ oC.out hi);have d3:(((lq t aac i t.ps.length).length:Int)==0)=false:=beq_eq_false_iff_ne.2 (by omega);have xy:=hS;obtain ⟨L5,hL5⟩:∃L5:Nat->Prop,L5=L':=⟨_,rfl⟩;rw [<- hL5] at xy;have HBXX:=dz;obtain ⟨w5,hw5⟩:∃w5,w5=wr:=⟨_,rfl⟩;subst hw5
    clear kW hS hL5 c0 c1 c2 vU EF dz ZC HNC;have pW:=aa (sort_g W.heap.size w5 _ (lq t aac i t.ps.length) xy.out.own (by have:=kK.out;omega));generalize lq t aac i t.ps.length=X at *;gi_wp2
    first | refine ⟨trivial,fun h=>(by cases h),?_⟩ | refine ⟨fun h=>(by cases h),?_⟩
    refine (callsIn_wide.2 pW.out).mono ?_;rintro e w6 ⟨rfl,hg6,ho6⟩;have h6:=xy.out.grow HA.out ho6 hg6 (fun g hg=>.inl hg);rw [ZF.out] at h6;obtain ⟨L6,hL6⟩:∃L6:Nat->Prop,L6=fun b=>L5 b\/(w5.heap.size<=b/\b<w6.heap.size):=⟨_,rfl⟩;rw [<- hL6] at h6;have gu:=aa h6;(have gI:Hid (X.length=(cu t aac i).length):=by unfold Hid;rw [<- ZF.out,qZ];try rfl);clear hg6 ho6 pW xy h6 hL6;by_cases jg:i=0
    ·have qP:=aa jg
     (have d0:((i:Int)==0)=true:=by subst jg;rfl);clear jg;gi_wp2;rename_i hkk _ _ _ _;refine ⟨fun f h=>(by cases h),hkk _ _ ?_⟩;gi_wp2;exact ⟨rfl,.tuple #[(Value.slice op X.length oc),.bool true],by simp [results,Tryz.results133,go_sem],_,ys,L6,rfl,by rw [gu.out.eY,VU.out,if_pos qP.out,gN],gu.out.jj,gu.out.up,gu.out.sz,gu.out.kept,gu.out.sub,gu.out.bd,⟨op,oc,by rw [<- gI.out]⟩,gu.out.own.ints.sub fun _ _ _=>trivial⟩
    ·have qP:=aa jg
     have d0:((i:Int)==0)=false:=beq_eq_false_iff_ne.2 (by omega);have Rm:J (pre++ys) (fun b=>L6 b/\(Value.slice op X.length oc).ownBlock≠some b) w6:=HA.out _ L6 _ w6 w6 gu.out.jj ⟨rfl,rfl,rfl,af _,fun _ _ _=>rfl,fun b hb=>.inl ⟨hb.1,(gu.out.bd b hb.1).2⟩⟩;have hin:ah (fun b=>¬(L6 b/\(Value.slice op X.length oc).ownBlock≠some b)) w6 (Value.slice op X.length oc) (cu t aac i):=(Dw gu.out.own.ints).sub fun b hb _ (h7:_/\_)=>h7.2 hb
     have I5:VR t aac (i,(Value.slice op X.length oc)) (fun b=>L6 b/\(Value.slice op X.length oc).ownBlock≠some b) w6:=⟨hi,qP.out,op,oc,by show (Value.slice op X.length oc)=_;rw [<- gI.out],hin,fun g hg=>by obtain ⟨c,h⟩:=ax.mC gu.out.own hg;exact ⟨c,_,h⟩⟩;(have jv:(pre++ys).length<N:=by have h1:=HN.out;have h2:=congrArg List.length gu.out.eY;rw [VU.out,if_neg qP.out,aZ,CM] at h1;rw [aG] at h2;rw [aZ];omega);obtain ⟨cq,ce⟩:=HBXX.out w6 gu.out.kept
     obtain ⟨fn,tmps,assign,body,hy,hR⟩:=HY.out (m - 1) (pre++ys) (i,(Value.slice op X.length oc)) _ w6 Rm I5 gu.out.up (fun b hb=>gu.out.bd b hb.1) jv;(have hne:Hid (∀b,L b->(Value.slice op X.length oc).ownBlock≠some b):=fun b hb e=>by have h1:=(av gu.out.own e).1;have h2:=gu.out.lb b hb;omega);simp only at hy;clear jg Rm I5 jv hin;gi_wp2
     first | refine ⟨trivial,fun h=>(by cases h),?_⟩ | refine ⟨fun h=>(by cases h),?_⟩
     refine hR.mono ?_;rintro e W7 ⟨rfl,Rn,gK,Ro,Rp⟩;have H8:=aa (⟨Rn,gK,Ro,Rp⟩:_/\_/\_/\_);clear Rn gK Ro Rp hR;gi_wp2
     exact ⟨rfl,.tuple #[(Value.slice op X.length oc),.bool true],by simp [results,Tryz.results133,go_sem],_,ys++[(i,(Value.slice op X.length oc))],(fun b=>L6 b/\(Value.slice op X.length oc).ownBlock≠some b),rfl,by rw [cg,gu.out.eY,VU.out,if_neg qP.out];rfl,by rw [<- dN];exact H8.out.1,H8.out.2.1,aJ gu.out.sz H8.out.2.2.1,fun b hb=>(H8.out.2.2.2 b (.inl ⟨gu.out.sub b hb,hne.out b hb⟩)).trans (gu.out.kept b hb),fun b hb=>⟨gu.out.sub b hb,hne.out b hb⟩,
      fun b hb=>(by have h1:=gu.out.bd b hb.1;have h2:=H8.out.2.2.1;omega),⟨op,oc,by rw [<- gI.out]⟩,(ay.keep (Dw gu.out.own.ints) fun b hb _=>H8.out.2.2.2 b (.inr hb)).sub fun _ _ _=>trivial⟩
end
theorem sbelow_t (w:World) (P N:Value) (mp:Option Addr) (n c:Nat):Calls Tryz.prog 85 #[.agg #[P,N],.slice mp n c] w fun e w'=>e=.returned (.func (.func 132) #[] #[.pointer (some ⟨w.heap.size,0,none⟩),.pointer (some ⟨w.heap.size+1,0,none⟩)])/\w'=(w.alloc (.cells #[P,N] 39)).alloc (.cells #[.slice mp n c] 22):=by
 go_enter Tryz.func85,Tryz.ntmps85
 go_wp2_with fail
 go_ret
 exact ⟨by simp,rfl⟩
section
variable {w0:World} {t:az} {aac:List ByteArray} {l Bt Be Bn Bq N:Nat} {J:List El->(Nat->Prop)->World->Prop}
theorem VW (tF:dK t aac) (hA:UK J)
  (hY:∀m pre x L W1,J pre L W1->VR t aac x L W1->Up w0 W1->(∀b,L b->w0.heap.size<=b/\b<W1.heap.size)->pre.length<N->YieldAt Fence.wide m Tryz.prog l #[x.2] W1 fun e W' =>
   e=.returned (.bool true)/\J (pre++[x]) L W'/\Up w0 W'/\W1.heap.size<=W'.heap.size/\∀b,(L b\/x.2.ownBlock=some b)->W'.heap[b]? = W1.heap[b]?) :
  ∀(d i:Nat),t.ps.length - i<=d->i<t.ps.length->VS w0 t aac l Bt Be Bn Bq N J i
 | 0,i,hd,hi=>by omega
 | d+1,i,hd,hi=>walk_step tF hA hY hi fun c hc=>by
  obtain ⟨c1,c2,_⟩:=cD.1 hc
  exact VW tF hA hY d c (by omega) c1
theorem below_seqL (m:Nat) (tF:dK t aac) {w9:World} {pp np mp:Option Addr} {pc nc mc:Nat} (h0t:w0.heap.size<=Bt) (h0n:w0.heap.size<=Bn)
  (BX:w9.cell? ⟨Bt,0,none⟩=some (.slice pp t.ps.length pc)) (kY:w9.cell? ⟨Bt,1,none⟩=some (.slice np t.ns.length nc)) (Nd:w9.cell? ⟨Bn,0,none⟩=some (.slice mp aac.length mc))
  (hP:ah Any w0 (.slice pp t.ps.length pc) t.ps) (Dh:au Any w0 (.slice np t.ns.length nc) t.ns) (ZB:au Any w0 (.slice mp aac.length mc) aac) :
  SeqL Fence.wide m Tryz.prog 132 #[.pointer (some ⟨Bt,0,none⟩),.pointer (some ⟨Bn,0,none⟩)] (fun x:El=>#[x.2]) (VR t aac) (fun x b=>x.2.ownBlock=some b) (fun xs=>xs.map (·.1)=kH t 0) t.ps.length w0 w9 (fun b=>b=Bt\/b=Bn):=by
 intro l J W hW Y7 hW9 hA hY hJ;obtain ⟨I8,kt1⟩:=Y7 Bt (.inl rfl);obtain ⟨lt2,kt2⟩:=Y7 Bn (.inr rfl);have wT0:=(eX (a:=⟨Bt,0,none⟩) kt1).trans BX;have wT1:=(eX (a:=⟨Bt,1,none⟩) kt1).trans kY;have wBn:=(eX (a:=⟨Bn,0,none⟩) kt2).trans Nd;have ht0:=(aF tF.te).1;have aK:Up W ((W.alloc (.cells #[.func (.yield l) #[] #[]] 47)).alloc (.cells #[.nilFunc] 157)):=(Up.alloc _ _).trans (Up.alloc _ _);have hnew:=blk_alloc_new (W.alloc (.cells #[.func (.yield l) #[] #[]] 47)) (.cells #[.nilFunc] 157);rw [aQ] at hnew
 have y6:((W.alloc (.cells #[.func (.yield l) #[] #[]] 47)).alloc (.cells #[.nilFunc] 157)).heap[W.heap.size]? = some (.cells #[.func (.yield l) #[] #[]] 47 (0,0)):=by rw [blk_alloc_lt _ _ _ (by simp)];exact blk_alloc_new _ _
 have hsz:((W.alloc (.cells #[.func (.yield l) #[] #[]] 47)).alloc (.cells #[.nilFunc] 157)).heap.size=W.heap.size+2:=by simp
 generalize hW2:(W.alloc (.cells #[.func (.yield l) #[] #[]] 47)).alloc (.cells #[.nilFunc] 157)=W2 at *;have jt:W2.cell? ⟨W.heap.size+1,0,none⟩=some .nilFunc:=by simp [World.cell?,hnew]
 have hfn:W2.frozen? ⟨W.heap.size+1,0,none⟩=false:=by simp [World.frozen?,hnew]
 have dQ:Up W (W2.setCell ⟨W.heap.size+1,0,none⟩ (.func (.func 133) #[] #[.pointer (some ⟨Bt,0,none⟩),.pointer (some ⟨W.heap.size+1,0,none⟩),.pointer (some ⟨Bn,0,none⟩),.pointer (some ⟨W.heap.size,0,none⟩)])):=yC aK (p:=⟨W.heap.size+1,0,none⟩) (lz _) _;have hs3:(W2.setCell ⟨W.heap.size+1,0,none⟩ (.func (.func 133) #[] #[.pointer (some ⟨Bt,0,none⟩),.pointer (some ⟨W.heap.size+1,0,none⟩),.pointer (some ⟨Bn,0,none⟩),.pointer (some ⟨W.heap.size,0,none⟩)])).heap.size=W.heap.size+2:=by rw [mW];exact hsz
 have hq:(W2.setCell ⟨W.heap.size+1,0,none⟩ (.func (.func 133) #[] #[.pointer (some ⟨Bt,0,none⟩),.pointer (some ⟨W.heap.size+1,0,none⟩),.pointer (some ⟨Bn,0,none⟩),.pointer (some ⟨W.heap.size,0,none⟩)])).cell? ⟨W.heap.size,0,none⟩=some (.func (.yield l) #[] #[]):=by have:(W2.setCell ⟨W.heap.size+1,0,none⟩ (.func (.func 133) #[] #[.pointer (some ⟨Bt,0,none⟩),.pointer (some ⟨W.heap.size+1,0,none⟩),.pointer (some ⟨Bn,0,none⟩),.pointer (some ⟨W.heap.size,0,none⟩)])).heap[W.heap.size]? = _:=(blk_setCell_other _ _ _ _ (by show W.heap.size≠W.heap.size+1;omega)).trans y6;simp [World.cell?,this]
 have he:(W2.setCell ⟨W.heap.size+1,0,none⟩ (.func (.func 133) #[] #[.pointer (some ⟨Bt,0,none⟩),.pointer (some ⟨W.heap.size+1,0,none⟩),.pointer (some ⟨Bn,0,none⟩),.pointer (some ⟨W.heap.size,0,none⟩)])).cell? ⟨W.heap.size+1,0,none⟩=some (.func (.func 133) #[] #[.pointer (some ⟨Bt,0,none⟩),.pointer (some ⟨W.heap.size+1,0,none⟩),.pointer (some ⟨Bn,0,none⟩),.pointer (some ⟨W.heap.size,0,none⟩)]):=by
  have:(W2.setCell ⟨W.heap.size+1,0,none⟩ (.func (.func 133) #[] #[.pointer (some ⟨Bt,0,none⟩),.pointer (some ⟨W.heap.size+1,0,none⟩),.pointer (some ⟨Bn,0,none⟩),.pointer (some ⟨W.heap.size,0,none⟩)])).heap[W.heap.size+1]? = some (.cells #[.func (.func 133) #[] #[.pointer (some ⟨Bt,0,none⟩),.pointer (some ⟨W.heap.size+1,0,none⟩),.pointer (some ⟨Bn,0,none⟩),.pointer (some ⟨W.heap.size,0,none⟩)]] 157 (0,0)):=by simp [World.setCell,Array.getElem?_modify,hnew]
  simp [World.cell?,this]
 have hws:=hW.size;have hJ3:=hA [] _ (fun b=>(b=Bt\/b=Bn)\/b=W.heap.size\/b=W.heap.size+1) W _ hJ ⟨dQ.os,dQ.tape,dQ.output,dQ.size,fun b hb _=>bI dQ b hb,fun b hb=>hb.imp (fun e=>⟨e,by rcases e with rfl | rfl<;>omega⟩) (fun e=>by rw [hs3];omega)⟩
 have yH:=VW (N:=t.ps.length) (Be:=W.heap.size+1) (Bq:=W.heap.size) tF hA (fun m' pre x L W1 h1 h2 h3 h4 h5=>YieldAt.TK rfl m' (hY pre x L W1 h1 h2 h3 h4 h5)) _ 0 (af _) ht0 (m - 1) [] _ _ hJ3 (hW.trans (dQ.mono hws)) (fun b hb=>by rw [hs3];rcases hb with (rfl | rfl) | hb<;>omega) (.inr (.inl rfl)) (.inr (.inr rfl)) (.inl (.inl rfl)) (.inl (.inr rfl)) ⟨_,_,_,_,_,_,dQ.cell wT0,dQ.cell wT1,dQ.cell wBn,hP,Dh,ZB⟩ hq he (by have:=Zz tF.te;simpa using this);have jq:=aa yH;have hec:=he
 clear yH hJ3 hq he hJ dQ aK hY hnew y6 hs3 hsz hA hW hws Y7 hW9;refine callsIn_of_wp Tryz.func132 rfl trivial ?_ rfl;simp only [Tryz.ntmps132,eW,aT,dO,Nat.reduceAdd,Nat.reduceSub,ji,jk,eV,ve,cH,cr];gi_wp2;refine ⟨trivial,fun h=>(by cases h),?_⟩;refine jq.out.mono ?_;rintro e W3 ⟨v,ys,L',rfl,h1,h2,_⟩;gi_wp2
 go_end0
 exact ⟨⟨_,rfl⟩,ys,L',h1,by simpa using h2⟩
end
end
section
open Go.RowKit Go.Deep
theorem RZ (b:List Int):∀l:List (List Int),jX (l++[b])=if l.getLast? = some b then jX l else jX l++[b]
 | []=>by simp [jX]
 | [a]=>by
  by_cases h:a=b
  ·subst h;simp [jX]
  ·have h2:¬b=a:=fun e=>h e.symm
   simp [jX,h,h2]
 | a::c::l=>by
  have ih:=RZ b (c::l)
  have e1:(a::c::l).getLast? = (c::l).getLast?:=by simp [List.getLast?_cons_cons]
  rw [cr,jX,ih,e1]
  have e2:((c::l)++[b]).head? = some c:=rfl
  have e3:jX (a::c::l)=if (c::l).head? = some a then jX (c::l) else a::jX (c::l):=by rw [jX]
  have e4:(c::l).head? = some c:=rfl
  rw [e2,e3,e4]
  by_cases h:some c=some a<;>by_cases h2:(c::l).getLast? = some b
  ·rw [if_pos h,if_pos h2,if_pos h2];exact (if_pos h).symm
  ·rw [if_pos h,if_neg h2,if_neg h2,if_pos h]
  ·rw [if_neg h,if_pos h2,if_pos h2,if_neg h]
  ·rw [if_neg h,if_neg h2,if_neg h2,if_neg h];rfl
def D4 (xs:List (List Int)) (j:Nat):Bool:=decide (0<j/\gl xs j=gl xs (j - 1))
theorem ZG (xs:List (List Int)):∀j,j<=xs.length->(eM (D4 xs) j).map (gl xs)=jX (xs.take j)
 | 0,_=>by simp [eM,jX]
 | j+1,h=>by
  have hlast:(xs.take j).getLast? = if j=0 then none else some (gl xs (j - 1)):=by
   by_cases h0:j=0
   ·subst h0;simp
   ·rw [if_neg h0,List.getLast?_eq_getElem?,gV,show min j xs.length=j by omega,List.getElem?_take_of_lt (by omega)]
    simp [gl,show j - 1<xs.length by omega]
  rw [vL,take_gl (by omega),RZ,hlast,<- ZG xs j (by omega)]
  unfold D4
  by_cases h0:j=0
  ·subst h0;simp
  ·rw [if_neg h0]
   by_cases e:gl xs j=gl xs (j - 1)
   ·rw [decide_eq_true ⟨by omega,e⟩,if_pos rfl,if_pos (by rw [e])]
   ·rw [decide_eq_false (fun q=>e q.2),if_neg (by decide),if_neg (by intro q;injection q with q;exact e q.symm),cg];rfl
theorem VX (f : Nat) (lb : Array Value) (eg : ∀ args w, (callFunc f args).run Tryz.prog w = .ok (.enter f args) w) {base : Nat} {w : World} {v : Value} {ps : List (List Int × Value)} (h : uu base w v ps) (hn : ps.length <= 1000000)
    (hf : ∀ p ∈ ps, ∀ q ∈ ps, ∀ W, w.grownBy W v.ownBlock -> Calls Tryz.prog f (#[p.2, q.2] ++ lb) W fun e W' => e = .returned (.bool (decide (p.1 = q.1))) /\ ∃ m, W' = W.drewN m) :
    Calls Tryz.prog 82 #[v, .func (.func f) #[] lb] w fun e w' => w.grownBy w' v.ownBlock /\ ∃ v' ps', e = .returned v' /\ ps'.map (·.1) = jX (ps.map (·.1)) /\ uu base w' v' ps' /\ ∀ p ∈ ps', p ∈ ps := by
  have hown := h.own
  obtain ⟨q, cap, hv, _⟩ := hown.form (n := ps.length) (by simp)
  obtain ⟨_, ⟨h1, h2⟩ | ⟨g, cap', cur, h1, _⟩⟩ := hown
  · have hp : ps = [] := by simpa using h2
    subst hp
    subst h1
    have h0 : ¬ (0 : Int) ≥ 2 := by decide
    go_enter Tryz.func82, Tryz.ntmps82
    go_wp2_with fail
    go_ret
    exact ⟨AD _ _, .slice none 0 0, rfl, [], rfl, h, by simp⟩
  rw [hv] at h1
  injection h1 with h1 _ _
  subst h1
  subst hv
  have hown := h.own
  have qA : (ps.map (·.2)).length = ps.length := by simp
  have hat : ∀ j, j < ps.length -> ∃ p, p ∈ ps /\ pQ (ps.map (·.2)) j = p.2 /\ gl (ps.map (·.1)) j = p.1 := fun j hj => ⟨ps[j], lg hj, by simp [pQ, hj], by simp [gl, hj]⟩
  have hcon := compactF_t (P := D4 (ps.map (·.1))) f lb eg (base := base) (w := w) (bk := g) (cap := cap) (vs := ps.map (·.2)) (by rw [qA]; exact hown) (by rw [qA]; exact hn) rfl
    (fun j hj => by
      obtain ⟨p, hp, e, _⟩ := hat j (by simpa using hj)
      obtain ⟨q, c, e2⟩ := h.shape p hp
      exact ⟨q, _, c, by rw [e, e2]⟩)
    (fun j h0 hj W hW => by
      obtain ⟨p, hp, e1, e2⟩ := hat j (by simpa using hj)
      obtain ⟨r, hr, e3, e4⟩ := hat (j - 1) (by have : j < ps.length := by simpa using hj
                                                omega)
      rw [e1, e3]
      have hd : D4 (ps.map (·.1)) j = decide (p.1 = r.1) := by
        unfold D4
        rw [e2, e4]
        by_cases e : p.1 = r.1
        · rw [decide_eq_true ⟨h0, e⟩, decide_eq_true e]
        · rw [decide_eq_false (fun q => e q.2), decide_eq_false e]
      rw [hd]
      exact hf p hp r hr W hW)
  rw [qA] at hcon
  refine hcon.mono ?_
  rintro e w' ⟨m, rfl, ho, hg⟩
  have hkm : ∀ p ∈ (eM (D4 (ps.map (·.1))) ps.length).map (fun j => ps.getD j ([], undef)), p ∈ ps := fun p hp => by
    obtain ⟨j, hj, rfl⟩ := cm.1 hp
    have hj : j < ps.length := bh.1 (fL.1 hj).1
    rw [kD, iQ hj]; exact lg hj
  have hks : ∀ j ∈ eM (D4 (ps.map (·.1))) ps.length, j < ps.length := fun j hj => bh.1 (fL.1 hj).1
  refine ⟨hg, _, (eM (D4 (ps.map (·.1))) ps.length).map (fun j => ps.getD j ([], undef)), rfl, ?_, ⟨?_, fun p hp => h.shape p (hkm p hp), fun p hp => ?_⟩, hkm⟩
  · have h5 := ZG (ps.map (·.1)) ps.length (by simp)
    rw [Bj (by simp)] at h5
    rw [<- h5, jO]
    refine lU fun j hj => ?_
    have := hks j hj
    simp [gl, this]
  · rw [jO]
    have e : (eM (D4 (ps.map (·.1))) ps.length).map ((fun x => x.2) ∘ fun j => ps.getD j ([], undef)) = (eM (D4 (ps.map (·.1))) ps.length).map (pQ (ps.map (·.2))) := by
      refine lU fun j hj => ?_
      have := hks j hj
      simp [pQ, this]
    rw [e]; exact ho
  · exact ay.keep (h.row p (hkm p hp)) fun b hb hbl => hg.block b hbl fun e => hb e.symm
theorem uu.there {base:Nat} {w W:World} {v:Value} {ps:List (List Int×Value)} (h:uu base w v ps) (hW:w.grownBy W v.ownBlock):∀s∈ps,ah Any W s.2 s.1:=fun s hs=>(ay.keep (h.row s hs) fun b hb hbl=>hW.block b hbl fun e=>hb e.symm).sub fun _ _ _=>trivial
theorem Hl {base:Nat} {w:World} {v:Value} {ps:List (List Int×Value)} (h:uu base w v ps) (hn:ps.length<=1000000) (hl:∀p∈ps,p.1.length<=1000000) :
  Calls Tryz.prog 82 #[v,.func (.func 24) #[] #[]] w fun e w'=>w.grownBy w' v.ownBlock/\∃v' ps',e=.returned v'/\ps'.map (·.1)=jX (ps.map (·.1))/\uu base w' v' ps'/\∀p∈ps',p∈ps :=
 VX 24 #[] (enters_of Tryz.func24 (by kernel_rfl) rfl) h hn fun p hp r hr W hW=>uU Any Any W p.2 r.2 p.1 r.1 (h.there hW p hp) (h.there hW r hr) (hl p hp) (hl r hr)
end
end Go.Proofs.YthgabkgmkolobaaGreat
