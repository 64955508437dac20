/- split.below: an iterator over a .. -/
import Derived.Maps.OwnIn
import Derived.Test.YthgabkgmkolobaaGreatQ24
set_option maxRecDepth 100000
set_option maxHeartbeats 2000000
namespace Go.Proofs.YthgabkgmkolobaaGreat
section
open Go.RowKit Go.Shelf Go.Deep Go.Sort
theorem YS (base:Nat) (w1:World) (v:Value) (xs:List Int) (ho:au base 3 w1 v (xs.map (Value.int .i64))) (hlen:xs.length<=1000000) :
  Calls Tryz.prog 71 #[v] w1 fun e w'=>e=.returned (.tuple #[])/\w1.grownBy w' v.ownBlock/\au base 3 w' v ((iG xs).map (Value.int .i64)):=by
 rcases ho.2 with ⟨rfl,h0⟩ | ⟨g,cap,cur,rfl,hg,hc,hn,hcm,hcs,ht⟩
 ·have hx:xs=[]:=by cases xs with | nil=>rfl | cons _ _=>simp at h0
  subst hx;refine (AnyM.slices_Sort_int_none Tryz.sortZ none 0 w1).mono ?_;rintro e w' ⟨rfl,rfl⟩;exact ⟨rfl,⟨rfl,rfl,rfl,ah _,fun _ _ _=>rfl⟩,by unfold iG;simpa using ho⟩
 ·simp only [aD] at hn ht ho ⊢
  refine (AnyM.slices_Sort_int Tryz.sortZ g 0 cap xs w1 (holds_of_blockI hc (by simpa using ht)) (fq.1 hc).1 (by omega)).mono ?_;rintro e w' ⟨rfl,n,os,rfl⟩;refine ⟨rfl,grownBy_sortedI _,?_⟩;have h:=ownsRow_sortedI (n:=n) (os:=os) (ss:=xs) (ts:=iG xs) (oU xs) hg hc hn hcm (by simpa using hcs);unfold au;rw [aD,oU];exact h
abbrev El:=Nat×Value
def Q4 (t:ax) (amd:List ByteArray) (x:El) (L:Nat->Prop) (W:World):Prop:=x.1<t.ps.length/\x.1≠0/\∃p c,x.2=.slice p (bD t amd x.1).length c/\af (fun b=>¬L b) W x.2 (bD t amd x.1)/\∀g,x.2.ownBlock=some g->∃c z,W.heap[g]? = some (Obj.cells c 3 z)
def jP (t:ax) (amd:List ByteArray) (i k:Nat):List Int:=(cZ t.ps i k).flatMap (bD t amd)
theorem Nk {t:ax} {amd:List ByteArray} (hn:amd.length<=32) (i k:Nat):(jP t amd i k).length<=32*k:=by
 have h:∀l:List Nat,(l.flatMap (bD t amd)).length<=32*l.length:=fun l=>by
  induction l with
  | nil=>simp
  | cons a l ih =>
   have h1:(bD t amd a).length<=amd.length:=nR _ _;rw [gj,bg,aW];omega
 have h1:=h (cZ t.ps i k);have h2:=wA t.ps i k;unfold jP;omega
section
variable (w0:World) (t:ax) (amd:List ByteArray) (l Bt Be Bn Bq N:Nat) (J:List El->(Nat->Prop)->World->Prop)
def agX (pre:List El) (i:Nat) (L:Nat->Prop) (W:World) (e:Ending) (W':World):Prop :=
 ∃(v:Value) (ys:List El) (L':Nat->Prop),e=.returned (.tuple #[v,.bool true])/\ys.map (·.1)=js t i/\J (pre++ys) L' W'/\Up w0 W'/\W.heap.size<=W'.heap.size/\(∀b,L b->W'.heap[b]? = W.heap[b]?)/\(∀b,L b->L' b)/\(∀b,L' b->w0.heap.size<=b/\b<W'.heap.size) /\
  (∃p c,v=.slice p (bD t amd i).length c)/\af Any W' v (bD t amd i)
def Q5 (i:Nat):Prop :=
 ∀(m:Nat) (pre:List El) (L:Nat->Prop) (W:World),J pre L W->Up w0 W->(∀b,L b->w0.heap.size<=b/\b<W.heap.size)->L Bq->L Be->L Bt->L Bn->(∃(pp np mp:Option Addr) (pc nc mc:Nat),W.cell? ⟨Bt,0,none⟩=some (.slice pp t.ps.length pc)/\W.cell? ⟨Bt,1,none⟩=some (.slice np t.ns.length nc)/\W.cell? ⟨Bn,0,none⟩=some (.slice mp amd.length mc)/\af Any w0 (.slice pp t.ps.length pc) t.ps/\aj Any w0 (.slice np t.ns.length nc) t.ns/\aj Any w0 (.slice mp amd.length mc) amd) ->
  W.cell? ⟨Bq,0,none⟩=some (.func (.yield l) #[] #[])->W.cell? ⟨Be,0,none⟩=some (.func (.func 133) #[] #[.pointer (some ⟨Bt,0,none⟩),.pointer (some ⟨Be,0,none⟩),.pointer (some ⟨Bn,0,none⟩),.pointer (some ⟨Bq,0,none⟩)]) ->
  pre.length+(js t i).length<=N ->
  CallsIn Fence.wide m Tryz.prog 133 #[.int .i64 (i:Int),.pointer (some ⟨Bt,0,none⟩),.pointer (some ⟨Be,0,none⟩),.pointer (some ⟨Bn,0,none⟩),.pointer (some ⟨Bq,0,none⟩)] W (agX w0 t amd J pre i L W)
structure GZ (pre:List El) (L:Nat->Prop) (W:World) (Z:List Nat) (X:List Int) (ys:List El) (L':Nat->Prop) (out:Value) (wr:World):Prop where
 dN:ys.map (·.1)=Z
 jj:J (pre++ys) L' wr
 up:Up w0 wr
 sz:W.heap.size<=wr.heap.size
 lb:∀b,L b->b<W.heap.size
 kept:∀b,L b->wr.heap[b]? = W.heap[b]?
 sub:∀b,L b->L' b
 bd:∀b,L' b->w0.heap.size<=b/\b<wr.heap.size
 own:au W.heap.size 3 wr out (X.map (Value.int .i64))
 mine:∀g,out.ownBlock=some g->L' g
variable {w0 t amd l Bt Be Bn Bq N J}
theorem AO {S:Nat->Prop} {w:World} {v:Value} {xs:List Int} (h:af S w v xs):af (fun b=>v.ownBlock=some b) w v xs:=by
 obtain ⟨p,cap,rfl,hn,h⟩:=h;exact ⟨p,cap,rfl,hn,h.imp id fun ⟨g,off,e,_,hc⟩=>⟨g,off,e,by rw [e];rfl,hc⟩⟩
theorem abW {α β:Type} (f:α->List β) {a b:List α} (h:a <+: b):(a.flatMap f).length<=(b.flatMap f).length:=by
 obtain ⟨c,rfl⟩:=h;rw [qq,bg];omega
theorem Nl (ps:List Int) (i k:Nat):∀ {n:Nat},k<=n->cZ ps i k <+: cZ ps i n
 | 0,h=>by rw [show k=0 by omega];exact BS _
 | n+1,h=>by
  by_cases e:k=n+1
  ·rw [e];exact BS _
  ·refine (Nl ps i k (n:=n) (by omega)).trans ?_
   rw [lB];exact List.prefix_append _ _
theorem GZ.grow (hA:QN J) {pre:List El} {L:Nat->Prop} {W:World} {Z:List Nat} {X Y:List Int} {ys:List El} {L':Nat->Prop} {out:Value} {wr:World} (h:GZ w0 J pre L W Z X ys L' out wr) {v':Value} {w4:World}
  (ho:au W.heap.size 3 w4 v' (Y.map (Value.int .i64))) (hg:wr.grownBy w4 out.ownBlock) (hb:∀g,v'.ownBlock=some g->out.ownBlock=some g\/(wr.heap.size<=g)) :
  GZ w0 J pre L W Z Y ys (fun b=>L' b\/(wr.heap.size<=b/\b<w4.heap.size)) v' w4:=by
 have hw0:=h.up.size;have hmo:∀b,out.ownBlock=some b->W.heap.size<=b:=fun b hb=>(av h.own hb).1
 refine ⟨h.dN,hA _ L' _ wr w4 h.jj ⟨hg.os,hg.tape,hg.output,hg.size,fun b hb hn=>hg.block b hb fun e=>hn (h.mine b e.symm),fun b hb=>hb.imp (fun e=>⟨e,(h.bd b e).2⟩) id⟩,Below.grown h.up hg hw0 fun k hk=>(h.bd k (h.mine k hk)).1,aB h.sz hg.size,h.lb,
  fun b hb=>(hg.block b (iI (h.lb b hb) h.sz) fun e=>?_).trans (h.kept b hb),fun b hb=>.inl (h.sub b hb),fun b hb=>?_,ho,fun g hg'=>?_⟩
 ·have h1:=hmo b e.symm
  have h2:=h.lb b hb;omega
 ·have:=hg.size
  rcases hb with hb | hb
  ·have:=h.bd b hb;omega
  ·omega
 ·rcases hb g hg' with e | e
  ·exact .inl (h.mine g e)
  ·exact .inr ⟨e,(av ho hg').2⟩
theorem GZ.kid {pre:List El} {L:Nat->Prop} {W:World} {Z:List Nat} {X:List Int} {ys:List El} {L':Nat->Prop} {out:Value} {wr:World} (h:GZ w0 J pre L W Z X ys L' out wr) {Un:List El} {L2:Nat->Prop} {W3:World} {Z2:List Nat}
  (hn2:Un.map (·.1)=Z2) (hj2:J (pre++ys++Un) L2 W3) (aI:Up w0 W3) (hs2:wr.heap.size<=W3.heap.size) (hk2:∀b,L' b->W3.heap[b]? = wr.heap[b]?) (Kc:∀b,L' b->L2 b) (Wp:∀b,L2 b->w0.heap.size<=b/\b<W3.heap.size) :
  GZ w0 J pre L W (Z++Z2) X (ys++Un) L2 out W3 :=
 ⟨by rw [cg,h.dN,hn2],by rw [<- dS];exact hj2,aI,aB h.sz hs2,h.lb,fun b hb=>(hk2 b (h.sub b hb)).trans (h.kept b hb),fun b hb=>Kc b (h.sub b hb),Wp,h.own.yc fun b hb=>hk2 b (h.mine b hb),fun g hg=>Kc g (h.mine g hg)⟩
theorem Q6 (W:World) (base:Nat) (e:TypeId) (u:Value) (h:base<=W.heap.size):au base e (W.alloc (.cells #[u] e)) (.slice (some ⟨W.heap.size,0,none⟩) 1 1) [u] :=
 ⟨rfl,.inr ⟨W.heap.size,1,#[u],rfl,h,blk_alloc_new W _,ah _,by decide,rfl,rfl⟩⟩
theorem IE {W W':World} (h:Up W W') (row:Option Nat):W.grownBy W' row:=⟨h.os,h.tape,h.output,h.size,fun j hj _=>bH h j hj⟩
theorem YT (rB:jG t amd) (hA:QN J)
  (hY:∀m pre x L W1,J pre L W1->Q4 t amd x L W1->Up w0 W1->(∀b,L b->w0.heap.size<=b/\b<W1.heap.size)->pre.length<N->YieldAt Fence.wide m Tryz.prog l #[x.2] W1 fun e W' =>
   e=.returned (.bool true)/\J (pre++[x]) L W'/\Up w0 W'/\W1.heap.size<=W'.heap.size/\∀b,(L b\/x.2.ownBlock=some b)->W'.heap[b]? = W1.heap[b]?)
  {i:Nat} (hi:i<t.ps.length) (ih:∀c∈bL t.ps i,Q5 w0 t amd l Bt Be Bn Bq N J c):Q5 w0 t amd l Bt Be Bn Bq N J i:=by
 intro m pre L W hJ hU hL hLq hLe hLt xm D4 hq he hN;obtain ⟨pp,np,mp,pc,nc,mc,GM,nt,Jn,hP,AP,Uo⟩:=D4;obtain ⟨Ad,al2,htl,_,_⟩:=aH rB.te;have Nn:Hid (GZ w0 J pre L W ((cZ t.ps i 0).flatMap (js t)) (jP t amd i 0) [] L (.slice none 0 0) W):=⟨rfl,by rw [eG];exact hJ,hU,ah _,fun b hb=>(hL b hb).2,fun _ _=>rfl,fun _ h=>h,hL,au.nil _ _ _,fun g hg=>by cases hg⟩;have JR:Hid (∀(wr:World),(∀b,L b->wr.heap[b]? = W.heap[b]?)->wr.cell? ⟨Bt,0,none⟩=some (.slice pp t.ps.length pc)/\wr.cell? ⟨Bt,1,none⟩=some (.slice np t.ns.length nc)/\wr.cell? ⟨Bn,0,none⟩=some (.slice mp amd.length mc)):=fun wr hk=>⟨(cU (a:=⟨Bt,0,none⟩) (hk Bt hLt)).trans GM,(cU (a:=⟨Bt,1,none⟩) (hk Bt hLt)).trans nt,(cU (a:=⟨Bn,0,none⟩) (hk Bn xm)).trans Jn⟩;have aiG:Hid (∀(wr:World),(∀b,L b->wr.heap[b]? = W.heap[b]?)->∃(pp np mp:Option Addr) (pc nc mc:Nat),wr.cell? ⟨Bt,0,none⟩=some (.slice pp t.ps.length pc)/\wr.cell? ⟨Bt,1,none⟩=some (.slice np t.ns.length nc)/\wr.cell? ⟨Bn,0,none⟩=some (.slice mp amd.length mc)/\af Any w0 (.slice pp t.ps.length pc) t.ps/\aj Any w0 (.slice np t.ns.length nc) t.ns/\aj Any w0 (.slice mp amd.length mc) amd):=fun wr hk=>by obtain ⟨q1,q2,q3⟩:=JR.out wr hk;exact ⟨_,_,_,_,_,_,q1,q2,q3,hP,AP,Uo⟩
 have aR:=aa hLt;have ajG:=aa xm;have HPC:Hid (∀k,k<t.ps.length->∃b off,pp=some ⟨b,off,none⟩/\∀wr,Up w0 wr->wr.cell? ⟨b,off+k,none⟩=some (.int .i64 (gi t.ps k))):=fun k hk=>by obtain ⟨b,off,e,hc⟩:=bU hP hk;exact ⟨b,off,e,fun wr hu=>hu.cell hc⟩
 have dJ:Hid (∀(wr:World),(∀b,L b->wr.heap[b]? = W.heap[b]?)->wr.cell? ⟨Bq,0,none⟩=some (.func (.yield l) #[] #[])/\wr.cell? ⟨Be,0,none⟩=some (.func (.func 133) #[] #[.pointer (some ⟨Bt,0,none⟩),.pointer (some ⟨Be,0,none⟩),.pointer (some ⟨Bn,0,none⟩),.pointer (some ⟨Bq,0,none⟩)])):=fun wr hk =>
  ⟨(cU (a:=⟨Bq,0,none⟩) (hk Bq hLq)).trans hq,(cU (a:=⟨Be,0,none⟩) (hk Be hLe)).trans he⟩
 have HNC:Hid (∃nb no,np=some ⟨nb,no,none⟩/\∀wr,Up w0 wr->wr.cell? ⟨nb,no+i,none⟩=some (.string (gs t.ns i))):=by obtain ⟨nb,no,e,hc⟩:=cH AP (k:=i) (by omega);exact ⟨nb,no,e,fun wr hu=>hu.cell hc⟩
 have qV:Hid (∀wr,Up w0 wr->Calls Tryz.prog 95 #[.slice mp amd.length mc,.string (gs t.ns i)] wr fun e w'=>e=.returned (.int .i64 (dD amd (gs t.ns i)))/\wr=w'):=fun wr hu=>Bl Any wr _ amd.length (gs amd) (gs t.ns i) (aq.keep Uo (hu.kept _)) (by have:=rB.le;omega);have ii1:(0:Int)<=(i:Int):=vP _;have ii2:(i:Int)<(t.ns.length:Int):=by rw [htl];exact tX.2 hi
 obtain ⟨c0,c1,c2⟩:=JR.out W (fun _ _=>rfl);have n64:(t.ps.length:Int)<=64:=by omega
 refine callsIn_of_wp Tryz.func133 rfl trivial ?_ rfl;simp only [Tryz.ntmps133,dY,aW,dw,Nat.reduceAdd,Nat.reduceSub,iu,iw,dX,s9,di,cm];have HN:=aa hN;have oO:=aa ih;have HY:=aa hY;have HLQ:=aa hLq;have GL:=aa hLe;have Aj:=aa AP;have ij:=aa Uo;have HA:=aa hA;have jk:=aa rB;clear hJ hU hL hLq hLe hLt xm hq he hN ih hY hA GM nt Jn hP AP Uo rB htl;gi_wp2
 gi_loopw [8,9,10,11,12,16] (fun out _ _ _ _ i' wr=>∃(k:Nat) (ys:List El) (L':Nat->Prop),k<=t.ps.length/\i'=.int .i64 k/\Hid (GZ w0 J pre L W ((cZ t.ps i k).flatMap (js t)) (jP t amd i k) ys L' out wr)) (fun _ _ _ _ _ i' _=>t.ps.length - (intOf i').toNat)
 case atStart=>exact ⟨0,[],L,aF _,rfl,Nn⟩
 case round =>
  obtain ⟨k,ys,L',hk,rfl,hS⟩:=hrel;clear Nn c0 c1 c2;obtain ⟨c0,c1,c2⟩:=JR.out wr hS.out.kept;obtain ⟨cq,ce⟩:=dJ.out wr hS.out.kept;by_cases hlt:k<t.ps.length
  ·obtain ⟨pb,po,rfl,hpc⟩:=HPC.out k hlt
   have hcell:=hpc wr hS.out.up;have PN:=aa (lB t.ps i k);have eC:Hid (gi t.ps k=(i:Int)->i<k):=agW jk.out.te hlt;have k1:(0:Int)<=(k:Int):=vP _;have k2:(k:Int)<(t.ps.length:Int):=tX.2 hlt;(have k3:(k:Int)<64:=by omega);clear hpc;have wL:Hid (∃x,gi t.ps k=x):=⟨_,rfl⟩;by_cases hx:gi t.ps k=(i:Int)
   ·rw [hx] at hcell PN
    have hik:=eC.out hx;(have uI:Hid (cZ t.ps i (k+1)=cZ t.ps i k++[k]):=by unfold Hid;rw [PN.out,if_pos ⟨hik,rfl⟩]);have hkm:k∈bL t.ps i:=cK.2 ⟨hlt,hik,hx⟩;(have hnl:(pre++ys).length+(js t k).length<=N:=by have h1:=HN.out;have h2:=abW (js t) (Nl t.ps i (k+1) (n:=t.ps.length) (by omega));rw [uI.out,qq,bg] at h2;have h3:(ys.map (·.1)).length=_:=congrArg List.length hS.out.dN;rw [Gg t hi,bg] at h1;rw [aD] at h3;rw [bg];have h4:((cZ t.ps i t.ps.length).flatMap (js t)).length=((bL t.ps i).flatMap (js t)).length:=rfl;simp only [gj,List.flatMap_nil,eG] at h2;omega);have gQ:=aa (oO.out k hkm (m - 1) (pre++ys) L' wr hS.out.jj hS.out.up hS.out.bd (hS.out.sub _ HLQ.out) (hS.out.sub _ GL.out) (hS.out.sub _ aR.out) (hS.out.sub _ ajG.out) (aiG.out wr hS.out.kept) cq ce hnl);have hm0:0<(bD t amd k).length:=Q3 jk.out hlt;have HM0:=aa hm0;have xw:Hid ((bD t amd k).length<=32):=aB (nR _ _) jk.out.le;have pX:Hid ((jP t amd i k).length<=32*k):=Nk jk.out.le i k;clear hx hik hkm hnl hm0;gi_wp2;refine ⟨trivial,fun h=>(by cases h),?_⟩;refine gQ.out.mono ?_;rintro e W3 ⟨v2,Un,L2,rfl,hn2,hj2,aI,hs2,hk2,Kc,Wp,⟨p2,cc2,rfl⟩,hI2⟩;obtain ⟨b2,o2,rfl,_⟩:=bU hI2 HM0.out;have Fo:=aa (hS.out.kid hn2 hj2 aI hs2 hk2 Kc Wp);have Uq:=aa hI2;clear hn2 hj2 aI hs2 hk2 Kc Wp hI2 gQ cq ce c0 c1 c2 hcell;obtain ⟨i0,gO,hz0,hz1,hz2⟩:=info_parts Tryz.iD;(have zD:W3.ownsRow W.heap.size 3 1 u8 (jP t amd i k).length ((jP t amd i k).map (Value.int .i64)):=by have h:=Fo.out.own;unfold au at h;rwa [aD] at h);have Q7:=aa zD;clear zD;gi_wp2_with (gi_at_builtin;refine wpListIn_append_own_at _ rfl _ _ 26 rfl W.heap.size 3 i0 (.int .i64 0) 1 8 Tryz.underlying26 gO hz0 hz1 hz2 rfl (by decide) _ _ _ rfl Q7.out ⟨b2,o2,none⟩ (bD t amd k).length cc2 ((bD t amd k).map (Value.int .i64)) rfl (by rw [aD];omega) (XF Uq.out) (by simp [Value.oneCell']) (by have h1:=xw.out;have h2:=pX.out;unfold maxLen;omega) (by have h1:=xw.out;have h2:=pX.out;omega) Fo.out.sz ?_;intro v4 w4 Ak hg4 aiH adU);have xy:Hid (∃L4,GZ w0 J pre L W ((cZ t.ps i (k+1)).flatMap (js t)) (jP t amd i (k+1)) (ys++Un) L4 v4 w4):=by
     (have e1:(cZ t.ps i (k+1)).flatMap (js t)=(cZ t.ps i k).flatMap (js t)++js t k:=by rw [uI.out,qq];simp);have e2:jP t amd i (k+1)=jP t amd i k++bD t amd k:=by unfold jP;rw [uI.out,qq];simp
     have g4:=Fo.out.grow HA.out (Y:=jP t amd i k++bD t amd k) (v':=v4) (w4:=w4) (by unfold au;rw [aD,bg,cg];exact Ak) hg4 (fun g hg=>by
      rcases adU with e | e
      ·exact .inl (e ▸ hg)
      ·rw [e] at hg;injection hg with hg;exact .inr (by omega))
     rw [<- e1,<- e2] at g4;exact ⟨_,g4⟩
    clear Ak hg4 aiH adU Fo;gi_wp2
    go_roundw
    case rel =>obtain ⟨L4,h4⟩:=xy.out;exact ⟨k+1,ys++Un,L4,by omega,by go_num,h4⟩
    case measure=>simp [intOf];omega
   ·generalize gi t.ps k=x at *
    (have d1:(x==(i:Int))=false:=by simpa using hx);(have d2:(x != (i:Int))=true:=by simpa using hx);(have uI:Hid (cZ t.ps i (k+1)=cZ t.ps i k):=by unfold Hid;rw [PN.out,if_neg (fun e=>hx e.2),eG]);clear hx;gi_wp2
    go_roundw
    case rel=>exact ⟨k+1,ys,L',by omega,by go_num,by
     have h:=hS.out
     unfold Hid jP;rw [uI.out];exact h⟩
    case measure=>simp [intOf];omega
  ·obtain rfl:k=t.ps.length:=by omega
   have Ke:Hid (cZ t.ps i t.ps.length=bL t.ps i):=rfl;obtain ⟨op,oc,rfl,hform⟩:=hS.out.own.form (n:=(jP t amd i t.ps.length).length) (by rw [aD]);clear hform cq ce hlt hk;by_cases nj:bL t.ps i=[]
   ·have hx0:jP t amd i t.ps.length=[]:=by unfold jP;rw [Ke.out,nj];rfl
    (have hz0:(cZ t.ps i t.ps.length).flatMap (js t)=[]:=by rw [Ke.out,nj];rfl);rw [hx0,hz0] at hS;rw [hx0];have G0:=aa (abU jk.out hi nj);(have Q8:Hid (js t i=[]++if i=0 then [] else [i]):=by unfold Hid;rw [Gg t hi,nj];rfl);have abX:=dJ;obtain ⟨nb,no,rfl,hnc⟩:=HNC.out;have c3:=hnc wr hS.out.up;have lV:=aa c0;have gA:=aa c1;have lZ:=aa c2;have AQ:=aa c3;have xh:=hS;have ajH:=aa (qV.out wr.drew (hS.out.up.trans (Up.drewN wr 1)));clear hx0 hz0 nj hnc c0 c1 c2 c3 qV JR dJ HPC;generalize gs t.ns i=nm at *;generalize dD amd nm=fx at *;simp only [dw];gi_wp2;refine Pr (by kernel_rfl) 9 (fun w'=>w'.cell? ⟨Bn,0,none⟩=some (.slice mp amd.length mc)/\w'.cell? ⟨Bt,1,none⟩=some (.slice (some ⟨nb,no,none⟩) t.ns.length nc)/\w'.cell? ⟨nb,no+i,none⟩=some (.string nm)) ⟨lZ.out,gA.out,AQ.out⟩ (fun hS=>?_);simp only [dY,aW,dw,Nat.reduceAdd,iu,iw,dX,di,cm];refine cr.take (i:=0) (v:=?gv0) rfl (by kernel_rfl) (fun _ _ _ h=>h) (by rfl) (fun _=>rfl) (fun w hSw=>?gy0) hS ?gr0
    case gy0 =>obtain ⟨q1,q2,q3⟩:=hSw;go_simp;try with_reducible rfl
    (try simp only [Act.put,aL,aM,aN]);refine cr.take (i:=1) (v:=?gv1) rfl (by kernel_rfl) (fun _ _ _ h=>h) (by rfl) (fun _=>rfl) (fun w hSw=>?gy1) hS ?gr1
    case gy1 =>obtain ⟨q1,q2,q3⟩:=hSw;go_simp;try with_reducible rfl
    (try simp only [Act.put,aL,aM,aN]);refine cr.take (i:=2) (v:=?gv2) rfl (by kernel_rfl) (fun _ _ _ h=>h) (by rfl) (fun _=>rfl) (fun w hSw=>?gy2) hS ?gr2
    case gy2 =>obtain ⟨q1,q2,q3⟩:=hSw;go_simp;try with_reducible rfl
    (try simp only [Act.put,aL,aM,aN]);refine cr.take (i:=3) (v:=?gv3) rfl (by kernel_rfl) (fun _ _ _ h=>h) (by rfl) (fun _=>rfl) (fun w hSw=>?gy3) hS ?gr3
    case gy3 =>obtain ⟨q1,q2,q3⟩:=hSw;go_simp;try with_reducible rfl
    (try simp only [Act.put,aL,aM,aN]);refine cr.take (i:=4) (v:=?gv4) rfl (by kernel_rfl) (fun _ _ _ h=>h) (by rfl) (fun _=>rfl) (fun w hSw=>?gy4) hS ?gr4
    case gy4 =>obtain ⟨q1,q2,q3⟩:=hSw;go_simp;try with_reducible rfl
    (try simp only [Act.put,aL,aM,aN]);refine cr.take (i:=5) (v:=?gv5) rfl (by kernel_rfl) (fun _ _ _ h=>h) (by rfl) (fun _=>rfl) (fun w hSw=>?gy5) hS ?gr5
    case gy5 =>obtain ⟨q1,q2,q3⟩:=hSw;go_simp;try with_reducible rfl
    (try simp only [Act.put,aL,aM,aN]);refine cr.step (i:=6) rfl (by kernel_rfl) (fun K' hK=>?_);go_simp;refine ⟨trivial,fun h=>(by cases h),(callsIn_wide.2 ajH.out).mono ?_⟩;rintro e wd ⟨rfl,rfl⟩;refine hK.out _ _ (fun _=>⟨lZ.out,gA.out,AQ.out⟩) (fun hS=>?_);(try simp only [aL,aM,aN]);refine cr.step (i:=7) rfl (by kernel_rfl) (fun K' hK=>?_);go_simp;have gJ:=Up.alloc wr.drew (.cells #[.int .i64 fx] 3);have xx:=Q6 wr.drew W.heap.size 3 (.int .i64 fx) xh.out.sz;refine hK.out _ _ (fun _=>⟨gJ.cell lZ.out,gJ.cell gA.out,gJ.cell AQ.out⟩) (fun hS=>?_);(try simp only [aL,aM,aN]);refine cr.step (i:=8) rfl (by kernel_rfl) (fun K' hK=>?_);go_simp;refine hK.out _ _ (bF ·) (fun hS=>?_);refine cr.done (by kernel_rfl) ?_;have hud:Up wr (wr.alloc (.cells #[.int .i64 fx] 3)).drew:=Up.trans (Up.drewN wr 1) gJ;have D2:Hid (∃L5,GZ w0 J pre L W [] [fx] ys L5 (.slice (some ⟨wr.heap.size,0,none⟩) 1 1) (wr.alloc (.cells #[.int .i64 fx] 3)).drew):=⟨_,xh.out.grow HA.out (Y:=[fx]) (w4:=(wr.alloc (.cells #[.int .i64 fx] 3)).drew) xx (IE hud _) (fun g hg=>.inr (by injection hg with hg;exact fD hg))⟩;obtain ⟨L5,hs5⟩:=D2.out;have D2:=aa hs5;(have Ur:Hid (iG [fx]=bD t amd i):=by unfold Hid;rw [G0.out];unfold iG;simp);have G1:(wr.drew.heap.size)=wr.heap.size:=rfl;(try rw [G1]);clear hS gJ xx hud hs5 G1;generalize (wr.alloc (.cells #[.int .i64 fx] 3)).drew=w5 at *;have kJ:=aa (YS W.heap.size w5 _ [fx] D2.out.own (by simp));gi_wp2
    first | refine ⟨trivial,fun h=>(by cases h),?_⟩ | refine ⟨fun h=>(by cases h),?_⟩
    refine (callsIn_wide.2 kJ.out).mono ?_;rintro e w6 ⟨rfl,YU,YV⟩;have h6:=D2.out.grow HA.out YV YU (fun g hg=>.inl hg);rw [Ur.out] at h6;obtain ⟨L6,YW⟩:∃L6:Nat->Prop,L6=fun b=>L5 b\/(w5.heap.size<=b/\b<w6.heap.size):=⟨_,rfl⟩;rw [<- YW] at h6;have eO:=aa h6;(have kH:Hid (1=(bD t amd i).length):=by unfold Hid;rw [<- Ur.out,oU];try rfl);clear YU YV kJ D2 h6 YW;by_cases gO:i=0
    ·have uK:=aa gO
     (have d0:((i:Int)==0)=true:=by subst gO;rfl);clear gO;gi_wp2;rename_i hkk _ _ _ _;refine ⟨fun f h=>(by cases h),hkk _ _ ?_⟩;gi_wp2;exact ⟨rfl,.tuple #[(Value.slice (some ⟨wr.heap.size,0,none⟩) 1 1),.bool true],by simp [results,Tryz.results133,go_sem],_,ys,L6,rfl,by rw [eO.out.dN,Q8.out,if_pos uK.out,eG],eO.out.jj,eO.out.up,eO.out.sz,eO.out.kept,eO.out.sub,eO.out.bd,⟨some ⟨wr.heap.size,0,none⟩,1,by rw [<- kH.out]⟩,eO.out.own.ints.sub fun _ _ _=>trivial⟩
    ·have uK:=aa gO
     have d0:((i:Int)==0)=false:=beq_eq_false_iff_ne.2 (by omega);have Np:J (pre++ys) (fun b=>L6 b/\(Value.slice (some ⟨wr.heap.size,0,none⟩) 1 1).ownBlock≠some b) w6:=HA.out _ L6 _ w6 w6 eO.out.jj ⟨rfl,rfl,rfl,ah _,fun _ _ _=>rfl,fun b hb=>.inl ⟨hb.1,(eO.out.bd b hb.1).2⟩⟩;have hin:af (fun b=>¬(L6 b/\(Value.slice (some ⟨wr.heap.size,0,none⟩) 1 1).ownBlock≠some b)) w6 (Value.slice (some ⟨wr.heap.size,0,none⟩) 1 1) (bD t amd i):=(AO eO.out.own.ints).sub fun b hb _ (h7:_/\_)=>h7.2 hb;have Fh:Q4 t amd (i,(Value.slice (some ⟨wr.heap.size,0,none⟩) 1 1)) (fun b=>L6 b/\(Value.slice (some ⟨wr.heap.size,0,none⟩) 1 1).ownBlock≠some b) w6:=⟨hi,uK.out,some ⟨wr.heap.size,0,none⟩,1,by show (Value.slice (some ⟨wr.heap.size,0,none⟩) 1 1)=_;rw [<- kH.out],hin,fun g hg=>by obtain ⟨c,h⟩:=au.kL eO.out.own hg;exact ⟨c,_,h⟩⟩;(have oL:(pre++ys).length<N:=by have h1:=HN.out;have h2:=congrArg List.length eO.out.dN;rw [Q8.out,if_neg uK.out,bg,z8] at h1;rw [aD] at h2;rw [bg];omega);obtain ⟨cq,ce⟩:=abX.out w6 eO.out.kept;obtain ⟨fn,tmps,assign,body,hy,hR⟩:=HY.out (m - 1) (pre++ys) (i,(Value.slice (some ⟨wr.heap.size,0,none⟩) 1 1)) _ w6 Np Fh eO.out.up (fun b hb=>eO.out.bd b hb.1) oL;(have hne:Hid (∀b,L b->(Value.slice (some ⟨wr.heap.size,0,none⟩) 1 1).ownBlock≠some b):=fun b hb e=>by have h1:=(av eO.out.own e).1;have h2:=eO.out.lb b hb;omega);simp only at hy;clear gO Np Fh oL hin;gi_wp2
     first | refine ⟨trivial,fun h=>(by cases h),?_⟩ | refine ⟨fun h=>(by cases h),?_⟩
     refine hR.mono ?_;rintro e W7 ⟨rfl,Nq,iH,Nr,Ns⟩;have H8:=aa (⟨Nq,iH,Nr,Ns⟩:_/\_/\_/\_);clear Nq iH Nr Ns hR;gi_wp2
     exact ⟨rfl,.tuple #[(Value.slice (some ⟨wr.heap.size,0,none⟩) 1 1),.bool true],by simp [results,Tryz.results133,go_sem],_,ys++[(i,(Value.slice (some ⟨wr.heap.size,0,none⟩) 1 1))],(fun b=>L6 b/\(Value.slice (some ⟨wr.heap.size,0,none⟩) 1 1).ownBlock≠some b),rfl,by rw [cg,eO.out.dN,Q8.out,if_neg uK.out];rfl,by rw [<- dS];exact H8.out.1,H8.out.2.1,aB eO.out.sz H8.out.2.2.1,fun b hb=>(H8.out.2.2.2 b (.inl ⟨eO.out.sub b hb,hne.out b hb⟩)).trans (eO.out.kept b hb),fun b hb=>⟨eO.out.sub b hb,hne.out b hb⟩,
      fun b hb=>(by have h1:=eO.out.bd b hb.1;have h2:=H8.out.2.2.1;omega),⟨some ⟨wr.heap.size,0,none⟩,1,by rw [<- kH.out]⟩,(aq.keep (AO eO.out.own.ints) fun b hb _=>H8.out.2.2.2 b (.inr hb)).sub fun _ _ _=>trivial⟩
   ·have Ur:Hid (iG (jP t amd i t.ps.length)=bD t amd i):=abV jk.out hi nj
    have Q8:Hid (js t i=(cZ t.ps i t.ps.length).flatMap (js t)++if i=0 then [] else [i]):=Gg t hi;have pX:Hid ((jP t amd i t.ps.length).length<=32*t.ps.length):=Nk jk.out.le i _;(have hx0:0<(jP t amd i t.ps.length).length:=by have h1:=Ur.out;have h2:=congrArg List.length h1;rw [oU] at h2;rw [h2];exact Q3 jk.out hi);have d3:(((jP t amd i t.ps.length).length:Int)==0)=false:=beq_eq_false_iff_ne.2 (by omega);have D2:=hS;obtain ⟨L5,hL5⟩:∃L5:Nat->Prop,L5=L':=⟨_,rfl⟩;rw [<- hL5] at D2;have abX:=dJ;obtain ⟨w5,hw5⟩:∃w5,w5=wr:=⟨_,rfl⟩;subst hw5;clear nj hS hL5 c0 c1 c2 qV JR dJ HPC HNC;have kJ:=aa (YS W.heap.size w5 _ (jP t amd i t.ps.length) D2.out.own (by have:=pX.out;omega));generalize jP t amd i t.ps.length=X at *;gi_wp2
    first | refine ⟨trivial,fun h=>(by cases h),?_⟩ | refine ⟨fun h=>(by cases h),?_⟩
    refine (callsIn_wide.2 kJ.out).mono ?_;rintro e w6 ⟨rfl,YU,YV⟩;have h6:=D2.out.grow HA.out YV YU (fun g hg=>.inl hg);rw [Ur.out] at h6;obtain ⟨L6,YW⟩:∃L6:Nat->Prop,L6=fun b=>L5 b\/(w5.heap.size<=b/\b<w6.heap.size):=⟨_,rfl⟩;rw [<- YW] at h6;have eO:=aa h6;(have kH:Hid (X.length=(bD t amd i).length):=by unfold Hid;rw [<- Ur.out,oU];try rfl);clear YU YV kJ D2 h6 YW;by_cases gO:i=0
    ·have uK:=aa gO
     (have d0:((i:Int)==0)=true:=by subst gO;rfl);clear gO;gi_wp2;rename_i hkk _ _ _ _;refine ⟨fun f h=>(by cases h),hkk _ _ ?_⟩;gi_wp2;exact ⟨rfl,.tuple #[(Value.slice op X.length oc),.bool true],by simp [results,Tryz.results133,go_sem],_,ys,L6,rfl,by rw [eO.out.dN,Q8.out,if_pos uK.out,eG],eO.out.jj,eO.out.up,eO.out.sz,eO.out.kept,eO.out.sub,eO.out.bd,⟨op,oc,by rw [<- kH.out]⟩,eO.out.own.ints.sub fun _ _ _=>trivial⟩
    ·have uK:=aa gO
     have d0:((i:Int)==0)=false:=beq_eq_false_iff_ne.2 (by omega);have Np:J (pre++ys) (fun b=>L6 b/\(Value.slice op X.length oc).ownBlock≠some b) w6:=HA.out _ L6 _ w6 w6 eO.out.jj ⟨rfl,rfl,rfl,ah _,fun _ _ _=>rfl,fun b hb=>.inl ⟨hb.1,(eO.out.bd b hb.1).2⟩⟩;have hin:af (fun b=>¬(L6 b/\(Value.slice op X.length oc).ownBlock≠some b)) w6 (Value.slice op X.length oc) (bD t amd i):=(AO eO.out.own.ints).sub fun b hb _ (h7:_/\_)=>h7.2 hb;have Fh:Q4 t amd (i,(Value.slice op X.length oc)) (fun b=>L6 b/\(Value.slice op X.length oc).ownBlock≠some b) w6:=⟨hi,uK.out,op,oc,by show (Value.slice op X.length oc)=_;rw [<- kH.out],hin,fun g hg=>by obtain ⟨c,h⟩:=au.kL eO.out.own hg;exact ⟨c,_,h⟩⟩;(have oL:(pre++ys).length<N:=by have h1:=HN.out;have h2:=congrArg List.length eO.out.dN;rw [Q8.out,if_neg uK.out,bg,z8] at h1;rw [aD] at h2;rw [bg];omega);obtain ⟨cq,ce⟩:=abX.out w6 eO.out.kept;obtain ⟨fn,tmps,assign,body,hy,hR⟩:=HY.out (m - 1) (pre++ys) (i,(Value.slice op X.length oc)) _ w6 Np Fh eO.out.up (fun b hb=>eO.out.bd b hb.1) oL;(have hne:Hid (∀b,L b->(Value.slice op X.length oc).ownBlock≠some b):=fun b hb e=>by have h1:=(av eO.out.own e).1;have h2:=eO.out.lb b hb;omega);simp only at hy;clear gO Np Fh oL hin;gi_wp2
     first | refine ⟨trivial,fun h=>(by cases h),?_⟩ | refine ⟨fun h=>(by cases h),?_⟩
     refine hR.mono ?_;rintro e W7 ⟨rfl,Nq,iH,Nr,Ns⟩;have H8:=aa (⟨Nq,iH,Nr,Ns⟩:_/\_/\_/\_);clear Nq iH Nr Ns hR;gi_wp2
     exact ⟨rfl,.tuple #[(Value.slice op X.length oc),.bool true],by simp [results,Tryz.results133,go_sem],_,ys++[(i,(Value.slice op X.length oc))],(fun b=>L6 b/\(Value.slice op X.length oc).ownBlock≠some b),rfl,by rw [cg,eO.out.dN,Q8.out,if_neg uK.out];rfl,by rw [<- dS];exact H8.out.1,H8.out.2.1,aB eO.out.sz H8.out.2.2.1,fun b hb=>(H8.out.2.2.2 b (.inl ⟨eO.out.sub b hb,hne.out b hb⟩)).trans (eO.out.kept b hb),fun b hb=>⟨eO.out.sub b hb,hne.out b hb⟩,
      fun b hb=>(by have h1:=eO.out.bd b hb.1;have h2:=H8.out.2.2.1;omega),⟨op,oc,by rw [<- kH.out]⟩,(aq.keep (AO eO.out.own.ints) fun b hb _=>H8.out.2.2.2 b (.inr hb)).sub fun _ _ _=>trivial⟩
end
theorem abY (w:World) (P N:Value) (mp:Option Addr) (n c:Nat):Calls Tryz.prog 85 #[.agg #[P,N],.slice mp n c] w fun e w'=>e=.returned (.func (.func 132) #[] #[.pointer (some ⟨w.heap.size,0,none⟩),.pointer (some ⟨w.heap.size+1,0,none⟩)])/\w'=(w.alloc (.cells #[P,N] 39)).alloc (.cells #[.slice mp n c] 22):=by
 go_in;go_wp2;go_ret;exact ⟨by simp,rfl⟩
section
variable {w0:World} {t:ax} {amd:List ByteArray} {l Bt Be Bn Bq N:Nat} {J:List El->(Nat->Prop)->World->Prop}
theorem Q9 (rB:jG t amd) (hA:QN J)
  (hY:∀m pre x L W1,J pre L W1->Q4 t amd x L W1->Up w0 W1->(∀b,L b->w0.heap.size<=b/\b<W1.heap.size)->pre.length<N->YieldAt Fence.wide m Tryz.prog l #[x.2] W1 fun e W' =>
   e=.returned (.bool true)/\J (pre++[x]) L W'/\Up w0 W'/\W1.heap.size<=W'.heap.size/\∀b,(L b\/x.2.ownBlock=some b)->W'.heap[b]? = W1.heap[b]?) :
  ∀(d i:Nat),t.ps.length - i<=d->i<t.ps.length->Q5 w0 t amd l Bt Be Bn Bq N J i
 | 0,i,hd,hi=>by omega
 | d+1,i,hd,hi=>YT rB hA hY hi fun c hc=>by
  obtain ⟨c1,c2,_⟩:=cK.1 hc
  exact Q9 rB hA hY d c (by omega) c1
theorem Wq (m:Nat) (rB:jG t amd) {w9:World} {pp np mp:Option Addr} {pc nc mc:Nat} (h0t:w0.heap.size<=Bt) (h0n:w0.heap.size<=Bn)
  (GM:w9.cell? ⟨Bt,0,none⟩=some (.slice pp t.ps.length pc)) (nt:w9.cell? ⟨Bt,1,none⟩=some (.slice np t.ns.length nc)) (Jn:w9.cell? ⟨Bn,0,none⟩=some (.slice mp amd.length mc))
  (hP:af Any w0 (.slice pp t.ps.length pc) t.ps) (AP:aj Any w0 (.slice np t.ns.length nc) t.ns) (Uo:aj Any w0 (.slice mp amd.length mc) amd) :
  abK Fence.wide m Tryz.prog 132 #[.pointer (some ⟨Bt,0,none⟩),.pointer (some ⟨Bn,0,none⟩)] (fun x:El=>#[x.2]) (Q4 t amd) (fun x b=>x.2.ownBlock=some b) (fun xs=>xs.map (·.1)=js t 0) t.ps.length w0 w9 (fun b=>b=Bt\/b=Bn):=by
 intro l J W hW Us hW9 hA hY hJ;obtain ⟨lt1,YX⟩:=Us Bt (.inl rfl);obtain ⟨lt2,kt2⟩:=Us Bn (.inr rfl);have wT0:=(cU (a:=⟨Bt,0,none⟩) YX).trans GM;have wT1:=(cU (a:=⟨Bt,1,none⟩) YX).trans nt;have wBn:=(cU (a:=⟨Bn,0,none⟩) kt2).trans Jn;have Ad:=(aH rB.te).1;have aI:Up W ((W.alloc (.cells #[.func (.yield l) #[] #[]] 47)).alloc (.cells #[.nilFunc] 157)):=(Up.alloc _ _).trans (Up.alloc _ _);have hnew:=blk_alloc_new (W.alloc (.cells #[.func (.yield l) #[] #[]] 47)) (.cells #[.nilFunc] 157);rw [aQ] at hnew;have j8:((W.alloc (.cells #[.func (.yield l) #[] #[]] 47)).alloc (.cells #[.nilFunc] 157)).heap[W.heap.size]? = some (.cells #[.func (.yield l) #[] #[]] 47 (0,0)):=by rw [blk_alloc_lt _ _ _ (by simp)];exact blk_alloc_new _ _
 have hsz:((W.alloc (.cells #[.func (.yield l) #[] #[]] 47)).alloc (.cells #[.nilFunc] 157)).heap.size=W.heap.size+2:=by simp
 generalize hW2:(W.alloc (.cells #[.func (.yield l) #[] #[]] 47)).alloc (.cells #[.nilFunc] 157)=W2 at *;have fG:W2.cell? ⟨W.heap.size+1,0,none⟩=some .nilFunc:=by simp [World.cell?,hnew]
 have hfn:W2.frozen? ⟨W.heap.size+1,0,none⟩=false:=by simp [World.frozen?,hnew]
 have cR:Up W (W2.setCell ⟨W.heap.size+1,0,none⟩ (.func (.func 133) #[] #[.pointer (some ⟨Bt,0,none⟩),.pointer (some ⟨W.heap.size+1,0,none⟩),.pointer (some ⟨Bn,0,none⟩),.pointer (some ⟨W.heap.size,0,none⟩)])):=Below.setCell aI (p:=⟨W.heap.size+1,0,none⟩) (oh _) _;have hs3:(W2.setCell ⟨W.heap.size+1,0,none⟩ (.func (.func 133) #[] #[.pointer (some ⟨Bt,0,none⟩),.pointer (some ⟨W.heap.size+1,0,none⟩),.pointer (some ⟨Bn,0,none⟩),.pointer (some ⟨W.heap.size,0,none⟩)])).heap.size=W.heap.size+2:=by rw [nh];exact hsz
 have hq:(W2.setCell ⟨W.heap.size+1,0,none⟩ (.func (.func 133) #[] #[.pointer (some ⟨Bt,0,none⟩),.pointer (some ⟨W.heap.size+1,0,none⟩),.pointer (some ⟨Bn,0,none⟩),.pointer (some ⟨W.heap.size,0,none⟩)])).cell? ⟨W.heap.size,0,none⟩=some (.func (.yield l) #[] #[]):=by have:(W2.setCell ⟨W.heap.size+1,0,none⟩ (.func (.func 133) #[] #[.pointer (some ⟨Bt,0,none⟩),.pointer (some ⟨W.heap.size+1,0,none⟩),.pointer (some ⟨Bn,0,none⟩),.pointer (some ⟨W.heap.size,0,none⟩)])).heap[W.heap.size]? = _:=(blk_setCell_other _ _ _ _ (by show W.heap.size≠W.heap.size+1;omega)).trans j8;simp [World.cell?,this]
 have he:(W2.setCell ⟨W.heap.size+1,0,none⟩ (.func (.func 133) #[] #[.pointer (some ⟨Bt,0,none⟩),.pointer (some ⟨W.heap.size+1,0,none⟩),.pointer (some ⟨Bn,0,none⟩),.pointer (some ⟨W.heap.size,0,none⟩)])).cell? ⟨W.heap.size+1,0,none⟩=some (.func (.func 133) #[] #[.pointer (some ⟨Bt,0,none⟩),.pointer (some ⟨W.heap.size+1,0,none⟩),.pointer (some ⟨Bn,0,none⟩),.pointer (some ⟨W.heap.size,0,none⟩)]):=by
  have:(W2.setCell ⟨W.heap.size+1,0,none⟩ (.func (.func 133) #[] #[.pointer (some ⟨Bt,0,none⟩),.pointer (some ⟨W.heap.size+1,0,none⟩),.pointer (some ⟨Bn,0,none⟩),.pointer (some ⟨W.heap.size,0,none⟩)])).heap[W.heap.size+1]? = some (.cells #[.func (.func 133) #[] #[.pointer (some ⟨Bt,0,none⟩),.pointer (some ⟨W.heap.size+1,0,none⟩),.pointer (some ⟨Bn,0,none⟩),.pointer (some ⟨W.heap.size,0,none⟩)]] 157 (0,0)):=by simp [World.setCell,Array.getElem?_modify,hnew]
  simp [World.cell?,this]
 have hws:=hW.size;have hJ3:=hA [] _ (fun b=>(b=Bt\/b=Bn)\/b=W.heap.size\/b=W.heap.size+1) W _ hJ ⟨cR.os,cR.tape,cR.output,cR.size,fun b hb _=>bH cR b hb,fun b hb=>hb.imp (fun e=>⟨e,by rcases e with rfl | rfl<;>omega⟩) (fun e=>by rw [hs3];omega)⟩;have vT:=Q9 (N:=t.ps.length) (Be:=W.heap.size+1) (Bq:=W.heap.size) rB hA (fun m' pre x L W1 h1 h2 h3 h4 h5=>YieldAt.Pp rfl m' (hY pre x L W1 h1 h2 h3 h4 h5)) _ 0 (ah _) Ad (m - 1) [] _ _ hJ3 (hW.trans (cR.mono hws)) (fun b hb=>by rw [hs3];rcases hb with (rfl | rfl) | hb<;>omega) (.inr (.inl rfl)) (.inr (.inr rfl)) (.inl (.inl rfl)) (.inl (.inr rfl)) ⟨_,_,_,_,_,_,cR.cell wT0,cR.cell wT1,cR.cell wBn,hP,AP,Uo⟩ hq he (by have:=Um rB.te;simpa using this);have gQ:=aa vT;have hec:=he;clear vT hJ3 hq he hJ cR aI hY hnew j8 hs3 hsz hA hW hws Us hW9;refine callsIn_of_wp Tryz.func132 rfl trivial ?_ rfl;simp only [Tryz.ntmps132,dY,aW,dw,Nat.reduceAdd,Nat.reduceSub,iu,iw,dX,s9,di,cm];gi_wp2;refine ⟨trivial,fun h=>(by cases h),?_⟩;refine gQ.out.mono ?_;rintro e W3 ⟨v,ys,L',rfl,h1,h2,_⟩;gi_wp2
 go_end0
 exact ⟨⟨_,rfl⟩,ys,L',h1,by simpa using h2⟩
end
end
section
open Go Go.RowKit Go.Deep
theorem wY {F:Fence} {nF:Nat} {P:Program} {ops:Array Oper} {rest:List Oper} {o:Oper} {a:Act} {Q:Exit->Act->World->Prop} (W:World) (hgd:o.guard=none) (s x:Operand) (t:TypeId) (ho:o.op=.call { callee:=.builtin .append,args:=#[s,x],argTypes:=#[t,t] })
  (base:Nat) (e:TypeId) (z:Value) (bytes:Nat) (ht:P.underlying t=some (.slice e)) (hinfo:(P.info? e).map (fun i=>(i.zero,i.size,i.bytes))=some (some z,1,bytes))
  (hz1:z.cells.size=1) (lN:bytes<=64) {v:Value} {vs:List Value} (hown:au base e W v vs) (hs:a.eval s=v) (u:Value)
  (hx:a.eval x=.slice (some ⟨W.heap.size,0,none⟩) 1 1) (h1:u.oneCell'=true) (k:Nat) (tJ:vs.length=k) (hn:k<=1000000) (hbase:base<=W.heap.size)
  (h:∀g cap w',au base e w' (.slice (some ⟨g,0,none⟩) (k+1) cap) (vs++[u])->W.grownBy w' v.ownBlock->(v.ownBlock=some g\/W.heap.size<=g)->wpListIn F nF P ops Q rest (a.put o.dst (.slice (some ⟨g,0,none⟩) (k+1) cap)) w') :
  wpListIn F nF P ops Q (o::rest) a (W.alloc (.cells #[u] e)):=by
 subst tJ;obtain ⟨i,hi,hzz⟩:=jR.1 hinfo;simp only [kX] at hzz;obtain ⟨hz,hs1,hb⟩:=hzz;refine wpListIn_plain hgd fun K hK'=>?_;obtain ⟨g,cap,w',hr,h2,h3,h4,h5⟩:=run_append_lies (P:=P) (W.alloc (.cells #[u] e)) t o.type base e i z 1 bytes ht hi hz hs1 hb hz1 (by omega) v vs.length vs (hown.alloc _) ⟨W.heap.size,0,none⟩ 1 1 [u] rfl (cell_one_new _ _ _) (by simpa using h1) (by omega)
  (by unfold maxLen;omega) (by have:(vs.length+1)*bytes<=(vs.length+1)*64:=qO _ lN;omega) (by simp;omega) _ rfl
 unfold Oper.wpIn;refine ⟨by simp [Oper.about,ho,resolve,Target.leads,Sem.run_pure],?_⟩;rw [Oper.semAt_plain F _ _ (by rw [ho];intro c hc';cases hc')];simp [execOp,ho,resolve,invoke,builtin,hs,hx,hr,Result.andThen];exact hK' _ _ (h g cap w' (by unfold au;rw [bg];exact h2) (lM h3) (h4.imp id fun e=>by rw [e,aQ];omega))
end
end Go.Proofs.YthgabkgmkolobaaGreat
