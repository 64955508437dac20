/- contamination.assignments: an iterator over a recursive closure that writes one list .. -/
import Derived.Test.YtfomhlbhcifgbaaGreatDoorQ38
import Derived.Test.YtfomhlbhcifgbaaGreatDoorQ12
set_option maxRecDepth 100000
set_option maxHeartbeats 4000000
namespace Go.Proofs.YtfomhlbhcifgbaaGreatDoor
open Go.RowKit Go.Shelf Go.Deep Go.Sort
attribute [local go_sem] vz
abbrev Ev:=Value×List Int
def OO (st:List Int) (x:Ev) (L:Nat->Prop) (W:World):Prop:=af L W x.1 x.2/\x.2.length=st.length
def Ky (st cur:List Int):Prop:=cur.length=st.length/\∀j,j<st.length->0<=gi st j->gi cur j=gi st j
def kQ (vals st cur:List Int) (i:Nat):List (List Int):=(eR vals (st.drop i)).map (cur.take i++·)
theorem OP (vals:List Int) {st cur:List Int} (hk:Ky st cur):kQ vals st cur st.length=[cur]:=by
 unfold kQ;rw [List.drop_length];simp only [eR,cV,List.map_nil,gm];rw [sM (by rw [hk.1];exact aj _)]
theorem Ez {st:List Int} {i:Nat} (hi:i<st.length):st.drop i=gi st i::st.drop (i+1):=by
 rw [List.drop_eq_getElem_cons hi];simp [gi,hi]
theorem Jw (vals:List Int) {st cur:List Int} {i:Nat} (hk:Ky st cur) (hi:i<st.length) (h0:0<=gi st i):kQ vals st cur i=kQ vals st cur (i+1):=by
 unfold kQ;rw [Ez hi];simp only [eR];rw [if_pos h0,jO];refine iK fun c _=>?_;have:i<cur.length:=by rw [hk.1];exact hi
 rw [iL this];have e:cur[i]=gi st i:=by rw [<- hk.2 i hi h0];simp [gi,this]
 simp [e]
def mS (vals st cur:List Int) (i k:Nat):List (List Int):=(vals.take k).flatMap fun v=>(eR vals (st.drop (i+1))).map fun c=>cur.take i++v::c
theorem EX (vals:List Int) {st cur:List Int} {i:Nat} (hi:i<st.length) (h0:gi st i<0):kQ vals st cur i=mS vals st cur i vals.length:=by
 unfold kQ mS;rw [Ez hi];simp only [eR];rw [if_neg (by omega),gq,vu];congr 1;funext v;rw [jO];rfl
theorem LX (vals st cur:List Int) (i:Nat) {k:Nat} (hk:k<vals.length):mS vals st cur i (k+1)=mS vals st cur i k++(eR vals (st.drop (i+1))).map fun c=>cur.take i++gi vals k::c:=by
 unfold mS;rw [iL hk,o9];have:vals[k]=gi vals k:=by simp [gi,hk]
 simp [this]
theorem EA (vals st cur:List Int) (i k:Nat):mS vals st cur i k <+: mS vals st cur i vals.length:=by
 unfold mS;rw [gq];generalize (fun v=>(eR vals (st.drop (i+1))).map fun c=>cur.take i++v::c)=F;have h:(vals.take k).flatMap F <+: (vals.take k++vals.drop k).flatMap F:=by rw [o9];exact List.prefix_append _ _
 rwa [A5] at h
theorem OQ (vals st:List Int) {cur:List Int} {i:Nat} {x:Int} (hi:i<cur.length):kQ vals st (cur.set i x) (i+1)=(eR vals (st.drop (i+1))).map fun c=>cur.take i++x::c:=by
 unfold kQ;refine iK fun c _=>?_;have:i<(cur.set i x).length:=by rw [List.length_set];exact hi
 rw [iL this,List.take_set_of_le (aj _)];simp
theorem Ky.set {st cur:List Int} {i:Nat} (h:Ky st cur) (h0:gi st i<0) (x:Int):Ky st (cur.set i x):=by
 refine ⟨by rw [List.length_set];exact h.1,fun j hj hj0=>?_⟩;have hne:i≠j:=by rintro rfl;omega
 rw [<- h.2 j hj hj0];unfold gi;rw [mN,mN,List.getElem?_set_ne hne]
theorem EB {a b:List Int} {i:Nat} (h:a.take (i+1)=b.take (i+1)):a.take i=b.take i:=by
 have:=congrArg (List.take i) h
 rwa [List.take_take,List.take_take,Nat.min_eq_left (jP i)] at this
theorem Jy {S:Nat->Prop} {w:World} {v:Value} {xs:List Int} (h:af S w v xs):af (fun b=>v.ownBlock=some b) w v xs:=by
 obtain ⟨p,cap,rfl,hn,h⟩:=h;exact ⟨p,cap,rfl,hn,h.imp id fun ⟨g,off,e,_,hc⟩=>⟨g,off,e,by rw [e];rfl,hc⟩⟩
structure yL (st vals:List Int) (w0:World) (l Bs Bq Bo Be Bv g oc:Nat) (vp:Option Addr) (vc:Nat) (L:Nat->Prop) (W:World) (cur:List Int):Prop where
 up:Up w0 W
 bd:∀b,L b->w0.heap.size<=b/\b<W.heap.size
 cs:∃ip ic,W.cell? ⟨Bs,0,none⟩=some (.slice ip st.length ic)/\af Any w0 (.slice ip st.length ic) st
 cq:W.cell? ⟨Bq,0,none⟩=some (.func (.yield l) #[] #[])
 co:W.cell? ⟨Bo,0,none⟩=some (.slice (some ⟨g,0,none⟩) st.length oc)
 ce:W.cell? ⟨Be,0,none⟩=some (.func (.func 109) #[] #[.pointer (some ⟨Bs,0,none⟩),.pointer (some ⟨Bq,0,none⟩),.pointer (some ⟨Bo,0,none⟩),.pointer (some ⟨Be,0,none⟩),.pointer (some ⟨Bv,0,none⟩)])
 cv:W.cell? ⟨Bv,0,none⟩=some (.slice vp vals.length vc)/\af (fun b=>L b/\b≠g) W (.slice vp vals.length vc) vals
 own:au w0.heap.size 3 W (.slice (some ⟨g,0,none⟩) st.length oc) (cur.map (Value.int .i64))
 ls:L Bs/\L Bq/\L Bo/\L Be/\L Bv/\L g
 ne:Bs≠g/\Bq≠g/\Bo≠g/\Be≠g/\Bv≠g
 kn:Ky st cur
section
variable {st vals cur:List Int} {w0 W W':World} {l Bs Bq Bo Be Bv g oc N:Nat} {vp:Option Addr} {vc:Nat} {L:Nat->Prop} {J:List Ev->(Nat->Prop)->World->Prop} {Jx:List Ev->World->Prop}
theorem yL.same (h:yL st vals w0 l Bs Bq Bo Be Bv g oc vp vc L W cur) (hu:Up w0 W') (hs:W.heap.size<=W'.heap.size) (hk:∀b,L b->W'.heap[b]? = W.heap[b]?):yL st vals w0 l Bs Bq Bo Be Bv g oc vp vc L W' cur:=by
 obtain ⟨l1,l2,l3,l4,l5,l6⟩:=h.ls;obtain ⟨ip,ic,s1,s2⟩:=h.cs;obtain ⟨v1,v2⟩:=h.cv
 exact ⟨hu,fun b hb=>⟨(h.bd b hb).1,lM (h.bd b hb).2 hs⟩,⟨ip,ic,(cW (a:=⟨Bs,0,none⟩) (hk _ l1)).trans s1,s2⟩,(cW (a:=⟨Bq,0,none⟩) (hk _ l2)).trans h.cq,(cW (a:=⟨Bo,0,none⟩) (hk _ l3)).trans h.co,(cW (a:=⟨Be,0,none⟩) (hk _ l4)).trans h.ce,
  ⟨(cW (a:=⟨Bv,0,none⟩) (hk _ l5)).trans v1,af.keep v2 fun b hb _=>hk b hb.1⟩,h.own.fE fun b hb=>by injection hb with hb;subst hb;exact hk _ l6,h.ls,h.ne,h.kn⟩
theorem yL.set (h:yL st vals w0 l Bs Bq Bo Be Bv g oc vp vc L W cur) {i:Nat} (hi:i<st.length) (h0:gi st i<0) (x:Int) :
  (W.cell? ⟨g,i,none⟩=some (.int .i64 (gi cur i))/\W.frozen? ⟨g,i,none⟩=false)/\yL st vals w0 l Bs Bq Bo Be Bv g oc vp vc L (W.setCell ⟨g,i,none⟩ (.int .i64 x)) (cur.set i x)/\Cz L L W (W.setCell ⟨g,i,none⟩ (.int .i64 x)):=by
 obtain ⟨l1,l2,l3,l4,l5,l6⟩:=h.ls;obtain ⟨n1,n2,n3,n4,n5⟩:=h.ne;obtain ⟨ip,ic,s1,s2⟩:=h.cs;obtain ⟨v1,v2⟩:=h.cv;have OB:cur.length=st.length:=h.kn.1;obtain ⟨g',c',e,hg1,hg2,hg3,hg4,cZ⟩:=h.own.set (j:=i) (by rw [aD];omega);injection e with e1 e2 e3;injection e1 with e1;injection e1 with e1;subst e1;have hk:∀b,b≠g->(W.setCell ⟨g,i,none⟩ (.int .i64 x)).heap[b]? = W.heap[b]?:=fun b hb=>blk_setCell_other _ _ _ _ hb;have hu:Up w0 (W.setCell ⟨g,i,none⟩ (.int .i64 x)):=jm h.up (p:=⟨g,i,none⟩) hg1 _
 refine ⟨⟨?_,hg4⟩,⟨hu,fun b hb=>by rw [gX];exact h.bd b hb,⟨ip,ic,(cW (a:=⟨Bs,0,none⟩) (hk _ n1)).trans s1,s2⟩,(cW (a:=⟨Bq,0,none⟩) (hk _ n2)).trans h.cq,(cW (a:=⟨Bo,0,none⟩) (hk _ n3)).trans h.co,(cW (a:=⟨Be,0,none⟩) (hk _ n4)).trans h.ce,
  ⟨(cW (a:=⟨Bv,0,none⟩) (hk _ n5)).trans v1,af.keep v2 fun b hb _=>hk b hb.2⟩,?_,h.ls,h.ne,h.kn.set h0 x⟩,⟨rfl,rfl,rfl,by rw [gX];exact aj _,fun b _ hn=>hk b fun e=>hn (by rw [e];exact l6),fun b hb=>.inl ⟨hb,(h.bd b hb).2⟩⟩⟩
 ·rw [hg3];simp [gi,show i<cur.length by omega]
 ·rw [<- JO];exact cZ _
def Ch (st vals:List Int) (w0:World) (l Bs Bq Bo Be Bv g oc:Nat) (vp:Option Addr) (vc:Nat) (L:Nat->Prop) (J:List Ev->(Nat->Prop)->World->Prop) (Jx:List Ev->World->Prop) (pre:List Ev) (i:Nat) (cur:List Int) (W:World) (e:Ending) (W':World):Prop :=
 (e=.returned (.bool true)/\∃ys cur',ys.map (·.2)=kQ vals st cur i/\J (pre++ys) L W'/\yL st vals w0 l Bs Bq Bo Be Bv g oc vp vc L W' cur'/\cur'.take i=cur.take i/\W.heap.size<=W'.heap.size) \/
 (e=.returned (.bool false)/\∃q:List Ev,q.map (·.2) <+: kQ vals st cur i/\Jx (pre++q) W')
def ID (st vals:List Int) (w0:World) (l Bs Bq Bo Be Bv g oc N:Nat) (vp:Option Addr) (vc:Nat) (L:Nat->Prop) (J:List Ev->(Nat->Prop)->World->Prop) (Jx:List Ev->World->Prop) (i:Nat):Prop :=
 ∀(m:Nat) (pre:List Ev) (W:World) (cur:List Int),J pre L W->yL st vals w0 l Bs Bq Bo Be Bv g oc vp vc L W cur->pre.length+(kQ vals st cur i).length<=N ->
  CallsIn Fence.wide m Tryz.prog 109 #[.int .i64 (i:Int),.pointer (some ⟨Bs,0,none⟩),.pointer (some ⟨Bq,0,none⟩),.pointer (some ⟨Bo,0,none⟩),.pointer (some ⟨Be,0,none⟩),.pointer (some ⟨Bv,0,none⟩)] W (Ch st vals w0 l Bs Bq Bo Be Bv g oc vp vc L J Jx pre i cur W)
theorem EC (hn:st.length<=7) (hv:vals.length<=7) (hA:DJ J)
  (hY:∀m pre x W1,J pre L W1->OO st x L W1->Up w0 W1->(∀b,L b->w0.heap.size<=b/\b<W1.heap.size)->pre.length<N->YieldAt Fence.wide m Tryz.prog l #[x.1] W1 fun e W' =>
   (e=.returned (.bool true)/\J (pre++[x]) L W'/\Up w0 W'/\W1.heap.size<=W'.heap.size/\∀b,L b->W'.heap[b]? = W1.heap[b]?)\/(e=.returned (.bool false)/\Jx (pre++[x]) W'))
  {i:Nat} (hi:i<=st.length) (ih:i<st.length->ID st vals w0 l Bs Bq Bo Be Bv g oc N vp vc L J Jx (i+1)):ID st vals w0 l Bs Bq Bo Be Bv g oc N vp vc L J Jx i:=by
 intro m pre W cur hJ hF hN;obtain ⟨ip,ic,s1,s2⟩:=hF.cs;have cq:=hF.cq;have co:=hF.co;have ce:=hF.ce;have i8:(i:Int)<8:=by omega
 have HY:=aa hY;have HJ:=aa hJ;have HF:=aa hF;have HN:=aa hN;have HA:=aa hA;have tr:=aa ih;have HV:=aa hv;refine callsIn_of_wp Tryz.func109 rfl trivial ?_ rfl;simp only [Tryz.ntmps109,gI,bB,eW,Nat.reduceAdd,Nat.reduceSub,jL,jM,gH,qI,dz,cw];by_cases hlt:i<st.length
 ·have d1:((i:Int)==(st.length:Int))=false:=beq_eq_false_iff_ne.2 (by omega)
  have d2:(i:Int)<(st.length:Int):=by omega
  obtain ⟨ib,io,rfl,s3⟩:=dh s2 hlt;have s4:=hF.up.cell s3;have d3:(0:Int)<=(i:Int):=by omega
  have bf:=aa hlt;clear hJ hF hN hY hA ih hv s2 s3 hlt hi;by_cases h0:0<=gi st i
  ·have DT:=Jw vals HF.out.kn bf.out h0
   have wE:=tr.out bf.out (m - 1) pre W cur HJ.out HF.out (by rw [<- DT];exact HN.out);rw [show (((i+1:Nat)):Int)=(i:Int)+1 by simp] at wE;have iz:=aa wE;have HFK:=aa DT;clear DT wE;generalize gi st i=x at *;gi_wp2;refine ⟨trivial,fun h=>(by cases h),?_⟩;refine iz.out.mono ?_;rintro e W3 dr;unfold Ch at dr;obtain ⟨bb,rfl,hq⟩:=jX dr;clear dr iz;gi_wp2;go_ret;rcases hq.out with ⟨rfl,ys,cur',h1,h2,h3,h4,h5⟩ | ⟨rfl,q,h1,h2⟩
   ·exact .inl ⟨rfl,ys,cur',by rw [HFK.out];exact h1,h2,h3,EB h4,h5⟩
   ·exact .inr ⟨rfl,q,by rw [HFK.out];exact h1,h2⟩
  ·have h0:gi st i<0:=by omega
   have hfa:=EX vals (cur:=cur) bf.out h0;have YJ:=aa hfa;have H0:=aa h0;(have d4:decide (0<=gi st i)=false:=by simp;omega);have cv:=HF.out.cv.1;have uX:Hid (([]:List Ev).map (·.2)=mS vals st cur i 0/\J (pre++[]) L W/\yL st vals w0 l Bs Bq Bo Be Bv g oc vp vc L W cur):=⟨by unfold mS;simp,by rw [gm];exact HJ.out,HF.out⟩;have HG:Hid (gi st i=gi st i):=rfl;clear hfa h0 HG;generalize hx:gi st i=x at d4 s4 ⊢;clear hx;gi_wp2;clear cv ce co cq s1 s4
   gi_loopw [9,28] (fun _ i' wr=>∃(k:Nat) (ys:List Ev) (cur':List Int),k<=vals.length/\i'=.int .i64 k/\Hid (ys.map (·.2)=mS vals st cur i k/\J (pre++ys) L wr/\yL st vals w0 l Bs Bq Bo Be Bv g oc vp vc L wr cur'/\cur'.take i=cur.take i/\W.heap.size<=wr.heap.size)) (fun _ i' _=>vals.length - (intOf i').toNat)
   case atStart=>exact ⟨0,[],cur,bg _,rfl,uX.out.1,uX.out.2.1,uX.out.2.2,rfl,aj _⟩
   case round =>
    obtain ⟨k,ys,cur',hk,rfl,hI⟩:=hrel;obtain ⟨wo,rfl⟩:=e9 wr;obtain ⟨hys,Eu,ED,EE,hsk⟩:=hI.out;have hv7:=HV.out;by_cases hlk:k<vals.length
    ·obtain ⟨vb,vo,rfl,hvc⟩:=dh ED.cv.2 hlk
     (have k1:(k:Int)<(vals.length:Int):=by omega);(have k2:(k:Int)<8:=by omega);have co:=ED.co;have OB:cur'.length=st.length:=ED.kn.1;obtain ⟨⟨o1,o2⟩,hF2,YK⟩:=ED.set bf.out H0.out (gi vals k);have hJ2:=HA.out (pre++ys) L L _ _ Eu YK;have ce2:=hF2.ce;have hfs:=OQ vals st (cur:=cur') (x:=gi vals k) (i:=i) (by rw [OB];exact bf.out);rw [EE] at hfs;have jq:=LX vals st cur i hlk;rw [<- hfs] at jq;have hyl:ys.length=(mS vals st cur i k).length:=by rw [<- hys,aD]
     have wE:=tr.out bf.out (m - 1) (pre++ys) _ _ hJ2 hF2 (by
      have h1:=HN.out;have h2:=(EA vals st cur i (k+1)).length_le;rw [jq,bG] at h2;rw [YJ.out] at h1;rw [bG]
      omega)
     rw [show (((i+1:Nat)):Int)=(i:Int)+1 by simp] at wE;have iz:=aa wE;have rD:=aa jq;have TG:=aa hys;(have yJ:Hid ((cur'.set i (gi vals k)).take i=cur.take i):=by unfold Hid;rw [List.take_set_of_le (aj _)];exact EE);(have FA:Hid (W.heap.size<=(wo.setCell ⟨g,i,none⟩ (.int .i64 (gi vals k))).heap.size):=by unfold Hid;rw [gX];exact hsk);have HLK:=aa hlk;have Ii:=aa (EA vals st cur i (k+1));clear wE jq hys hfs hyl hJ2 hF2 YK Eu ED EE hsk hI hlk OB hv7;generalize gi vals k=vk at *;gi_wp2
     refine ⟨trivial,fun h=>(by cases h),?_⟩;refine iz.out.mono ?_;rintro e W3 dr;unfold Ch at dr;obtain ⟨bb,rfl,hq⟩:=jX dr;clear dr iz o1 o2 ce2 co;cases bb
     ·gi_wp2
      go_ret;rcases hq.out with ⟨h,_⟩ | ⟨_,q,h1,h2⟩
      ·cases h
      ·refine .inr ⟨rfl,ys++q,?_,by rw [<- cU];exact h2⟩
       rw [cm,TG.out,YJ.out];refine List.IsPrefix.trans ?_ Ii.out;rw [rD.out];exact (List.prefix_append_right_inj _).2 h1
     ·gi_wp2
      go_roundw
      case rel =>
       rcases hq.out with ⟨_,ys2,c2,h1,h2,h3,h4,h5⟩ | ⟨h,_⟩
       ·exact ⟨k+1,ys++ys2,c2,HLK.out,by go_num,by rw [cm,TG.out,rD.out,h1],by rw [<- cU];exact h2,h3,(EB h4).trans yJ.out,aV FA.out h5⟩
       ·cases h
      case measure=>have:=HLK.out;simp [intOf];omega
    ·obtain rfl:k=vals.length:=by omega
     clear Eu ED;gi_wp2;go_ret;obtain ⟨hys,Eu,ED,EE,hsk⟩:=hI.out;exact .inl ⟨rfl,ys,cur',by rw [YJ.out];exact hys,Eu,ED,EE,hsk⟩
 ·obtain rfl:i=st.length:=by omega
  have d1:((st.length:Int)==(st.length:Int))=true:=by simp
  have J3:=OP vals hF.kn;have hg:OO st (.slice (some ⟨g,0,none⟩) st.length oc,cur) L W:=by have h1:=Jy hF.own.ints;exact ⟨af.sub h1 fun b hb _=>by injection hb with hb;subst hb;exact hF.ls.2.2.2.2.2,hF.kn.1⟩
  obtain ⟨fn,tmps,assign,body,hy,hR⟩:=hY (m - 1) pre (.slice (some ⟨g,0,none⟩) st.length oc,cur) W hJ hg hF.up hF.bd (by rw [J3] at hN;simp at hN;omega);have HFE:=aa J3;clear J3 hg hJ hF hN hY hA ih hv hlt hi s2;gi_wp2;refine ⟨fun h=>(by cases h),?_⟩;refine hR.mono ?_;rintro e W3 dr;obtain ⟨bb,rfl,hq⟩:=jX dr;clear dr hR;gi_wp2;go_ret;rcases hq.out with ⟨rfl,h1,h2,h3,h4⟩ | ⟨rfl,h1⟩
  ·exact .inl ⟨rfl,[(.slice (some ⟨g,0,none⟩) st.length oc,cur)],cur,by rw [HFE.out];rfl,h1,HF.out.same h2 h3 h4,rfl,h3⟩
  ·exact .inr ⟨rfl,[(.slice (some ⟨g,0,none⟩) st.length oc,cur)],by rw [HFE.out];exact List.prefix_refl _,h1⟩
end
end Go.Proofs.YtfomhlbhcifgbaaGreatDoor
