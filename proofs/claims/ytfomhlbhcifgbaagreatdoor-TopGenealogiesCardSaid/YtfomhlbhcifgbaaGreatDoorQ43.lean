/- contamination.assignments: the iterator as a whole. -/
import Derived.Test.YtfomhlbhcifgbaaGreatDoorQ41
set_option maxRecDepth 100000
set_option maxHeartbeats 4000000
namespace Go.Proofs.YtfomhlbhcifgbaaGreatDoor
open Go.RowKit Go.Shelf Go.Deep Go.Sort
theorem U1 (w:World) (mp:Option Addr) (n c:Nat):Calls Tryz.prog 67 #[.slice mp n c] w fun e w'=>e=.returned (.func (.func 108) #[] #[.pointer (some ⟨w.heap.size,0,none⟩)])/\w'=w.alloc (.cells #[.slice mp n c] 27):=by
 go_in;go_wp2;go_ret;exact ⟨by simp,rfl⟩
theorem au.YO {b b':Nat} {e:TypeId} {w:World} {v:Value} {vs:List Value} (h:au b e w v vs) (hb:b'<=b):au b' e w v vs:=by
 refine ⟨h.1,?_⟩;rcases h.2 with h0 | ⟨g,cap,cur,rfl,hg,hr⟩
 ·exact .inl h0
 ·exact .inr ⟨g,cap,cur,rfl,aV hb hg,hr⟩
structure QW (W0 Wc:World) (xs ys:List (Value×List Int)) (E:List Nat):Prop where
 up:Up W0 Wc
 vs:∀x∈xs,af (fun b=>W0.heap.size<=b/\∀y∈ys,y.1.ownBlock≠some b) Wc x.1 x.2
 os:∀y∈ys,au W0.heap.size 3 Wc y.1 (y.2.map (Value.int .i64))
 bx:∀b∈E,(W0.heap.size<=b/\∀y∈ys,y.1.ownBlock≠some b)/\Wc.heap[b]? = some (Obj.cells #[.slice none 0 0] 27 (0,0))
 nd:E.Nodup
section
variable {W0 Wc W':World} {xs ys:List (Value×List Int)} {E:List Nat}
theorem QW.start (W:World):QW W W [] [] []:=⟨Up.refl _,fun _ h=>(by cases h),fun _ h=>(by cases h),fun _ h=>(by cases h),List.nodup_nil⟩
theorem QW.later (h:QW W0 Wc xs ys E) (hu:Up Wc W'):QW W0 W' xs ys E :=
 ⟨h.up.trans hu,fun x hx=>af.keep (h.vs x hx) (hu.kept _),fun y hy=>(h.os y hy).fE fun b hb=>aO hu b (az (h.os y hy) hb).2,fun b hb=>⟨(h.bx b hb).1,(aO hu b (bq.1 (h.bx b hb).2).1).trans (h.bx b hb).2⟩,h.nd⟩
theorem QW.val (h:QW W0 Wc xs ys E) (hu:Up Wc W') {u:Value} {vals:List Int} (hi:af (fun b=>Wc.heap.size<=b) W' u vals):QW W0 W' ((u,vals)::xs) ys E:=by
 have h1:=h.later hu;refine ⟨h1.up,fun x hx=>?_,h1.os,h1.bx,h1.nd⟩;rcases bQ.1 hx with rfl | hx
 ·exact hi.sub fun b hb _=>⟨aV h.up.size hb,fun y hy e=>by have:=(az (h.os y hy) e).2;have hb:Wc.heap.size<=b:=hb;omega⟩
 ·exact h1.vs x hx
theorem QW.own (h:QW W0 Wc xs ys E) (hu:Up Wc W') {o:Value} {l:List Int} (ho:au Wc.heap.size 3 W' o (l.map (Value.int .i64))):QW W0 W' xs ((o,l)::ys) E:=by
 have h1:=h.later hu;refine ⟨h1.up,fun x hx=>?_,fun y hy=>?_,fun b hb=>⟨⟨(h1.bx b hb).1.1,fun y hy=>?_⟩,(h1.bx b hb).2⟩,h1.nd⟩
 ·have h2:=(h.vs x hx).sub (T:=fun b=>(W0.heap.size<=b/\∀y∈ys,y.1.ownBlock≠some b)/\b<Wc.heap.size) fun b hb hl=>⟨hb,hl⟩
  refine (af.keep h2 (hu.kept _)).sub fun b hb _=>⟨hb.1.1,fun y hy=>?_⟩;rcases bQ.1 hy with rfl | hy
  ·exact fun e=>by have:=(az ho e).1;have:=hb.2;omega
  ·exact hb.1.2 y hy
 ·rcases bQ.1 hy with rfl | hy
  ·exact ho.YO h.up.size
  ·exact h1.os y hy
 ·rcases bQ.1 hy with rfl | hy
  ·exact fun e=>by have h3:=(az ho e).1;have h4:=(bq.1 (h.bx b hb).2).1;omega
  ·exact (h1.bx b hb).1.2 y hy
theorem QW.box (h:QW W0 Wc xs ys E):QW W0 (Wc.alloc (.cells #[.slice none 0 0] 27)) xs ys (Wc.heap.size::E):=by
 have h1:=h.later (Up.alloc Wc (.cells #[.slice none 0 0] 27));refine ⟨h1.up,h1.vs,h1.os,fun b hb=>?_,sK.2 ⟨fun hm=>?_,h1.nd⟩⟩
 ·rcases bQ.1 hb with rfl | hb
  ·exact ⟨⟨h.up.size,fun y hy e=>by have:=(az (h.os y hy) e).2;omega⟩,blk_alloc_new _ _⟩
  ·exact h1.bx b hb
 ·have:=(bq.1 (h.bx _ hm).2).1;omega
structure QF (W0 W:World) (u:Value) (vals:List Int) (o:Value) (st:List Int) (Bv Bo:Nat):Prop where
 up:Up W0 W
 hu:af (fun b=>W0.heap.size<=b/\o.ownBlock≠some b) W u vals
 ho:au W0.heap.size 3 W o (st.map (Value.int .i64))
 bv:(W0.heap.size<=Bv/\o.ownBlock≠some Bv)/\W.heap[Bv]? = some (Obj.cells #[.slice none 0 0] 27 (0,0))
 bo:(W0.heap.size<=Bo/\o.ownBlock≠some Bo)/\W.heap[Bo]? = some (Obj.cells #[.slice none 0 0] 27 (0,0))
 ne:Bv≠Bo
theorem QW.fin (h:QW W0 Wc xs ys E) {u o:Value} {vals st:List Int} {Bv Bo:Nat} (h1:(u,vals)∈xs) (h2:(o,st)∈ys) (h3:Bv∈E) (h4:Bo∈E) (h5:E=[Bv,Bo]\/E=[Bo,Bv]):QF W0 Wc u vals o st Bv Bo :=
 ⟨h.up,(h.vs _ h1).sub fun b hb _=>⟨hb.1,hb.2 _ h2⟩,h.os _ h2,⟨⟨(h.bx _ h3).1.1,(h.bx _ h3).1.2 _ h2⟩,(h.bx _ h3).2⟩,⟨⟨(h.bx _ h4).1.1,(h.bx _ h4).1.2 _ h2⟩,(h.bx _ h4).2⟩,by
  have hn:=h.nd
  rcases h5 with rfl | rfl
  ·simpa using hn
  ·simpa using fun e=>(sK.1 hn).1 (by rw [e];simp)⟩
theorem QF.cells {W:World} {u o:Value} {vals st:List Int} {Bv Bo:Nat} (h:QF W0 W u vals o st Bv Bo):W.cell? ⟨Bv,0,none⟩=some (.slice none 0 0)/\(W.setCell ⟨Bv,0,none⟩ u).cell? ⟨Bo,0,none⟩=some (.slice none 0 0)/\W.frozen? ⟨Bv,0,none⟩=false/\(W.setCell ⟨Bv,0,none⟩ u).frozen? ⟨Bo,0,none⟩=false:=by
 have h1:=h.bv.2;have h2:(W.setCell ⟨Bv,0,none⟩ u).heap[Bo]? = _:=(blk_setCell_other _ _ _ _ (show Bo≠Bv from fun e=>h.ne e.symm)).trans h.bo.2;refine ⟨?_,?_,?_,?_⟩<;>simp [World.cell?,World.frozen?,h1,h2]
end
theorem af.OX {S:Nat->Prop} {W:World} {v:Value} {xs:List Int} {B:Nat} {p:Option Addr} {n c:Nat} {T:TypeId} {z:Nat×Nat} (h:af S W v xs) (hb:W.heap[B]? = some (Obj.cells #[.slice p n c] T z)):af (fun b=>S b/\b≠B) W v xs:=by
 obtain ⟨q,cap,rfl,hle,hh⟩:=h;by_cases h0:xs.length=0
 ·exact ⟨q,cap,rfl,hle,.inl h0⟩
 ·refine ⟨q,cap,rfl,hle,hh.imp id ?_⟩
  rintro ⟨b,off,e,hS,hc⟩;refine ⟨b,off,e,⟨hS,fun e2=>?_⟩,hc⟩;have h1:=hc 0 (by omega);rw [e2] at h1;simp only [World.cell?,hb] at h1;cases off with
  | zero=>simp at h1
  | succ off=>simp at h1
def IJ (W:World) (n:Nat):Prop:=W.heap.size=n
theorem YP {w0 W Wd Wf:World} {l Bs bv bo uc oc ic:Nat} {ip up og:Option Addr} {st vals:List Int} (h0:0<st.length) (hB:w0.heap.size<=Bs) (hlt:Bs<W.heap.size) (hw:Up w0 W) (hU:Up W Wd) (hq:Wd.cell? ⟨W.heap.size,0,none⟩=some (.func (.yield l) #[] #[])) (hc:Wd.cell? ⟨Bs,0,none⟩=some (.slice ip st.length ic)) (hs:IJ Wd (W.heap.size+1))
  (hI:af Any w0 (.slice ip st.length ic) st) (h:QF Wd Wf (.slice up vals.length uc) vals (.slice og st.length oc) st bv bo) :
  ∃g,og=some ⟨g,0,none⟩ /\
   yL st vals w0 l Bs W.heap.size bo Wf.heap.size bv g oc up uc (fun b=>b=Bs\/(W.heap.size<=b/\b<Wf.heap.size+1)) (((Wf.setCell ⟨bv,0,none⟩ (.slice up vals.length uc)).setCell ⟨bo,0,none⟩ (.slice og st.length oc)).alloc (.cells #[.func (.func 109) #[] #[.pointer (some ⟨Bs,0,none⟩),.pointer (some ⟨W.heap.size,0,none⟩),.pointer (some ⟨bo,0,none⟩),.pointer (some ⟨Wf.heap.size,0,none⟩),.pointer (some ⟨bv,0,none⟩)]] 105)) st /\
   Cz (fun b=>b=Bs) (fun b=>b=Bs\/(W.heap.size<=b/\b<Wf.heap.size+1)) W (((Wf.setCell ⟨bv,0,none⟩ (.slice up vals.length uc)).setCell ⟨bo,0,none⟩ (.slice og st.length oc)).alloc (.cells #[.func (.func 109) #[] #[.pointer (some ⟨Bs,0,none⟩),.pointer (some ⟨W.heap.size,0,none⟩),.pointer (some ⟨bo,0,none⟩),.pointer (some ⟨Wf.heap.size,0,none⟩),.pointer (some ⟨bv,0,none⟩)]] 105)):=by
 unfold IJ at hs;obtain ⟨g,rfl,hg1,hg2⟩:∃g,og=some ⟨g,0,none⟩/\Wd.heap.size<=g/\g<Wf.heap.size:=by
  rcases h.ho.2 with ⟨_,h1⟩ | ⟨g,cap,cur,e,hg,hcc,_⟩
  ·rw [aD] at h1;omega
  ·injection e with e1 _ _
   exact ⟨g,e1,hg,(bq.1 hcc).1⟩
 obtain ⟨⟨v1,v2⟩,v3⟩:=h.bv;obtain ⟨⟨o1,o2⟩,o3⟩:=h.bo;have v4:=(bq.1 v3).1;have o4:=(bq.1 o3).1;have gv:bv≠g:=fun e=>v2 (by rw [e];rfl);have go:bo≠g:=fun e=>o2 (by rw [e];rfl);have hwW:=hw.size;have hWf:=h.up.size;obtain ⟨FN,hFN⟩:∃FN,FN=Value.func (.func 109) #[] #[.pointer (some ⟨Bs,0,none⟩),.pointer (some ⟨W.heap.size,0,none⟩),.pointer (some ⟨bo,0,none⟩),.pointer (some ⟨Wf.heap.size,0,none⟩),.pointer (some ⟨bv,0,none⟩)]:=⟨_,rfl⟩;rw [<- hFN]
 obtain ⟨X,hX⟩:∃X,X=(Wf.setCell ⟨bv,0,none⟩ (.slice up vals.length uc)).setCell ⟨bo,0,none⟩ (.slice (some ⟨g,0,none⟩) st.length oc):=⟨_,rfl⟩;rw [<- hX];have YQ:X.heap.size=Wf.heap.size:=by rw [hX];simp [World.size_setCell]
 have hXk:∀b,b≠bv->b≠bo->X.heap[b]? = Wf.heap[b]?:=fun b h1 h2=>by rw [hX,blk_setCell_other _ _ _ _ h2,blk_setCell_other _ _ _ _ h1]
 have hXv:X.heap[bv]? = some (Obj.cells #[.slice up vals.length uc] 27 (0,0)):=by rw [hX,blk_setCell_other _ _ _ _ (show bv≠bo from h.ne)];simp [World.setCell,Array.getElem?_modify,v3]
 have hXo:X.heap[bo]? = some (Obj.cells #[.slice (some ⟨g,0,none⟩) st.length oc] 27 (0,0)):=by have h1:(Wf.setCell ⟨bv,0,none⟩ (.slice up vals.length uc)).heap[bo]? = _:=(blk_setCell_other _ _ _ _ (show bo≠bv from fun e=>h.ne e.symm)).trans o3;rw [hX];simp [World.setCell,Array.getElem?_modify] at h1 ⊢;simp [h1]
 have hUf:Up W Wf:=hU.trans h.up;have IK:Up W X:=by rw [hX];exact jm (jm hUf (p:=⟨bv,0,none⟩) (by show W.heap.size<=bv;omega) _) (p:=⟨bo,0,none⟩) (by show W.heap.size<=bo;omega) _
 have ha:=Up.alloc X (.cells #[FN] 105);have sS:=mE X FN 105;rw [YQ] at sS;have hk:∀b,b<Wf.heap.size->b≠bv->b≠bo->(X.alloc (.cells #[FN] 105)).heap[b]? = Wf.heap[b]?:=fun b h1 h2 h3=>(aO ha b (by omega)).trans (hXk b h2 h3);refine ⟨g,rfl,⟨hw.trans (IK.trans ha),fun b hb=>?_,⟨ip,ic,?_,hI⟩,?_,?_,?_,⟨?_,?_⟩,?_,⟨.inl rfl,.inr (by omega),.inr (by omega),.inr (by omega),.inr (by omega),.inr (by omega)⟩,⟨by omega,by omega,go,by omega,gv⟩,⟨rfl,fun _ _ _=>rfl⟩⟩,⟨?_,?_,?_,?_,fun b hb _=>aO (IK.trans ha) b hb,fun b hb=>?_⟩⟩
 ·rw [aN,YQ];rcases hb with rfl | hb<;>omega
 ·exact (IK.trans ha).cell (by have:=h.up.cell hc;rw [<- Below.cell hUf (p:=⟨Bs,0,none⟩) hlt];exact this)
 ·have h1:=h.up.cell hq
  rw [cW (a:=⟨W.heap.size,0,none⟩) (hk W.heap.size (by omega) (by omega) (by omega))];exact h1
 ·have h1:(X.alloc (.cells #[FN] 105)).heap[bo]? = _:=(aO ha bo (by omega)).trans hXo
  simp [World.cell?,h1]
 ·rw [<- hFN];exact sS
 ·have h1:(X.alloc (.cells #[FN] 105)).heap[bv]? = _:=(aO ha bv (by omega)).trans hXv
  simp [World.cell?,h1]
 ·have h1:=h.hu.sub (T:=fun b=>(Wd.heap.size<=b/\b≠g)/\b<Wf.heap.size) fun b hb hl=>⟨⟨hb.1,fun e=>hb.2 (by rw [e];rfl)⟩,hl⟩
  exact (af.keep ((h1.OX v3).OX o3) fun b hb _=>hk b hb.1.1.2 hb.1.2 hb.2).sub fun b hb _=>⟨.inr ⟨by have:=hb.1.1.1.1;omega,by have:=hb.1.1.2;omega⟩,hb.1.1.1.2⟩
 ·exact (h.ho.fE fun b hb=>by
   have hb:some g=some b:=hb;injection hb with hb;subst hb
   exact hk _ hg2 (by omega) (by omega)).YO (by omega)
 ·exact (IK.trans ha).os
 ·exact (IK.trans ha).tape
 ·exact (IK.trans ha).output
 ·exact (IK.trans ha).size
 ·rw [aN,YQ];rcases hb with rfl | hb
  ·exact .inl ⟨rfl,hlt⟩
  ·exact .inr hb
theorem Ck (vals st:List Int) (cur:List Int):kQ vals st cur 0=eR vals st:=by
 unfold kQ;simp
section
variable {st vals:List Int} {w0:World} {l Bs Bq Bo Be Bv g oc N:Nat} {vp:Option Addr} {vc:Nat} {L:Nat->Prop} {J:List Ev->(Nat->Prop)->World->Prop} {Jx:List Ev->World->Prop}
theorem IL (hn:st.length<=7) (hv:vals.length<=7) (hA:DJ J)
  (hY:∀m pre x W1,J pre L W1->OO st x L W1->Up w0 W1->(∀b,L b->w0.heap.size<=b/\b<W1.heap.size)->pre.length<N->YieldAt Fence.wide m Tryz.prog l #[x.1] W1 fun e W' =>
   (e=.returned (.bool true)/\J (pre++[x]) L W'/\Up w0 W'/\W1.heap.size<=W'.heap.size/\∀b,L b->W'.heap[b]? = W1.heap[b]?)\/(e=.returned (.bool false)/\Jx (pre++[x]) W')) :
  ∀(d i:Nat),st.length - i<=d->i<=st.length->ID st vals w0 l Bs Bq Bo Be Bv g oc N vp vc L J Jx i
 | 0,i,hd,hi=>EC hn hv hA hY hi fun h=>by omega
 | d+1,i,hd,hi=>EC hn hv hA hY hi fun h=>IL hn hv hA hY d (i+1) (by omega) h
end
theorem OY (m:Nat) {w0 w9:World} {Bs N:Nat} {ip:Option Addr} {ic:Nat} {st:List Int} (h0:0<st.length) (hn:st.length<=7) (h2:(bM st).length<=2) (hB:w0.heap.size<=Bs)
  (hb:w9.cell? ⟨Bs,0,none⟩=some (.slice ip st.length ic)) (hI:af Any w0 (.slice ip st.length ic) st) (hN:(eR (bM st) st).length<=N) :
  SU Fence.wide m Tryz.prog 108 #[.pointer (some ⟨Bs,0,none⟩)] (fun x:Ev=>#[x.1]) (OO st) (fun xs=>xs.map (·.2)=eR (bM st) st) (fun q=>q.map (·.2) <+: eR (bM st) st) N w0 w9 (fun b=>b=Bs):=by
 intro l J Jx W hW Om Oo hA hY hJ;obtain ⟨Io,Oq⟩:=Om Bs rfl;have wS:=(cW (a:=⟨Bs,0,none⟩) Oq).trans hb;have hWs:=hW.size;refine callsIn_wide.2 ?_;show Calls _ _ #[.func (.yield l) #[] #[],.pointer (some ⟨Bs,0,none⟩)] W _;have aM:=Up.alloc W (.cells #[.func (.yield l) #[] #[]] 43);have hq1:(W.alloc (.cells #[.func (.yield l) #[] #[]] 43)).cell? ⟨W.heap.size,0,none⟩=some (.func (.yield l) #[] #[]):=mE _ _ _
 have Ex:Hid (∀X,Up (W.alloc (.cells #[.func (.yield l) #[] #[]] 43)).drew X->Calls Tryz.prog 105 #[.slice ip st.length ic] X fun e w'=>Up X w'/\∃u,e=.returned u/\af (fun b=>X.heap.size<=b) w' u (bM st)):=fun X hX=>zU Any X _ st (af.keep hI (Up.kept (Up.trans hW (aM.trans ((Up.drewN _ 1).trans hX))) _)) hn
 have kP:Hid (∀X,Up (W.alloc (.cells #[.func (.yield l) #[] #[]] 43)).drew X->Calls Tryz.prog 33 #[.slice ip st.length ic] X (xO X 3 (st.map (Value.int .i64)))):=fun X hX=>tV Any X _ st (af.keep hI (Up.kept (Up.trans hW (aM.trans ((Up.drewN _ 1).trans hX))) _)) (by omega);unfold xO at kP;have fM:Hid ((W.alloc (.cells #[.func (.yield l) #[] #[]] 43)).drew.cell? ⟨Bs,0,none⟩=some (.slice ip st.length ic)):=(aM.trans (Up.drewN _ 1)).cell wS;have HUd:Hid (Up W (W.alloc (.cells #[.func (.yield l) #[] #[]] 43)).drew):=aM.trans (Up.drewN _ 1)
 have HQd:Hid ((W.alloc (.cells #[.func (.yield l) #[] #[]] 43)).drew.cell? ⟨W.heap.size,0,none⟩=some (.func (.yield l) #[] #[])):=hq1;have HSd:Hid (IJ (W.alloc (.cells #[.func (.yield l) #[] #[]] 43)).drew (W.heap.size+1)):=by show (W.alloc _).heap.size=_;rw [aN]
 have BJ:=aa (QW.start (W.alloc (.cells #[.func (.yield l) #[] #[]] 43)).drew);have HW:Hid (Up w0 W):=hW;have Kv:=aa hWs;have HA:=aa hA;have HY:=aa hY;have HJ:=aa hJ;have HI:=aa hI;have HB:=aa hB;have bf:Hid (Bs<W.heap.size):=lM Io Oo;have c9:=aM.cell wS;clear hW Om Oo hA hY hJ Io Oq hb hI hWs aM hq1 wS;go_in;go_wp2_with fail;refine jT (by kernel_rfl) 4 (fun w'=>w'.cell? ⟨Bs,0,none⟩=some (.slice ip st.length ic)) fM.out (fun hS=>?_)
 simp only [gI,bB,eW,Nat.reduceAdd,jL,jM,gH,dz,cw];clear c9;generalize (W.alloc (.cells #[.func (.yield l) #[] #[]] 43)).drew=Wd at *;refine ah.Dz 0 2 hS ?_;try simp only [Act.put,av,ax,ay]
 refine ah.S6 1 4 5 (fun K' hK=>?_) (fun K' hK=>?_) (fun K' hK=>?_)
 focus
  go_simp;refine (Ex.out Wd BJ.out.up).mono ?_;rintro e W1 ⟨hun,u,rfl,hin⟩;obtain ⟨up,uc,rfl,-,-⟩:=aB.open hin;have uE:=aa (BJ.out.val (u:=.slice up (bM st).length uc) hun hin);clear hun hin;refine hK.out _ _ (fun _=>uE.out.up.cell fM.out) (fun _=>?_);try simp only [av,ax,ay]
  refine ah.S6 3 4 5 (fun K' hK=>?_) (fun K' hK=>?_) (fun K' hK=>?_)
  focus
   go_simp;refine (kP.out W1 uE.out.up).mono ?_;rintro e W2 ⟨hun,o,rfl,hin⟩;obtain ⟨og,oc,rfl,-⟩:=hin.form (n:=st.length) (by simp);have oD:=aa (uE.out.own hun hin);clear hun hin;refine hK.out _ _ (fun _=>oD.out.up.cell fM.out) (fun _=>?_);(try simp only [av,ax,ay]);refine ah.st2 4 5 (fun K' hK=>?_) (fun K' hK=>?_)
   focus
    go_simp;have BK:=aa oD.out.box;refine hK.out _ _ (fun _=>BK.out.up.cell fM.out) (fun _=>?_);(try simp only [av,ax,ay]);generalize W2.alloc (.cells #[.slice none 0 0] 27)=W3 at *;generalize W2.heap.size=bv at *;refine ah.st 5 (fun K' hK=>?_);go_simp;have Nu:=aa BK.out.box;refine hK.out _ _ (fun _=>Nu.out.up.cell fM.out) (fun _=>?_);(try simp only [av,ax,ay]);generalize W3.alloc (.cells #[.slice none 0 0] 27)=W4 at *;generalize W3.heap.size=bo at *
    have dQ:=aa (Nu.out.fin (u:=.slice up (bM st).length uc) (vals:=bM st) (o:=.slice og st.length oc) (st:=st) (Bv:=bv) (Bo:=bo) (by simp) (by simp) (by simp) (by simp) (by simp))
   rotate_left 1
   focus
    go_simp;have D1:=aa oD.out.box;refine hK.out _ _ (fun _=>D1.out.up.cell fM.out) (fun _=>?_);(try simp only [av,ax,ay]);generalize W2.alloc (.cells #[.slice none 0 0] 27)=W5 at *;generalize W2.heap.size=bo at *;refine ah.st 4 (fun K' hK=>?_);go_simp;have Nw:=aa D1.out.box;refine hK.out _ _ (fun _=>Nw.out.up.cell fM.out) (fun _=>?_);(try simp only [av,ax,ay]);generalize W5.alloc (.cells #[.slice none 0 0] 27)=W6 at *;generalize W5.heap.size=bv at *
    have dQ:=aa (Nw.out.fin (u:=.slice up (bM st).length uc) (vals:=bM st) (o:=.slice og st.length oc) (st:=st) (Bv:=bv) (Bo:=bo) (by simp) (by simp) (by simp) (by simp) (by simp))
   rotate_left 1
  rotate_left 2
  focus
   go_simp;have zI:=aa uE.out.box;refine hK.out _ _ (fun _=>zI.out.up.cell fM.out) (fun _=>?_);(try simp only [av,ax,ay]);generalize W1.alloc (.cells #[.slice none 0 0] 27)=W7 at *;generalize W1.heap.size=bv at *;refine ah.st2 3 5 (fun K' hK=>?_) (fun K' hK=>?_)
   focus
    go_simp;refine (kP.out W7 zI.out.up).mono ?_;rintro e W8 ⟨hun,o,rfl,hin⟩;obtain ⟨og,oc,rfl,-⟩:=hin.form (n:=st.length) (by simp);have D3:=aa (zI.out.own hun hin);clear hun hin;refine hK.out _ _ (fun _=>D3.out.up.cell fM.out) (fun _=>?_);(try simp only [av,ax,ay]);refine ah.st 5 (fun K' hK=>?_);go_simp;have Nx:=aa D3.out.box;refine hK.out _ _ (fun _=>Nx.out.up.cell fM.out) (fun _=>?_);try simp only [av,ax,ay]
    generalize W8.alloc (.cells #[.slice none 0 0] 27)=W9 at *;generalize W8.heap.size=bo at *;have dQ:=aa (Nx.out.fin (u:=.slice up (bM st).length uc) (vals:=bM st) (o:=.slice og st.length oc) (st:=st) (Bv:=bv) (Bo:=bo) (by simp) (by simp) (by simp) (by simp) (by simp))
   rotate_left 1
   focus
    go_simp;have CE:=aa zI.out.box;refine hK.out _ _ (fun _=>CE.out.up.cell fM.out) (fun _=>?_);(try simp only [av,ax,ay]);generalize W7.alloc (.cells #[.slice none 0 0] 27)=S9 at *;generalize W7.heap.size=bo at *;refine ah.st 3 (fun K' hK=>?_);go_simp;refine (kP.out S9 CE.out.up).mono ?_;rintro e W11 ⟨hun,o,rfl,hin⟩;obtain ⟨og,oc,rfl,-⟩:=hin.form (n:=st.length) (by simp);have xY:=aa (CE.out.own hun hin);clear hun hin;refine hK.out _ _ (fun _=>xY.out.up.cell fM.out) (fun _=>?_)
    (try simp only [av,ax,ay]);have dQ:=aa (xY.out.fin (u:=.slice up (bM st).length uc) (vals:=bM st) (o:=.slice og st.length oc) (st:=st) (Bv:=bv) (Bo:=bo) (by simp) (by simp) (by simp) (by simp) (by simp))
   rotate_left 1
  rotate_left 2
  focus
   go_simp;have tX:=aa uE.out.box;refine hK.out _ _ (fun _=>tX.out.up.cell fM.out) (fun _=>?_);(try simp only [av,ax,ay]);generalize W1.alloc (.cells #[.slice none 0 0] 27)=Ta at *;generalize W1.heap.size=bo at *;refine ah.st2 3 4 (fun K' hK=>?_) (fun K' hK=>?_)
   focus
    go_simp;refine (kP.out Ta tX.out.up).mono ?_;rintro e WG ⟨hun,o,rfl,hin⟩;obtain ⟨og,oc,rfl,-⟩:=hin.form (n:=st.length) (by simp);have Gm:=aa (tX.out.own hun hin);clear hun hin;refine hK.out _ _ (fun _=>Gm.out.up.cell fM.out) (fun _=>?_);(try simp only [av,ax,ay]);refine ah.st 4 (fun K' hK=>?_);go_simp;have vN:=aa Gm.out.box;refine hK.out _ _ (fun _=>vN.out.up.cell fM.out) (fun _=>?_);try simp only [av,ax,ay]
    generalize WG.alloc (.cells #[.slice none 0 0] 27)=WH at *;generalize WG.heap.size=bv at *;have dQ:=aa (vN.out.fin (u:=.slice up (bM st).length uc) (vals:=bM st) (o:=.slice og st.length oc) (st:=st) (Bv:=bv) (Bo:=bo) (by simp) (by simp) (by simp) (by simp) (by simp))
   rotate_left 1
   focus
    go_simp;have rW:=aa tX.out.box;refine hK.out _ _ (fun _=>rW.out.up.cell fM.out) (fun _=>?_);(try simp only [av,ax,ay]);generalize Ta.alloc (.cells #[.slice none 0 0] 27)=Tb at *;generalize Ta.heap.size=bv at *;refine ah.st 3 (fun K' hK=>?_);go_simp;refine (kP.out Tb rW.out.up).mono ?_;rintro e WI ⟨hun,o,rfl,hin⟩;obtain ⟨og,oc,rfl,-⟩:=hin.form (n:=st.length) (by simp);have Gn:=aa (rW.out.own hun hin);clear hun hin;refine hK.out _ _ (fun _=>Gn.out.up.cell fM.out) (fun _=>?_)
    (try simp only [av,ax,ay]);have dQ:=aa (Gn.out.fin (u:=.slice up (bM st).length uc) (vals:=bM st) (o:=.slice og st.length oc) (st:=st) (Bv:=bv) (Bo:=bo) (by simp) (by simp) (by simp) (by simp) (by simp))
   rotate_left 1
  rotate_left 2
 rotate_left 6
 focus
  go_simp;have tY:=aa BJ.out.box;refine hK.out _ _ (fun _=>tY.out.up.cell fM.out) (fun _=>?_);try simp only [av,ax,ay]
  generalize Wd.alloc (.cells #[.slice none 0 0] 27)=Tc at *;generalize Wd.heap.size=bv at *;refine ah.st2 1 5 (fun K' hK=>?_) (fun K' hK=>?_)
  focus
   go_simp;refine (Ex.out Tc tY.out.up).mono ?_;rintro e Td ⟨hun,u,rfl,hin⟩;obtain ⟨up,uc,rfl,-,-⟩:=aB.open hin;have Ay:=aa (tY.out.val (u:=.slice up (bM st).length uc) hun hin);clear hun hin;refine hK.out _ _ (fun _=>Ay.out.up.cell fM.out) (fun _=>?_);(try simp only [av,ax,ay]);refine ah.st2 3 5 (fun K' hK=>?_) (fun K' hK=>?_)
   focus
    go_simp;refine (kP.out Td Ay.out.up).mono ?_;rintro e WK ⟨hun,o,rfl,hin⟩;obtain ⟨og,oc,rfl,-⟩:=hin.form (n:=st.length) (by simp);have xZ:=aa (Ay.out.own hun hin);clear hun hin;refine hK.out _ _ (fun _=>xZ.out.up.cell fM.out) (fun _=>?_);(try simp only [av,ax,ay]);refine ah.st 5 (fun K' hK=>?_);go_simp;have x7:=aa xZ.out.box;refine hK.out _ _ (fun _=>x7.out.up.cell fM.out) (fun _=>?_);try simp only [av,ax,ay]
    generalize WK.alloc (.cells #[.slice none 0 0] 27)=W20 at *;generalize WK.heap.size=bo at *;have dQ:=aa (x7.out.fin (u:=.slice up (bM st).length uc) (vals:=bM st) (o:=.slice og st.length oc) (st:=st) (Bv:=bv) (Bo:=bo) (by simp) (by simp) (by simp) (by simp) (by simp))
   rotate_left 1
   focus
    go_simp;have CG:=aa Ay.out.box;refine hK.out _ _ (fun _=>CG.out.up.cell fM.out) (fun _=>?_);(try simp only [av,ax,ay]);generalize Td.alloc (.cells #[.slice none 0 0] 27)=W21 at *;generalize Td.heap.size=bo at *;refine ah.st 3 (fun K' hK=>?_);go_simp;refine (kP.out W21 CG.out.up).mono ?_;rintro e W22 ⟨hun,o,rfl,hin⟩;obtain ⟨og,oc,rfl,-⟩:=hin.form (n:=st.length) (by simp);have x8:=aa (CG.out.own hun hin);clear hun hin;refine hK.out _ _ (fun _=>x8.out.up.cell fM.out) (fun _=>?_)
    (try simp only [av,ax,ay]);have dQ:=aa (x8.out.fin (u:=.slice up (bM st).length uc) (vals:=bM st) (o:=.slice og st.length oc) (st:=st) (Bv:=bv) (Bo:=bo) (by simp) (by simp) (by simp) (by simp) (by simp))
   rotate_left 1
  rotate_left 2
  focus
   go_simp;have tZ:=aa tY.out.box;refine hK.out _ _ (fun _=>tZ.out.up.cell fM.out) (fun _=>?_);(try simp only [av,ax,ay]);generalize Tc.alloc (.cells #[.slice none 0 0] 27)=W23 at *;generalize Tc.heap.size=bo at *;refine ah.st 1 (fun K' hK=>?_);go_simp;refine (Ex.out W23 tZ.out.up).mono ?_;rintro e W24 ⟨hun,u,rfl,hin⟩;obtain ⟨up,uc,rfl,-,-⟩:=aB.open hin;have vO:=aa (tZ.out.val (u:=.slice up (bM st).length uc) hun hin);clear hun hin;refine hK.out _ _ (fun _=>vO.out.up.cell fM.out) (fun _=>?_)
   (try simp only [av,ax,ay]);refine ah.st 3 (fun K' hK=>?_);go_simp;refine (kP.out W24 vO.out.up).mono ?_;rintro e W25 ⟨hun,o,rfl,hin⟩;obtain ⟨og,oc,rfl,-⟩:=hin.form (n:=st.length) (by simp);have Gp:=aa (vO.out.own hun hin);clear hun hin;refine hK.out _ _ (fun _=>Gp.out.up.cell fM.out) (fun _=>?_);try simp only [av,ax,ay]
   have dQ:=aa (Gp.out.fin (u:=.slice up (bM st).length uc) (vals:=bM st) (o:=.slice og st.length oc) (st:=st) (Bv:=bv) (Bo:=bo) (by simp) (by simp) (by simp) (by simp) (by simp))
  rotate_left 1
 rotate_left 3
 focus
  go_simp;have rX:=aa BJ.out.box;refine hK.out _ _ (fun _=>rX.out.up.cell fM.out) (fun _=>?_);try simp only [av,ax,ay]
  generalize Wd.alloc (.cells #[.slice none 0 0] 27)=JW at *;generalize Wd.heap.size=bo at *;refine ah.st2 1 4 (fun K' hK=>?_) (fun K' hK=>?_)
  focus
   go_simp;refine (Ex.out JW rX.out.up).mono ?_;rintro e JX ⟨hun,u,rfl,hin⟩;obtain ⟨up,uc,rfl,-,-⟩:=aB.open hin;have x9:=aa (rX.out.val (u:=.slice up (bM st).length uc) hun hin);clear hun hin;refine hK.out _ _ (fun _=>x9.out.up.cell fM.out) (fun _=>?_);(try simp only [av,ax,ay]);refine ah.st2 3 4 (fun K' hK=>?_) (fun K' hK=>?_)
   focus
    go_simp;refine (kP.out JX x9.out.up).mono ?_;rintro e WN ⟨hun,o,rfl,hin⟩;obtain ⟨og,oc,rfl,-⟩:=hin.form (n:=st.length) (by simp);have ya:=aa (x9.out.own hun hin);clear hun hin;refine hK.out _ _ (fun _=>ya.out.up.cell fM.out) (fun _=>?_);(try simp only [av,ax,ay]);refine ah.st 4 (fun K' hK=>?_);go_simp;have yc:=aa ya.out.box;refine hK.out _ _ (fun _=>yc.out.up.cell fM.out) (fun _=>?_);try simp only [av,ax,ay]
    generalize WN.alloc (.cells #[.slice none 0 0] 27)=W29 at *;generalize WN.heap.size=bv at *;have dQ:=aa (yc.out.fin (u:=.slice up (bM st).length uc) (vals:=bM st) (o:=.slice og st.length oc) (st:=st) (Bv:=bv) (Bo:=bo) (by simp) (by simp) (by simp) (by simp) (by simp))
   rotate_left 1
   focus
    go_simp;have CH:=aa x9.out.box;refine hK.out _ _ (fun _=>CH.out.up.cell fM.out) (fun _=>?_);(try simp only [av,ax,ay]);generalize JX.alloc (.cells #[.slice none 0 0] 27)=W30 at *;generalize JX.heap.size=bv at *;refine ah.st 3 (fun K' hK=>?_);go_simp;refine (kP.out W30 CH.out.up).mono ?_;rintro e W31 ⟨hun,o,rfl,hin⟩;obtain ⟨og,oc,rfl,-⟩:=hin.form (n:=st.length) (by simp);have ye:=aa (CH.out.own hun hin);clear hun hin;refine hK.out _ _ (fun _=>ye.out.up.cell fM.out) (fun _=>?_)
    (try simp only [av,ax,ay]);have dQ:=aa (ye.out.fin (u:=.slice up (bM st).length uc) (vals:=bM st) (o:=.slice og st.length oc) (st:=st) (Bv:=bv) (Bo:=bo) (by simp) (by simp) (by simp) (by simp) (by simp))
   rotate_left 1
  rotate_left 2
  focus
   go_simp;have ua:=aa rX.out.box;refine hK.out _ _ (fun _=>ua.out.up.cell fM.out) (fun _=>?_);(try simp only [av,ax,ay]);generalize JW.alloc (.cells #[.slice none 0 0] 27)=W32 at *;generalize JW.heap.size=bv at *;refine ah.st 1 (fun K' hK=>?_);go_simp;refine (Ex.out W32 ua.out.up).mono ?_;rintro e W33 ⟨hun,u,rfl,hin⟩;obtain ⟨up,uc,rfl,-,-⟩:=aB.open hin;have vP:=aa (ua.out.val (u:=.slice up (bM st).length uc) hun hin);clear hun hin;refine hK.out _ _ (fun _=>vP.out.up.cell fM.out) (fun _=>?_)
   (try simp only [av,ax,ay]);refine ah.st 3 (fun K' hK=>?_);go_simp;refine (kP.out W33 vP.out.up).mono ?_;rintro e W34 ⟨hun,o,rfl,hin⟩;obtain ⟨og,oc,rfl,-⟩:=hin.form (n:=st.length) (by simp);have Gq:=aa (vP.out.own hun hin);clear hun hin;refine hK.out _ _ (fun _=>Gq.out.up.cell fM.out) (fun _=>?_);try simp only [av,ax,ay]
   have dQ:=aa (Gq.out.fin (u:=.slice up (bM st).length uc) (vals:=bM st) (o:=.slice og st.length oc) (st:=st) (Bv:=bv) (Bo:=bo) (by simp) (by simp) (by simp) (by simp) (by simp))
  rotate_left 1
 rotate_left 3
 all_goals
  obtain ⟨e0,e1,f0,f1⟩:=dQ.out.cells;refine ah.st 6 (fun K' hK=>?_);go_simp;refine hK.out _ _ (fun m=>aT m) (fun _=>?_);try simp only [av,ax,ay]
  refine ah.st 7 (fun K' hK=>?_);go_simp;refine hK.out _ _ (fun m=>aT m) (fun _=>?_);try simp only [av,ax,ay]
  refine ah.done (by kernel_rfl) ?_;go_wp2_with fail;obtain ⟨g,rfl,GM,hOS⟩:=YP h0 HB.out bf.out HW.out HUd.out HQd.out fM.out HSd.out HI.out dQ.out (l:=l);have hJ2:=HA.out [] _ _ W _ HJ.out hOS;have hfl:=IL hn (by omega) HA.out (fun m' pre x W1 q1 q2 q3 q4 q5=>YieldAt.GK rfl m' (HY.out pre x _ W1 q1 q2 q3 q4 q5)) st.length 0 (by omega) (bg _) (m - 1) [] _ st hJ2 GM (by rw [Ck];simpa using hN);refine (callsIn_wide.1 hfl).mono ?_;rintro e W3 dr;unfold Ch at dr;obtain ⟨bb,rfl,hq⟩:=jX dr;rw [Ck] at hq;clear dr GM hOS hJ2 dQ
  go_wp2_with fail
  go_end0
  refine ⟨⟨_,rfl⟩,?_⟩;rcases hq.out with ⟨_,ys,_,q1,q2,_⟩ | ⟨_,q,q1,q2⟩
  ·exact .inl ⟨ys,_,q1,by simpa using q2⟩
  ·exact .inr ⟨q,q1,by simpa using q2⟩
end Go.Proofs.YtfomhlbhcifgbaaGreatDoor
