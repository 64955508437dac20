/- The contract of layer 32's reference's .. -/
import Derived.Test.YthgabkgmkolobaaGreatQ43
set_option maxRecDepth 100000
set_option maxHeartbeats 8000000
namespace Go.Proofs.YthgabkgmkolobaaGreat
open Go.RowKit Go.Deep
theorem KO (a:List RT) (r:RT):aK (a++[r])=aK a+aP r:=by
 induction a with
 | nil=>rw [di,aK,aK,aK];omega
 | cons x a ih=>rw [cm,aK,aK,ih];omega
theorem SK (amd:List ByteArray) (l:List (List Int)) {d:Nat} (hd:0<d) (x:Int):jv amd l d [x]=kj amd x:=by
 obtain ⟨e,rfl⟩:∃e,d=e+1:=⟨d - 1,by omega⟩;exact Vh amd l e x
theorem ado {S:Nat->Prop} {w:World} {b o cap:Nat} {xs:List Int} (h:af S w (.slice (some ⟨b,o,none⟩) xs.length cap) xs) {m:Nat} (hm:m<xs.length):af S w (.slice (some ⟨b,o+m,none⟩) 1 (cap - m)) [gi xs m]:=by
 obtain ⟨p,c,e,hc,h⟩:=h;injection e with e1 e2 e3;subst e1;subst e3;rcases h with h | ⟨b',o',e4,hS,h⟩
 ·omega
 ·injection e4 with e4
  injection e4 with e5 e6;subst e5;subst e6;refine ⟨_,_,rfl,by simp;omega,.inr ⟨b,o+m,rfl,hS,fun k hk=>?_⟩⟩;have hk:k=0:=by simp at hk;omega
  subst hk;exact h m hm
theorem adp (B0:Nat) (amd:List ByteArray) (l:List (List Int)) (ah7:amd.length<=32) (FI:l.length<=64) (ah8:DK l) (cA:∀k,k<l.length->eD (gl l k)):∀(d:Nat) (set:List Int),set.length<=d->set≠[]->eD set->(∀x∈set,0<=x/\x<(amd.length:Int)) ->
  ∀(w:World) (P N vn vs vl:Value) (t:ax) (par:Int),TL B0 w P N t.ps t.ns->B0<=w.heap.size->t.ns.length=t.ps.length->t.ps.length+aP (jv amd l d set)<=100000 ->
  aj (fun b=>P.ownBlock≠some b/\N.ownBlock≠some b) w vn amd->af (fun b=>P.ownBlock≠some b/\N.ownBlock≠some b) w vs set->aT (fun b=>P.ownBlock≠some b/\N.ownBlock≠some b) w vl l ->
  Calls Tryz.prog 162 #[.agg #[P,N],vn,.int .i64 par,vs,vl] w (EY B0 w P N t (jv amd l d set) par):=by
 intro d
 induction d with
 | zero=>intro set hd hne;exact absurd (od (by omega)) hne
 | succ d ih =>
 intro set hd hne zm hbd w P N vn vs vl t par Co hB0 hnl abS tJ hvs hvl;obtain ⟨pp,pc,rfl,-,-⟩:=aq.open Co.cn.ints;obtain ⟨np,nc,rfl,-,-⟩:=aq.open Co.cD.strs;obtain ⟨mp,mc,rfl,-,-⟩:=aq.open tJ;obtain ⟨sp,sc,rfl,-,-⟩:=aq.open hvs;obtain ⟨lp,lc,rfl,-,-⟩:=dy hvl;have tJ:aj _ w (.slice mp amd.length mc) amd:=tJ;have hvs:af _ w (.slice sp set.length sc) set:=hvs;have hvl:aT _ w (.slice lp l.length lc) l:=hvl;have PM:=Up.alloc w (.cells #[.slice pp t.ps.length pc,.slice np t.ns.length nc] 39);have fO:=PM.trans (Up.alloc _ (.cells #[.slice none 0 0,.slice none 0 0] 39));have hsz:((w.alloc (.cells #[.slice pp t.ps.length pc,.slice np t.ns.length nc] 39)).alloc (.cells #[.slice none 0 0,.slice none 0 0] 39)).heap.size=w.heap.size+2:=by simp
 have hb1:((w.alloc (.cells #[.slice pp t.ps.length pc,.slice np t.ns.length nc] 39)).alloc (.cells #[.slice none 0 0,.slice none 0 0] 39)).heap[w.heap.size]? = some (Obj.cells #[.slice pp t.ps.length pc,.slice np t.ns.length nc] 39 (0,0)) :=
  (bH (Up.alloc (w.alloc (.cells #[.slice pp t.ps.length pc,.slice np t.ns.length nc] 39)) _) w.heap.size (by rw [aQ];omega)).trans (ng _ _)
 have hrb:=iN (w:=w.alloc (.cells #[.slice pp t.ps.length pc,.slice np t.ns.length nc] 39)) (P:=.slice none 0 0) (N:=.slice none 0 0) (T:=39);rw [aQ] at hrb;have hpl:∀b,(Value.slice pp t.ps.length pc).ownBlock=some b->b<w.heap.size:=fun b hb=>(av Co.cn hb).2;have Bz:∀b,(Value.slice np t.ns.length nc).ownBlock=some b->b<w.heap.size:=fun b hb=>(av Co.cD hb).2;have HG:Hid (GW w.heap.size B0 ((w.alloc (.cells #[.slice pp t.ps.length pc,.slice np t.ns.length nc] 39)).alloc (.cells #[.slice none 0 0,.slice none 0 0] 39)) (.slice pp t.ps.length pc) (.slice np t.ns.length nc) t) :=
  ⟨hb1,Co.up fO,⟨fun e=>by have:=hpl _ e;omega,fun e=>by have:=Bz _ e;omega⟩,by omega⟩
 obtain ⟨S0,hS0⟩:∃S0:Nat->Prop,S0=fun b=>b<w.heap.size/\(Value.slice pp t.ps.length pc).ownBlock≠some b/\(Value.slice np t.ns.length nc).ownBlock≠some b:=⟨_,rfl⟩;have Vk:Hid (aj S0 ((w.alloc (.cells #[.slice pp t.ps.length pc,.slice np t.ns.length nc] 39)).alloc (.cells #[.slice none 0 0,.slice none 0 0] 39)) (.slice mp amd.length mc) amd):=aj.keep (tJ.sub fun b hb hl=>by rw [hS0];exact ⟨hl,hb⟩) (fO.kept _);have HVS:Hid (af S0 ((w.alloc (.cells #[.slice pp t.ps.length pc,.slice np t.ns.length nc] 39)).alloc (.cells #[.slice none 0 0,.slice none 0 0] 39)) (.slice sp set.length sc) set):=af.keep (hvs.sub fun b hb hl=>by rw [hS0];exact ⟨hl,hb⟩) (fO.kept _);have PW:Hid (aT S0 ((w.alloc (.cells #[.slice pp t.ps.length pc,.slice np t.ns.length nc] 39)).alloc (.cells #[.slice none 0 0,.slice none 0 0] 39)) (.slice lp l.length lc) l):=aT.keep (hvl.sub fun b hb hl=>by rw [hS0];exact ⟨hl,hb⟩) (fO.kept _);have oO:=aa ih;have ux:=aa hnl;have gY:=aa hrb;have dM:=aa hsz;have kZ:=aa fO;have zb:=aa hpl;have sU:=aa Bz;have adq:=aa abS;have ZK:=aa hS0;have HD:=aa (And.intro hd hne);have kJ:=aa zm;have lQ:=aa hbd;have Il:=HG.out.cells.1;have ah9:=HG.out.cells.2.1;clear ih tJ hvs hvl PM fO hb1 hrb hpl Bz Co hnl abS hS0 hd hne zm hbd;have eC:Hid (t.ps.length<=1000000/\t.ns.length<=1000000):=by have:=adq.out;have:=ux.out;unfold Hid;omega
 have hs0:set.length≠0:=fun e=>HD.out.2 (od e);have adr:set.length<=64:=rH kJ.out;have sN:=aa (And.intro hs0 adr);obtain ⟨w2,hw2⟩:∃w2,w2=(w.alloc (.cells #[.slice pp t.ps.length pc,.slice np t.ns.length nc] 39)).alloc (.cells #[.slice none 0 0,.slice none 0 0] 39):=⟨_,rfl⟩;rw [<- hw2] at HG Vk HVS PW gY dM kZ Il ah9;by_cases h1:set.length=1
 case pos =>
  have d1:((set.length:Int)==1)=true:=by rw [h1];rfl
  obtain ⟨k,hk⟩:∃k:Nat,gi set 0=(k:Int):=oa (lQ.out _ (sL (by omega))).1;have hkn:k<amd.length:=by have:=(lQ.out _ (sL (l:=set) (k:=0) (by omega))).2;omega
  have Cq:Hid (t.app (jv amd l (d+1) set) par=⟨t.ps++[par],t.ns++[gs amd k]⟩):=by obtain ⟨x,hx⟩:=zZ.1 h1;(have h2:x=(k:Int):=by rw [hx] at hk;simpa [gi] using hk);unfold Hid;rw [hx,Vh,h2];unfold kj;rw [<- Ij,Ih];rfl
  have HK:=aa hk;have Ke:=aa hkn;have H1:=aa h1;clear hk hkn h1 hs0 adr;go_in
  go_wp2_with (first
   | (at_builtin;rw [<- hw2];refine vU w2 rfl _ _ 26 rfl B0 3 (.int .i64 0) 8 Tryz.underlying26 Tryz.iD rfl (by decide) HG.out.tl.cn rfl (.int .i64 par) (by rw [dM.out];rfl) rfl t.ps.length (aD _) eC.out.1 HG.out.lo.2 ?_;intro g8 kM w8 gp jr Vl;obtain ⟨QY,Ug⟩:=HG.out.KM gp jr Vl;have SL:=HG.out.ad4 gp jr Vl;have sY:=SL.1.cells;obtain ⟨ads,adt,adu,adv⟩:=sY;have zT:=aa SL;clear SL;generalize AU:w8.setCell ⟨w.heap.size,0,none⟩ (.slice (some ⟨g8,0,none⟩) (t.ps.length+1) kM)=w9 at *))
  generalize htb:w.heap.size=tb at *;have EC:Hid (w.heap.size=tb):=htb;clear AU;have ru:Hid (∀(W:World) (P' N':Value),GK tb w2 W (.slice pp t.ps.length pc) (.slice np t.ns.length nc) P' N'->Kept S0 w2 W):=fun W P' N' hk=>hk.JL fun b hb _=>by rw [ZK.out] at hb;exact ⟨by omega,hb.2⟩
  obtain ⟨sb,so,rfl⟩:∃sb so,sp=some ⟨sb,so,none⟩:=by obtain ⟨_,_,e,_,h⟩:=aq.open HVS.out;injection e with e1 e2 e3;subst e1;obtain ⟨b,o,h1,_⟩:=h 0 (by have:=H1.out;omega);exact ⟨b,o,h1⟩
  obtain ⟨mb,mo,rfl⟩:∃mb mo,mp=some ⟨mb,mo,none⟩:=by obtain ⟨_,_,e,_,h⟩:=aq.open Vk.out;injection e with e1 e2 e3;subst e1;obtain ⟨b,o,h1,_⟩:=h k Ke.out;exact ⟨b,o,h1⟩
  have dJ:=aa zT.out.1.box;have hd:=Up.drewN w9 1;have Ar:Hid (RW tb B0 w9 w9.drew (.slice (some ⟨g8,0,none⟩) (t.ps.length+1) kM) (.slice np t.ns.length nc) (.slice (some ⟨g8,0,none⟩) (t.ps.length+1) kM) (.slice np t.ns.length nc) (t.ps++[par]) t.ns):=(RW.start zT.out.1.tl ⟨⟨zT.out.1.lt,zT.out.1.lo.1⟩,zT.out.1.lo.2⟩).up hd;have kU:Hid (∀ {W:World} {P' N':Value} {ps':List Int} {ns':List ByteArray},RW tb B0 w9 W (.slice (some ⟨g8,0,none⟩) (t.ps.length+1) kM) (.slice np t.ns.length nc) P' N' ps' ns'->W.cell? ⟨tb,0,none⟩=some (.slice (some ⟨g8,0,none⟩) (t.ps.length+1) kM)/\W.cell? ⟨tb,1,none⟩=some (.slice np t.ns.length nc)/\W.cell? ⟨sb,so,none⟩=some (.int .i64 (k:Int))/\W.cell? ⟨mb,mo+k,none⟩=some (.string (gs amd k))):=fun h=>by have hke:=ru.out _ _ _ (zT.out.2.trans h.gk);have h1:=aq.mP (af.keep HVS.out hke) (k:=0) (by have:=H1.out;omega);have h2:=aq.mP (aj.keep Vk.out hke) (k:=k) Ke.out;rw [HK.out] at h1;exact ⟨(h.cells dJ.out).1,(h.cells dJ.out).2,h1,h2⟩
  have i1:(k:Int)<(amd.length:Int):=by have:=Ke.out;omega
  have i2:(0:Int)<(set.length:Int):=by have:=H1.out;omega
  have i2n:0<set.length:=by have:=H1.out;omega
  have i3:(0:Int)<=(k:Int):=by omega
  refine fR (by kernel_rfl) 10 (fun w'=>w'.cell? ⟨tb,0,none⟩=some (.slice (some ⟨g8,0,none⟩) (t.ps.length+1) kM)/\w'.cell? ⟨tb,1,none⟩=some (.slice np t.ns.length nc)/\w'.cell? ⟨sb,so,none⟩=some (.int .i64 (k:Int))/\w'.cell? ⟨mb,mo+k,none⟩=some (.string (gs amd k))) (kU.out Ar.out) (fun hS=>?_);simp only [dY,aW,dw,Nat.reduceAdd,iu,iw,dX,di,cm];clear ads adt adu adv QY Ug;generalize w9.drew=Wd at *;refine az.kG 0 1 2 3 hS ?_;try simp only [Act.put,aL,aM,aN]
  refine az.kG 4 5 6 7 hS ?_;try simp only [Act.put,aL,aM,aN]
  refine az.st 8 fun K' hK=>?_;go_simp;have pZ:Hid (RW tb B0 _ (Wd.alloc (.cells #[.string (gs amd k)] 9)) _ _ _ _ _ _):=Ar.out.up (Up.alloc _ _);refine hK.out _ _ (fun _=>kU.out pZ.out) (fun _=>?_);try simp only [aL,aM,aN]
  refine az.st 9 fun K' hK=>?_;refine fL (by rfl) _ _ _ (by rfl) B0 9 _ 16 Tryz.underlying22 Tryz.mD (by rfl) (by decide) (by rfl) pZ.out.tl.cD (.string (gs amd k)) Wd.heap.size (by rfl) (aS Wd #[.string (gs amd k)] 9 0) (by rfl) (by rw [aD];exact eC.out.2) (aB pZ.out.lo.2 pZ.out.gk.size) ?_;intro g2 GF gy pE mU hrg2 _;have iP:Hid (RW tb B0 _ gy _ _ _ _ _ _):=pZ.out.ur pE mU (hrg2.imp id (fun e=>fD e.symm));refine hK.out _ _ (fun _=>kU.out iP.out) (fun _=>?_);try simp only [Act.put,aL,aM,aN]
  obtain ⟨xu,gC⟩:=iP.out.cells dJ.out;have GG:=iP.out.frozen dJ.out 0;have Bv:=iP.out.frozen dJ.out 1;have iy:=aa (zT.out.1.ah5 (u:=⟨t.ps++[par],t.ns++[gs amd k]⟩) iP.out.gk iP.out.same iP.out.tl);refine az.fr 10 (bF ·) ?_;try simp only [Act.put,aL,aM,aN]
  refine az.st 11 fun K' hK=>?_;go_simp;refine hK.out _ _ (bF ·) (fun _=>?_);refine az.done (by kernel_rfl) ?_;have wG:=iy.out.1;rw [<- Cq.out] at wG;have Hh:=zT.out.2.trans iy.out.2;clear xu gC GG Bv hd iy;simp only [aD] at wG Hh ⊢;generalize gy.setCell ⟨tb,1,none⟩ (.slice (some ⟨g2,0,none⟩) (t.ns.length+1) GF)=wo at *;obtain ⟨Pf,Nf,wG,Hh⟩:∃Pf Nf,GW tb B0 wo Pf Nf (t.app (jv amd l (d+1) set) par)/\GK tb w2 wo (.slice pp t.ps.length pc) (.slice np t.ns.length nc) Pf Nf:=⟨_,_,wG,Hh⟩;have hcs:=wG.cells;have a0:=hcs.1;have a1:=hcs.2.1;have hrb:wo.heap[tb+1]? = some (Obj.cells #[.slice none 0 0,.slice none 0 0] 39 (0,0)) :=
   (Hh.block (tb+1) (by rw [dM.out];omega) (by omega) (fun e=>by have:=zb.out _ e.symm;omega) (fun e=>by have:=sU.out _ e.symm;omega)).trans gY.out
  obtain ⟨r0,r1,r2,r3⟩:wo.cell? ⟨tb+1,0,none⟩=some (.slice none 0 0)/\wo.cell? ⟨tb+1,1,none⟩=some (.slice none 0 0)/\wo.frozen? ⟨tb+1,0,none⟩=false/\wo.frozen? ⟨tb+1,1,none⟩=false:=by refine ⟨?_,?_,?_,?_⟩<;>simp [World.cell?,World.frozen?,hrb]
  have nW:=aa wG;have ry:=aa Hh;obtain ⟨TF,SM⟩:∃TF,TF=t.app (jv amd l (d+1) set) par:=⟨_,rfl⟩;rw [<- SM] at nW;obtain ⟨pq,jK,rfl,-,-⟩:=aq.open nW.out.tl.cn.ints;obtain ⟨nq,jL,rfl,-,-⟩:=aq.open nW.out.tl.cD.strs;have PT:=aa hrb;have HTF:=aa SM;clear hcs wG Hh hrb SM;go_wp2_with fail;have cA:∀b,b≠tb+1->((wo.setCell ⟨tb+1,0,none⟩ (.slice pq TF.ps.length jK)).setCell ⟨tb+1,1,none⟩ (.slice nq TF.ns.length jL)).heap[b]? = wo.heap[b]?:=fun b hb=>by rw [blk_setCell_other _ _ _ _ hb,blk_setCell_other _ _ _ _ hb]
  have hheap:((wo.setCell ⟨tb+1,0,none⟩ (.slice pq TF.ps.length jK)).setCell ⟨tb+1,1,none⟩ (.slice nq TF.ns.length jL)).heap[tb+1]? = some (Obj.cells #[.slice pq TF.ps.length jK,.slice nq TF.ns.length jL] 39 (0,0)):=by simp [World.setCell,Array.getElem?_modify,PT.out]
  have XI:((wo.setCell ⟨tb+1,0,none⟩ (.slice pq TF.ps.length jK)).setCell ⟨tb+1,1,none⟩ (.slice nq TF.ns.length jL)).heap.size=wo.heap.size:=by simp [World.size_setCell]
  have hos:((wo.setCell ⟨tb+1,0,none⟩ (.slice pq TF.ps.length jK)).setCell ⟨tb+1,1,none⟩ (.slice nq TF.ns.length jL)).os=wo.os/\((wo.setCell ⟨tb+1,0,none⟩ (.slice pq TF.ps.length jK)).setCell ⟨tb+1,1,none⟩ (.slice nq TF.ns.length jL)).tape=wo.tape/\((wo.setCell ⟨tb+1,0,none⟩ (.slice pq TF.ps.length jK)).setCell ⟨tb+1,1,none⟩ (.slice nq TF.ns.length jL)).output=wo.output:=⟨rfl,rfl,rfl⟩;generalize (wo.setCell ⟨tb+1,0,none⟩ (.slice pq TF.ps.length jK)).setCell ⟨tb+1,1,none⟩ (.slice nq TF.ns.length jL)=wf at *;have nV:wf.cell? ⟨tb+1,0,none⟩=some (.slice pq TF.ps.length jK):=by simp [World.cell?,hheap]
  have hr1:wf.cell? ⟨tb+1,1,none⟩=some (.slice nq TF.ns.length jL):=by simp [World.cell?,hheap]
  refine ⟨rfl,.agg #[.slice pq TF.ps.length jK,.slice nq TF.ns.length jL],by simp [results,Tryz.results162,go_sem,nV,hr1],?_⟩;have hs2:=dM.out;have hnp:∀b,(Value.slice pq TF.ps.length jK).ownBlock=some b->(Value.slice pp t.ps.length pc).ownBlock=some b\/w2.heap.size<=b:=ry.out.jX;have hnn:∀b,(Value.slice nq TF.ns.length jL).ownBlock=some b->(Value.slice np t.ns.length nc).ownBlock=some b\/w2.heap.size<=b:=ry.out.jY;have Ib:∀b,(Value.slice pq TF.ps.length jK).ownBlock=some b->b≠tb+1:=fun b hb=>by
   rcases hnp b hb with h1 | h1
   ·have:=zb.out b h1;omega
   ·omega
  have Bk:∀b,(Value.slice nq TF.ns.length jL).ownBlock=some b->b≠tb+1:=fun b hb=>by
   rcases hnn b hb with h1 | h1
   ·have:=sU.out b h1;omega
   ·omega
  have Pq:=ry.out.size;have zU:=kZ.out;have hwt:=EC.out;refine ⟨_,_,rfl,⟨?_,?_,nW.out.tl.apart⟩,hos.1.trans (ry.out.os.trans zU.os),hos.2.1.trans (ry.out.tape.trans zU.tape),hos.2.2.trans (ry.out.output.trans zU.output),by omega,fun b hb h1 h2 h3=>?_,fun b hb=>?_,fun b hb=>?_⟩
  ·rw [<- HTF.out];exact nW.out.tl.cn.eH fun b hb=>cA b (Ib b hb)
  ·rw [<- HTF.out];exact nW.out.tl.cD.eH fun b hb=>cA b (Bk b hb)
  ·rw [cA b (by omega),ry.out.block b (by omega) (by omega) h2 h3]
   exact zU.block b (by omega)
  ·rcases hnp b hb with h1 | h1
   ·exact .inl h1
   ·exact .inr (by omega)
  ·rcases hnn b hb with h1 | h1
   ·exact .inl h1
   ·exact .inr (by omega)
 case neg =>
 have d1:((set.length:Int)==1)=false:=beq_eq_false_iff_ne.2 (by omega);go_in
 go_wp2_with (first
  | (at_builtin;rw [<- hw2];refine vU w2 rfl _ _ 26 rfl B0 3 (.int .i64 0) 8 Tryz.underlying26 Tryz.iD rfl (by decide) HG.out.tl.cn rfl (.int .i64 par) (by rw [dM.out];rfl) rfl t.ps.length (aD _) eC.out.1 HG.out.lo.2 ?_;intro g8 kM w8 gp jr Vl;obtain ⟨QY,Ug⟩:=HG.out.KM gp jr Vl;have SL:=HG.out.ad4 gp jr Vl;have sY:=SL.1.cells;obtain ⟨ads,adt,adu,adv⟩:=sY;have zT:=aa SL;clear SL;generalize AU:w8.setCell ⟨w.heap.size,0,none⟩ (.slice (some ⟨g8,0,none⟩) (t.ps.length+1) kM)=w9 at *)
  | (at_builtin;refine vU w9 rfl _ _ 22 rfl B0 9 (.string ⟨#[]⟩) 16 Tryz.underlying22 Tryz.mD rfl (by decide) zT.out.1.tl.cD rfl (.string ⟨#[]⟩) rfl rfl t.ns.length (aD _) eC.out.2 zT.out.1.lo.2 ?_;intro g10 KP A4 SN Xa IY;obtain ⟨akl,akm⟩:=zT.out.1.W9 SN Xa IY;have adw:=aa (zT.out.1.aiX SN Xa IY)))
 generalize akn:A4.setCell ⟨w.heap.size,1,none⟩ (.slice (some ⟨g10,0,none⟩) (t.ns.length+1) KP)=fZ at *;have ako:Hid (GW w.heap.size B0 fZ (.slice (some ⟨g8,0,none⟩) (t.ps.length+1) kM) (.slice (some ⟨g10,0,none⟩) (t.ns.length+1) KP) (t.push par ByteArray.empty)):=adw.out.1;have adx:Hid (GK w.heap.size w2 fZ (.slice pp t.ps.length pc) (.slice np t.ns.length nc) (.slice (some ⟨g8,0,none⟩) (t.ps.length+1) kM) (.slice (some ⟨g10,0,none⟩) (t.ns.length+1) KP)):=zT.out.2.trans adw.out.2;clear zT adw HG Il ah9 QY Ug akl akm ads adt adu adv gp jr Vl SN Xa IY d1;generalize htb:w.heap.size=tb at *;have EC:Hid (w.heap.size=tb):=htb;clear AU akn;have dG:Hid (DK l/\∀k,k<l.length->eD (gl l k)):=⟨ah8,cA⟩;have kH:Hid (l.length<=64):=FI;have ij:Hid (amd.length<=32):=ah7;have o5:=aa h1;have ru:Hid (∀(W:World) (P' N':Value),GK tb w2 W (.slice pp t.ps.length pc) (.slice np t.ns.length nc) P' N'->Kept S0 w2 W):=fun W P' N' hk=>hk.JL fun b hb _=>by rw [ZK.out] at hb;exact ⟨by omega,hb.2⟩
 have BQ:Hid (∀(W:World) (P' N':Value),GK tb w2 W (.slice pp t.ps.length pc) (.slice np t.ns.length nc) P' N'->∀b,S0 b->b≠tb/\P'.ownBlock≠some b/\N'.ownBlock≠some b):=fun W P' N' hk b hb=>by
  rw [ZK.out] at hb;have h2:=dM.out;refine ⟨by omega,fun e=>?_,fun e=>?_⟩
  ·rcases hk.jX b e with h | h
   ·exact hb.2.1 h
   ·omega
  ·rcases hk.jY b e with h | h
   ·exact hb.2.2 h
   ·omega
 have HST:Hid (af (fun b=>b≠tb/\(Value.slice (some ⟨g8,0,none⟩) (t.ps.length+1) kM).ownBlock≠some b/\(Value.slice (some ⟨g10,0,none⟩) (t.ns.length+1) KP).ownBlock≠some b) fZ (.slice sp set.length sc) (jb l set 0)):=(af.keep HVS.out (ru.out _ _ _ adx.out)).sub fun b hb _=>BQ.out _ _ _ adx.out b hb;have ue:Hid (GW tb B0 fZ (.slice (some ⟨g8,0,none⟩) (t.ps.length+1) kM) (.slice (some ⟨g10,0,none⟩) (t.ns.length+1) KP) ((t.push par ByteArray.empty).apps (xJ amd l d set 0) t.ps.length)):=by unfold Hid;rw [show xJ amd l d set 0=[] from rfl,Ih];exact ako.out
 clear ah8 cA FI ah7 h1 hs0 adr
 go_loopw [12,13] (fun s i wr=>∃(n:Nat) (P' N':Value),n<=l.length/\i=.int .i64 n/\Hid (GW tb B0 wr P' N' ((t.push par ByteArray.empty).apps (xJ amd l d set n) t.ps.length))/\Hid (GK tb w2 wr (.slice pp t.ps.length pc) (.slice np t.ns.length nc) P' N')/\Hid (af (fun b=>b≠tb/\P'.ownBlock≠some b/\N'.ownBlock≠some b) wr s (jb l set n))) (fun _ i _=>l.length - (intOf i).toNat)
 case atStart=>exact ⟨0,_,_,aF _,rfl,ue.out,adx.out,HST.out⟩
 case round =>
  obtain ⟨n,P',N',hn,rfl,hGn,hKn,xm⟩:=hrel;obtain ⟨wo,rfl⟩:=eM wr;obtain ⟨qp,qc,rfl,-,-⟩:=aq.open xm.out;have Vm:Hid (af (fun b=>b≠tb/\P'.ownBlock≠some b/\N'.ownBlock≠some b) wo (.slice qp (jb l set n).length qc) (jb l set n)):=xm.out;have Vn:=aa hGn.out;have HKn:=aa hKn.out;have hke:=ru.out _ _ _ hKn.out;have ady:=aa (aT.keep PW.out hke);have adz:=aa (af.keep HVS.out hke);have al9:=aa (aj.keep Vk.out hke);have i0:(0:Int)<=(n:Int):=by omega
  by_cases hlt:n<l.length
  case neg =>
   (obtain rfl:n=l.length:=by omega);obtain ⟨LF,SP⟩:∃LF,LF=jb l set l.length:=⟨_,rfl⟩;rw [<- SH] at Vn;(have aia:Hid (eD LF/\LF.length<=64):=by rw [SP];exact ⟨⟨CL kJ.out.jM _,fun x hx=>kJ.out.bd x (LU hx)⟩,by have:=LV l set l.length;have:=sN.out.2;omega⟩);have akp:Hid (∀x∈LF,0<=x/\x<(amd.length:Int)):=fun x hx=>lQ.out x (LU (by rw [<- SP];exact hx));(have Aq:Hid (∀m,m<LF.length->tW amd l d set (m+1)=tW amd l d set m++[kj amd (gi LF m)]):=fun m hm=>by rw [SP] at hm ⊢;exact adm amd l d set hm);(have HGE:Hid (t.app (jv amd l (d+1) set) par=(t.push par ByteArray.empty).apps (tW amd l d set LF.length) t.ps.length):=by unfold Hid;rw [LS amd l d o5.out,<- Ij,SP]);(have HZB:Hid (∀m,t.ps.length+1+aK (tW amd l d set m)<=100000):=fun m=>by have h1:=DM (Vi amd l d set m);have h2:=adq.out;rw [LS amd l d o5.out,aP] at h2;omega);rw [<- SP] at Vm;rw [<- SP];have lg:Hid (af (fun b=>b<wo.heap.size/\b≠tb/\P'.ownBlock≠some b/\N'.ownBlock≠some b) wo (.slice qp LF.length qc) LF):=Vm.out.sub fun b hb hl=>⟨hl,hb⟩;clear hlt hn SP hGn hKn xm hke;go_wp2
   go_loopw [16] (fun i wr=>∃(m:Nat) (P1 N1:Value),m<=LF.length/\i=.int .i64 m/\Hid (GW tb B0 wr P1 N1 ((t.push par ByteArray.empty).apps (tW amd l d set m) t.ps.length))/\Hid (GK tb wo wr P' N' P1 N1)) (fun i _=>LF.length - (intOf i).toNat)
   case atStart=>exact ⟨0,P',N',aF _,rfl,Vn.out,GK.refl _ _ _ _⟩
   case round =>
    obtain ⟨m,P1,N1,hm,rfl,PO,DU⟩:=hrel;obtain ⟨wk,rfl⟩:=eM wr;have Vo:GK tb w2 wk (.slice pp t.ps.length pc) (.slice np t.ns.length nc) P1 N1:=HKn.out.trans DU.out;(have i3:(0:Int)<=(m:Int):=by omega);by_cases hlt:m<LF.length
    case neg =>
     (obtain rfl:m=LF.length:=by omega);(have wG:GW tb B0 wk P1 N1 (t.app (jv amd l (d+1) set) par):=by rw [HGE.out];exact PO.out);have Hh:=Vo;clear hlt hm PO DU Vo;have hcs:=wG.cells;have a0:=hcs.1;have a1:=hcs.2.1;have hrb:wk.heap[tb+1]? = some (Obj.cells #[.slice none 0 0,.slice none 0 0] 39 (0,0)) :=
      (Hh.block (tb+1) (by rw [dM.out];omega) (by omega) (fun e=>by have:=zb.out _ e.symm;omega) (fun e=>by have:=sU.out _ e.symm;omega)).trans gY.out
     (obtain ⟨r0,r1,r2,r3⟩:wk.cell? ⟨tb+1,0,none⟩=some (.slice none 0 0)/\wk.cell? ⟨tb+1,1,none⟩=some (.slice none 0 0)/\wk.frozen? ⟨tb+1,0,none⟩=false/\wk.frozen? ⟨tb+1,1,none⟩=false:=by refine ⟨?_,?_,?_,?_⟩<;>simp [World.cell?,World.frozen?,hrb]);have nW:=aa wG;have ry:=aa Hh;obtain ⟨TF,SM⟩:∃TF,TF=t.app (jv amd l (d+1) set) par:=⟨_,rfl⟩;rw [<- SM] at nW;obtain ⟨pq,jK,rfl,-,-⟩:=aq.open nW.out.tl.cn.ints;obtain ⟨nq,jL,rfl,-,-⟩:=aq.open nW.out.tl.cD.strs;have PT:=aa hrb;have HTF:=aa SM;clear hcs wG Hh hrb SM;go_wp2_with fail;(have cA:∀b,b≠tb+1->((wk.setCell ⟨tb+1,0,none⟩ (.slice pq TF.ps.length jK)).setCell ⟨tb+1,1,none⟩ (.slice nq TF.ns.length jL)).heap[b]? = wk.heap[b]?:=fun b hb=>by rw [blk_setCell_other _ _ _ _ hb,blk_setCell_other _ _ _ _ hb]);(have hheap:((wk.setCell ⟨tb+1,0,none⟩ (.slice pq TF.ps.length jK)).setCell ⟨tb+1,1,none⟩ (.slice nq TF.ns.length jL)).heap[tb+1]? = some (Obj.cells #[.slice pq TF.ps.length jK,.slice nq TF.ns.length jL] 39 (0,0)):=by simp [World.setCell,Array.getElem?_modify,PT.out]);(have XI:((wk.setCell ⟨tb+1,0,none⟩ (.slice pq TF.ps.length jK)).setCell ⟨tb+1,1,none⟩ (.slice nq TF.ns.length jL)).heap.size=wk.heap.size:=by simp [World.size_setCell]);have hos:((wk.setCell ⟨tb+1,0,none⟩ (.slice pq TF.ps.length jK)).setCell ⟨tb+1,1,none⟩ (.slice nq TF.ns.length jL)).os=wk.os/\((wk.setCell ⟨tb+1,0,none⟩ (.slice pq TF.ps.length jK)).setCell ⟨tb+1,1,none⟩ (.slice nq TF.ns.length jL)).tape=wk.tape/\((wk.setCell ⟨tb+1,0,none⟩ (.slice pq TF.ps.length jK)).setCell ⟨tb+1,1,none⟩ (.slice nq TF.ns.length jL)).output=wk.output:=⟨rfl,rfl,rfl⟩;generalize (wk.setCell ⟨tb+1,0,none⟩ (.slice pq TF.ps.length jK)).setCell ⟨tb+1,1,none⟩ (.slice nq TF.ns.length jL)=wf at *;(have nV:wf.cell? ⟨tb+1,0,none⟩=some (.slice pq TF.ps.length jK):=by simp [World.cell?,hheap]);(have hr1:wf.cell? ⟨tb+1,1,none⟩=some (.slice nq TF.ns.length jL):=by simp [World.cell?,hheap]);refine ⟨rfl,.agg #[.slice pq TF.ps.length jK,.slice nq TF.ns.length jL],by simp [results,Tryz.results162,go_sem,nV,hr1],?_⟩;have hs2:=dM.out;have hnp:∀b,(Value.slice pq TF.ps.length jK).ownBlock=some b->(Value.slice pp t.ps.length pc).ownBlock=some b\/w2.heap.size<=b:=ry.out.jX;have hnn:∀b,(Value.slice nq TF.ns.length jL).ownBlock=some b->(Value.slice np t.ns.length nc).ownBlock=some b\/w2.heap.size<=b:=ry.out.jY;have Ib:∀b,(Value.slice pq TF.ps.length jK).ownBlock=some b->b≠tb+1:=fun b hb=>by
      rcases hnp b hb with h1 | h1
      ·have:=zb.out b h1;omega
      ·omega
     have Bk:∀b,(Value.slice nq TF.ns.length jL).ownBlock=some b->b≠tb+1:=fun b hb=>by
      rcases hnn b hb with h1 | h1
      ·have:=sU.out b h1;omega
      ·omega
     have Pq:=ry.out.size;have zU:=kZ.out;have hwt:=EC.out;refine ⟨_,_,rfl,⟨?_,?_,nW.out.tl.apart⟩,hos.1.trans (ry.out.os.trans zU.os),hos.2.1.trans (ry.out.tape.trans zU.tape),hos.2.2.trans (ry.out.output.trans zU.output),by omega,fun b hb h1 h2 h3=>?_,fun b hb=>?_,fun b hb=>?_⟩
     ·rw [<- HTF.out];exact nW.out.tl.cn.eH fun b hb=>cA b (Ib b hb)
     ·rw [<- HTF.out];exact nW.out.tl.cD.eH fun b hb=>cA b (Bk b hb)
     ·rw [cA b (by omega),ry.out.block b (by omega) (by omega) h2 h3]
      exact zU.block b (by omega)
     ·rcases hnp b hb with h1 | h1
      ·exact .inl h1
      ·exact .inr (by omega)
     ·rcases hnn b hb with h1 | h1
      ·exact .inl h1
      ·exact .inr (by omega)
    case pos =>
     (obtain ⟨qb,qo,rfl⟩:∃qb qo,qp=some ⟨qb,qo,none⟩:=by obtain ⟨_,_,e,_,h⟩:=aq.open lg.out;injection e with e1 e2 e3;subst e1;obtain ⟨b,o,h1,_⟩:=h m hlt;exact ⟨b,o,h1⟩);(have hqc:LF.length<=qc:=by obtain ⟨_,_,e,h,_⟩:=aq.open lg.out;injection e with e1 e2 e3;omega);have hKS:Kept (fun b=>b<wo.heap.size/\b≠tb/\P'.ownBlock≠some b/\N'.ownBlock≠some b) wo wk:=DU.out.JL fun b hb _=>hb.2;have hone:=ado (af.keep lg.out hKS) hlt
     have aam:∀b,(b<wo.heap.size/\b≠tb/\P'.ownBlock≠some b/\N'.ownBlock≠some b)->P1.ownBlock≠some b/\N1.ownBlock≠some b:=fun b hb=>⟨fun e=>by
      rcases DU.out.jX b e with h | h
      ·exact hb.2.2.1 h
      ·omega,fun e=>by
      rcases DU.out.jY b e with h | h
      ·exact hb.2.2.2 h
      ·omega⟩
     obtain ⟨T,hT⟩:∃T,T=(t.push par ByteArray.empty).apps (tW amd l d set m) t.ps.length:=⟨_,rfl⟩;(have Fl:0<d:=by have:=HD.out.1;have:=sN.out.1;have:=o5.out;omega);(have Yb:Hid (T.app (kj amd (gi LF m)) (t.ps.length:Int)=(t.push par ByteArray.empty).apps (tW amd l d set (m+1)) t.ps.length):=by unfold Hid;rw [hT,Aq.out m hlt];exact Ii _ _ _ _);(have htl:T.ps.length=t.ps.length+1+aK (tW amd l d set m)/\T.ns.length=t.ns.length+1+aK (tW amd l d set m):=by rw [hT];unfold ax.apps ax.push;simp only [bg,aW,dw,ri,y6];exact ⟨trivial,trivial⟩);have K6:=HZB.out (m+1);rw [Aq.out m hlt,KO] at K6;(have xE:GW tb B0 wk P1 N1 T:=by rw [hT];exact PO.out);have I8:=ru.out _ _ _ Vo;have hx:=sL hlt;have gQ:Hid (∀W,Up wk W->Calls Tryz.prog 162 #[.agg #[P1,N1],.slice mp amd.length mc,.int .i64 (t.ps.length:Nat),.slice (some ⟨qb,qo+m,none⟩) 1 (qc - m),.slice lp l.length lc] W (EY B0 W P1 N1 T (kj amd (gi LF m)) (t.ps.length:Nat))):=fun W hW=>by
      rw [<- SK amd l Fl (gi LF m)];exact oO.out [gi LF m] Fl (by simp) ⟨List.pairwise_singleton _ _,fun x h=>by rw [cN.1 h];exact aia.out.1.bd _ hx⟩ (fun x h=>by rw [cN.1 h];exact akp.out _ hx) W P1 N1 _ _ _ T _ (xE.tl.up hW) (aB xE.lo.2 hW.size) (by have:=ux.out;omega) (by rw [SK amd l Fl];omega)
       ((aj.keep (aj.keep Vk.out I8) (hW.kept _)).sub fun b hb _=>(BQ.out _ _ _ Vo b hb).2) ((af.keep hone (hW.kept _)).sub fun b hb _=>aam b hb) ((aT.keep (aT.keep PW.out I8) (hW.kept _)).sub fun b hb _=>(BQ.out _ _ _ Vo b hb).2)
     have oH:=aa xE;have EP:=aa DU.out;have aR:=aa hlt;have a0:=xE.cells.1;have a1:=xE.cells.2.1;(have i4:(m:Int)<(LF.length:Int):=by omega);(have i5:(m:Int)<64:=by have:=aia.out.2;omega);(have i6:(m:Int)+1<=(qc:Int):=by omega);(have i7:m+1<=qc:=by omega);(have i8:(m:Int)<=(m:Int)+1:=by omega);clear hT htl K6 xE I8 hlt hm PO DU Vo aam hone hKS hqc Fl hx;generalize kj amd (gi LF m)=r at *;go_wp2_with fail;refine fR (by kernel_rfl) 10 (fun w'=>w'.cell? ⟨tb,0,none⟩=some P1/\w'.cell? ⟨tb,1,none⟩=some N1) ⟨a0,a1⟩ (fun hS=>?_);simp only [dY,aW,dw,Nat.reduceAdd,iu,iw,dX,di,cm];refine az.kG 0 1 2 3 hS ?_;(try simp only [Act.put,aL,aM,aN]);refine az.xk 4 5 hS ?_;(try simp only [Act.put,aL,aM,aN]);refine az.tk 6 hS ?_;(try simp only [Act.put,aL,aM,aN]);refine az.take (i:=7) (v:=.slice (some ⟨qb,qo+m,none⟩) 1 (qc - m)) rfl (by kernel_rfl) (fun _ _ _ h=>h) (by rfl) (fun w hSw=>?gyS) hS ?U7
     case gyS =>go_simp;(have e1:IntKind.i64.wrap ((m:Int)+1)=((m+1:Nat):Int):=by simp [IntKind.wrap,IntKind.bits,IntKind.signed];omega);rw [e1,if_pos ⟨by omega,by omega⟩,if_pos (by rw [fc];omega),if_neg (by omega),fc,show m+1 - m=1 by omega]
     (try simp only [aL,aM,aN]);refine az.tk 8 hS ?_;(try simp only [Act.put,aL,aM,aN]);refine az.st 9 fun K' hK=>?_;go_simp;refine (gQ.out _ (Ik wk)).mono ?_;rintro e w3 ⟨P2,N2,rfl,Av,hK3⟩;obtain ⟨p2,c2,rfl,-,-⟩:=aq.open Av.cn.ints;obtain ⟨q2,e2,rfl,-,-⟩:=aq.open Av.cD.strs;have hfz:=EZ oH.out hK3;have Ch:=hfz 0;have sQ:=hfz 1;have hw0:w3.cell? ⟨tb,0,none⟩=some P1:=(cU (a:=⟨tb,0,none⟩) (qf oH.out hK3)).trans oH.out.cells.1;have hw1:w3.cell? ⟨tb,1,none⟩=some N1:=(cU (a:=⟨tb,1,none⟩) (qf oH.out hK3)).trans oH.out.cells.2.1;have nO:=aa (oH.out.put (u:=T.app r (t.ps.length:Int)) (VV oH.out hK3) (qf oH.out hK3) Av);clear hfz Av hK3;refine hK.out _ _ (bF ·) (fun hS=>?_);(try simp only [aL,aM,aN]);refine az.st 10 fun K' hK=>?_;go_simp;refine hK.out _ _ (bF ·) (fun hS=>?_);refine az.done (by kernel_rfl) ?_;go_wp2
     go_roundw
     case rel=>exact ⟨m+1,_,_,aR.out,by go_num,by rw [<- Yb.out];exact nO.out.1,EP.out.trans nO.out.2⟩
     case measure=>have:=aR.out;simp [intOf];omega
  case pos =>
  obtain ⟨lb,lo,rq,rc,rfl,D4,NP⟩:=eZ ady.out hlt;have RZ:=aa NP;have i1:(n:Int)<(l.length:Int):=by omega
  have i2:(n:Int)<64:=by have:=kH.out;omega
  have aR:=aa hlt;have oZ:=aa D4;have SQ:Hid (∀k,k<l.length->(gl l k).length<=1000000):=fun k hk=>by have:=rH (dG.out.2 k hk);omega
  have wP:=aa (fun W (h:QD wo W)=>zN S0 S0 W _ _ _ _ (af.keep RZ.out (h.kept _)) (af.keep adz.out (h.kept _)) (SQ.out n hlt) (by have:=sN.out.2;omega));have HWI:=aa (fun W (h:QD wo W)=>uP S0 S0 W _ _ _ _ (af.keep RZ.out (h.kept _)) (af.keep adz.out (h.kept _)) (SQ.out n hlt) (by have:=sN.out.2;omega) (dG.out.2 n hlt) kJ.out);have FU:=aa (ah6 l set n);have KQ:=aa (SG amd l d set n);have G0:=aa (SI l set n);clear hlt hn hGn hKn xm hke NP;cases b1:decide (gl l n=set)
  case true =>
   rw [b1] at wP FU;(have nW:Hid (wT l set n=false):=by unfold Hid;rw [FU.out];rfl);rw [nW.out,if_neg (by decide),eG] at KQ;rw [nW.out,if_neg (by decide)] at G0;go_wp2_with fail;refine (wP.out _ (QD.refl _)).mono ?_;rintro e w' ⟨rfl,nq,rfl⟩;go_wp2
   go_roundw
   case rel=>exact ⟨n+1,P',N',aR.out,by go_num,by unfold Hid;rw [KQ.out];exact Vn.out.up (Up.drewN _ _),HKn.out.up (Up.drewN _ _),by unfold Hid;rw [G0.out];exact af.keep Vm.out ((Up.drewN _ _).kept _)⟩
   case measure=>have:=aR.out;simp [intOf];omega
  case false =>
   rw [b1] at wP FU;cases b2:iV (gl l n) set
   case false =>
    rw [b2] at HWI FU;(have nW:Hid (wT l set n=false):=by unfold Hid;rw [FU.out];rfl);rw [nW.out,if_neg (by decide),eG] at KQ;rw [nW.out,if_neg (by decide)] at G0;go_wp2_with fail;refine (wP.out _ (QD.refl _)).mono ?_;rintro e w' ⟨rfl,nq,rfl⟩;have D4:=(Up.drewN wo nq).cell oZ.out;go_wp2_with fail;refine (HWI.out _ ((QD.refl _).drewN nq)).mono ?_;rintro e w' ⟨rfl,hq⟩;have HQ:=aa (iz (Up.drewN wo nq) hq.up);clear hq;go_wp2
    go_roundw
    case rel=>exact ⟨n+1,P',N',aR.out,by go_num,by unfold Hid;rw [KQ.out];exact Vn.out.up HQ.out,HKn.out.up HQ.out,by unfold Hid;rw [G0.out];exact af.keep Vm.out (Up.kept HQ.out _)⟩
    case measure=>have:=aR.out;simp [intOf];omega
   case true =>
    rw [b2] at HWI FU;(have nW:Hid (wT l set n=Hg l set n l.length):=by unfold Hid;rw [FU.out];rfl);go_wp2_with fail;refine (wP.out _ (QD.refl _)).mono ?_;rintro e w' ⟨rfl,nq,rfl⟩;have D4:=(Up.drewN wo nq).cell oZ.out;go_wp2_with fail;refine (HWI.out _ ((QD.refl _).drewN nq)).mono ?_;rintro e wi ⟨rfl,hq⟩;have HQ:=aa (iz (Up.drewN wo nq) hq.up);clear hq D4;go_wp2
    go_loopw [14,15] (fun s i wr=>∃j:Nat,j<=l.length/\i=.int .i64 j/\s=.bool (Hg l set n j)/\Hid (Up wi wr)) (fun _ i _=>l.length - (intOf i).toNat)
    case atStart=>exact ⟨0,aF _,rfl,rfl,Up.refl _⟩
    case round =>
     obtain ⟨j,hj,rfl,rfl,hU⟩:=hrel;obtain ⟨wk,rfl⟩:=eM wr;have HU:=aa hU.out;have xd:=aa (Up.trans HQ.out hU.out);clear hU;by_cases hlt2:j<l.length
     case neg =>
      (obtain rfl:j=l.length:=by omega);clear hlt2 hj;cases b3:wT l set n
      case false =>
       rw [b3] at nW;rw [<- nW.out];rw [b3,if_neg (by decide),eG] at KQ;rw [b3,if_neg (by decide)] at G0;go_wp2
       go_roundw
       case rel=>exact ⟨n+1,P',N',aR.out,by go_num,by unfold Hid;rw [KQ.out];exact Vn.out.up xd.out,HKn.out.up xd.out,by unfold Hid;rw [G0.out];exact af.keep Vm.out (Up.kept xd.out _)⟩
       case measure=>have:=aR.out;simp [intOf];omega
      case true =>
       rw [b3] at nW;rw [<- nW.out];rw [b3,if_pos rfl] at KQ;rw [b3,if_pos rfl] at G0;obtain ⟨g1,g2,g3⟩:=afs dG.out.1 kJ.out.jM aR.out b3;obtain ⟨T,hT⟩:∃T,T=(t.push par ByteArray.empty).apps (xJ amd l d set n) t.ps.length:=⟨_,rfl⟩;(have Yb:Hid (T.app (jv amd l d (gl l n)) (t.ps.length:Int)=(t.push par ByteArray.empty).apps (xJ amd l d set (n+1)) t.ps.length):=by unfold Hid;rw [hT,KQ.out];exact Ii _ _ _ _);(have htl:T.ps.length=t.ps.length+1+aK (xJ amd l d set n)/\T.ns.length=t.ns.length+1+aK (xJ amd l d set n):=by rw [hT];unfold ax.apps ax.push;simp only [bg,aW,dw,ri,y6];exact ⟨trivial,trivial⟩);(have K6:aK (xJ amd l d set n)+aP (jv amd l d (gl l n))<=aK (tW amd l d set (jb l set l.length).length):=by have h1:=DM (aft amd l d set (n:=n+1) (m:=l.length) aR.out);have h2:=DM (Vi amd l d set 0);rw [SH] at h2;rw [KQ.out,KO] at h1;omega);have hgr:=LS amd l d o5.out;have aib:=adq.out;rw [hgr,aP] at aib;(have xE:GW tb B0 wk P' N' T:=by rw [hT];exact Vn.out.up xd.out);have LW:GK tb w2 wk (.slice pp t.ps.length pc) (.slice np t.ns.length nc) P' N':=HKn.out.up xd.out;have I8:=ru.out _ _ _ LW;have gQ:Hid (∀W,Up wk W->Calls Tryz.prog 162 #[.agg #[P',N'],.slice mp amd.length mc,.int .i64 (t.ps.length:Nat),.slice rq (gl l n).length rc,.slice (some ⟨lb,lo,none⟩) l.length lc] W (EY B0 W P' N' T (jv amd l d (gl l n)) (t.ps.length:Nat))):=fun W hW =>
        oO.out (gl l n) (by have:=HD.out.1;omega) g2 (dG.out.2 n aR.out) (fun x hx=>lQ.out x (g3 x hx)) W P' N' _ _ _ T _ (xE.tl.up hW) (aB xE.lo.2 hW.size) (by have:=ux.out;omega) (by omega)
         ((aj.keep (aj.keep Vk.out I8) (hW.kept _)).sub fun b hb _=>(BQ.out _ _ _ LW b hb).2) ((af.keep (af.keep RZ.out (Up.kept xd.out _)) (hW.kept _)).sub fun b hb _=>(BQ.out _ _ _ LW b hb).2) ((aT.keep (aT.keep PW.out I8) (hW.kept _)).sub fun b hb _=>(BQ.out _ _ _ LW b hb).2)
       have oH:=aa xE;have JB:=aa LW;have a0:=xE.cells.1;have a1:=xE.cells.2.1;have fG:=Up.cell xd.out oZ.out;have HL3:Hid (af (fun b=>b≠tb/\P'.ownBlock≠some b/\N'.ownBlock≠some b) wk (.slice qp (jb l set n).length qc) (jb l set n)):=af.keep Vm.out (Up.kept xd.out _);have Zp:Hid (eD (jb l set n)/\(jb l set n).length<=1000000):=⟨⟨CL kJ.out.jM n,fun x hx=>kJ.out.bd x (LU hx)⟩,by have:=LV l set n;have:=sN.out.2;omega⟩;clear hT htl K6 hgr aib xE LW I8 g1 g2 g3 b3;generalize hr:jv amd l d (gl l n)=r at *;clear hr;go_wp2_with fail;refine fR (by kernel_rfl) 9 (fun w'=>w'.cell? ⟨tb,0,none⟩=some P'/\w'.cell? ⟨tb,1,none⟩=some N'/\w'.cell? ⟨lb,lo+n,none⟩=some (.slice rq (gl l n).length rc)) ⟨a0,a1,fG⟩ (fun hS=>?_);simp only [dY,aW,dw,Nat.reduceAdd,iu,iw,dX,di,cm];refine az.kG 0 1 2 3 hS ?_;(try simp only [Act.put,aL,aM,aN]);refine az.kG 4 5 6 7 hS ?_;(try simp only [Act.put,aL,aM,aN]);refine az.st 8 fun K' hK=>?_;go_simp;refine (gQ.out _ (Ik wk)).mono ?_;rintro e w3 ⟨P2,N2,rfl,Av,hK3⟩;obtain ⟨p2,c2,rfl,-,-⟩:=aq.open Av.cn.ints;obtain ⟨q2,e2,rfl,-,-⟩:=aq.open Av.cD.strs;have hfz:=EZ oH.out hK3;have Ch:=hfz 0;have sQ:=hfz 1;have hw0:w3.cell? ⟨tb,0,none⟩=some P':=(cU (a:=⟨tb,0,none⟩) (qf oH.out hK3)).trans oH.out.cells.1;have hw1:w3.cell? ⟨tb,1,none⟩=some N':=(cU (a:=⟨tb,1,none⟩) (qf oH.out hK3)).trans oH.out.cells.2.1;have nO:=aa (oH.out.put (u:=T.app r (t.ps.length:Int)) (VV oH.out hK3) (qf oH.out hK3) Av);clear hfz Av hK3;refine hK.out _ _ (bF ·) (fun hS=>?_);(try simp only [aL,aM,aN]);refine az.st 9 fun K' hK=>?_;go_simp;refine hK.out _ _ (bF ·) (fun hS=>?_);refine az.done (by kernel_rfl) ?_;have hK4:=JB.out.trans nO.out.2;obtain ⟨rq4,rc4,TX,hr4⟩:=EF (aT.keep PW.out (ru.out _ _ _ hK4)) aR.out;have akq:=aa (ZM _ _ _ _ _ _ _ (af.keep HL3.out (nO.out.2.JL fun b hb _=>hb)) hr4 Zp.out.2 (SQ.out n aR.out) Zp.out.1 (dG.out.2 n aR.out));have HK4:=aa hK4;clear hK4 hr4 hw0 hw1 Ch sQ a0 a1 fG;generalize (w3.setCell ⟨tb,0,none⟩ _).setCell ⟨tb,1,none⟩ _=w4 at *;go_wp2_with fail;refine akq.out.mono ?_;rintro e w5 ⟨gJ,x,rfl,NZ⟩;have kK:=aa gJ;have HOX:=aa NZ;clear gJ NZ;go_wp2
       go_roundw
       case rel =>
        refine ⟨n+1,_,_,aR.out,by go_num,by rw [<- Yb.out];exact nO.out.1.up kK.out,HK4.out.up kK.out,?_⟩;unfold Hid;rw [G0.out];refine (HOX.out.ints).sub fun b hb _=>⟨?_,fun e=>?_,fun e=>?_⟩
        ·have:=nO.out.1.lt;omega
        ·have:=(av nO.out.1.tl.cn e).2;omega
        ·have:=(av nO.out.1.tl.cD e).2;omega
       case measure=>have:=aR.out;simp [intOf];omega
     case pos =>
     obtain ⟨jq,jc,B5,hrj⟩:=EF (aT.keep ady.out (Up.kept xd.out _)) hlt2;have fG:=Up.cell xd.out oZ.out;have HRJ:=aa hrj;have XC:=aa (af.keep RZ.out (Up.kept xd.out _));have aic:=aa (af.keep adz.out (Up.kept xd.out _));(have i3:(0:Int)<=(j:Int):=by omega);(have i4:(j:Int)<(l.length:Int):=by omega);(have i5:(j:Int)<64:=by have:=kH.out;omega);have HJ:=aa hlt2;have jD:=aa fG;have HCJ:=aa B5;have wL:Hid (SJ l set n j=(!decide (gl l j=gl l n)&&(!decide (gl l j=set)&&(iV (gl l n) (gl l j)&&iV (gl l j) set)))):=rfl;have adA:=aa (adn l set n j);(have HZS:Hid (Hg l set n (j+1)=((Hg l set n j&&!SJ l set n j)&&!Vj l n j)):=by unfold Hid;rw [adA.out,Bool.and_assoc]);have I9:Hid (Vj l n j=(decide (j<n)&&decide (gl l j=gl l n))):=rfl;have A2:Hid ((gl l n).length<=1000000/\(gl l j).length<=1000000/\set.length<=1000000):=⟨SQ.out n aR.out,SQ.out j hlt2,by have:=sN.out.2;omega⟩;(have FN:Hid (∀mq,Calls Tryz.prog 157 #[.slice jq (gl l j).length jc,.slice rq (gl l n).length rc] (wk.drewN mq) fun e W'=>e=.returned (.bool (decide (gl l j=gl l n)))/\∃q,W'=wk.drewN q):=fun mq=>by have h:=Up.drewN wk mq;exact (zN S0 S0 (wk.drewN mq) _ _ _ _ (af.keep HRJ.out (h.kept _)) (af.keep XC.out (h.kept _)) A2.out.2.1 A2.out.1).mono (fun e W' ⟨h1,q,h2⟩=>⟨h1,mq+q,by rw [h2,kY]⟩));(have Oa:Hid (∀mq,Calls Tryz.prog 157 #[.slice jq (gl l j).length jc,.slice sp set.length sc] (wk.drewN mq) fun e W'=>e=.returned (.bool (decide (gl l j=set)))/\∃q,W'=wk.drewN q):=fun mq=>by have h:=Up.drewN wk mq;exact (zN S0 S0 (wk.drewN mq) _ _ _ _ (af.keep HRJ.out (h.kept _)) (af.keep aic.out (h.kept _)) A2.out.2.1 A2.out.2.2).mono (fun e W' ⟨h1,q,h2⟩=>⟨h1,mq+q,by rw [h2,kY]⟩));(have Ob:Hid (∀mq,Calls Tryz.prog 211 #[.slice rq (gl l n).length rc,.slice jq (gl l j).length jc] (wk.drewN mq) fun e W'=>e=.returned (.bool (iV (gl l n) (gl l j)))/\∃q,W'=wk.drewN q):=fun mq=>by have h:=Up.drewN wk mq;exact (uP S0 S0 (wk.drewN mq) _ _ _ _ (af.keep XC.out (h.kept _)) (af.keep HRJ.out (h.kept _)) A2.out.1 A2.out.2.1 (dG.out.2 n aR.out) (dG.out.2 j HJ.out)).mono (fun e W' ⟨h1,q,h2⟩=>⟨h1,mq+q,by rw [h2,kY]⟩));(have Oc:Hid (∀mq,Calls Tryz.prog 211 #[.slice jq (gl l j).length jc,.slice sp set.length sc] (wk.drewN mq) fun e W'=>e=.returned (.bool (iV (gl l j) set))/\∃q,W'=wk.drewN q):=fun mq=>by have h:=Up.drewN wk mq;exact (uP S0 S0 (wk.drewN mq) _ _ _ _ (af.keep HRJ.out (h.kept _)) (af.keep aic.out (h.kept _)) A2.out.2.1 A2.out.2.2 (dG.out.2 j HJ.out) kJ.out).mono (fun e W' ⟨h1,q,h2⟩=>⟨h1,mq+q,by rw [h2,kY]⟩));clear hrj hlt2 hj;go_wp2_with fail
     go_cut [111] from 74 to 111 (fun akr wx=>akr=.bool (SJ l set n j)/\Hid (Up wi wx))
     case first =>
      clear HZS adA;generalize Hg l set n j=bz at *;cases y1:decide (gl l j=gl l n)
      case true =>
       rw [y1] at FN wL;clear y1;(go_big_quiet (first | with_reducible exact FN.out _ | with_reducible exact Oa.out _ | with_reducible exact Ob.out _ | with_reducible exact Oc.out _));go_wp2;go_meet
       case rel=>exact ⟨by rw [wL.out];simp,HU.out.trans (Up.drewN _ _)⟩
      case false =>
      rw [y1] at FN wL;clear y1;cases y2:decide (gl l j=set)
      case true =>
       rw [y2] at Oa wL;clear y2;(go_big_quiet (first | with_reducible exact FN.out _ | with_reducible exact Oa.out _ | with_reducible exact Ob.out _ | with_reducible exact Oc.out _));go_wp2;go_meet
       case rel=>exact ⟨by rw [wL.out];simp,HU.out.trans (Up.drewN _ _)⟩
      case false =>
      rw [y2] at Oa wL;clear y2;cases y3:iV (gl l n) (gl l j)
      case false =>
       rw [y3] at Ob wL;clear y3;(go_big_quiet (first | with_reducible exact FN.out _ | with_reducible exact Oa.out _ | with_reducible exact Ob.out _ | with_reducible exact Oc.out _));go_wp2;go_meet
       case rel=>exact ⟨by rw [wL.out];simp,HU.out.trans (Up.drewN _ _)⟩
      case true =>
      rw [y3] at Ob wL;clear y3;cases y4:iV (gl l j) set
      case false =>
       rw [y4] at Oc wL;clear y4;(go_big_quiet (first | with_reducible exact FN.out _ | with_reducible exact Oa.out _ | with_reducible exact Ob.out _ | with_reducible exact Oc.out _));go_wp2;go_meet
       case rel=>exact ⟨by rw [wL.out];simp,HU.out.trans (Up.drewN _ _)⟩
      case true =>
       rw [y4] at Oc wL;clear y4;(go_big_quiet (first | with_reducible exact FN.out _ | with_reducible exact Oa.out _ | with_reducible exact Ob.out _ | with_reducible exact Oc.out _));go_wp2;go_meet
       case rel=>exact ⟨by rw [wL.out];simp,HU.out.trans (Up.drewN _ _)⟩
     case rest =>
      obtain ⟨rfl,mC⟩:=hcut;obtain ⟨wx,rfl⟩:=eM wc;have HUX:=aa mC.out;have k8:=aa (Up.trans HQ.out mC.out);obtain ⟨jq2,jc2,ama,aid⟩:=EF (aT.keep ady.out (Up.kept k8.out _)) HJ.out;have amb:=Up.cell k8.out oZ.out;have aks:=aa aid;have akt:=aa (af.keep RZ.out (Up.kept k8.out _));(have HA5:Hid (∀mq,Calls Tryz.prog 157 #[.slice jq2 (gl l j).length jc2,.slice rq (gl l n).length rc] (wx.drewN mq) fun e W'=>e=.returned (.bool (decide (gl l j=gl l n)))/\∃q,W'=wx.drewN q):=fun mq=>by have h:=Up.drewN wx mq;exact (zN S0 S0 (wx.drewN mq) _ _ _ _ (af.keep aks.out (h.kept _)) (af.keep akt.out (h.kept _)) A2.out.2.1 A2.out.1).mono (fun e W' ⟨h1,q,h2⟩=>⟨h1,mq+q,by rw [h2,kY]⟩));clear mC aid fG B5 FN Oa Ob Oc wL adA;have HX0:Hid (∃xz,xz=SJ l set n j):=⟨_,rfl⟩;generalize SJ l set n j=xz at *;generalize Hg l set n j=bz at *;by_cases hjn:j<n
      ·have i6:(j:Int)<(n:Int):=by omega
       rw [decide_eq_true hjn] at I9;cases y1:decide (gl l j=gl l n)
       all_goals
        rw [y1] at HA5 I9;have Ra:Hid (Vj l n j=_):=I9.out;rw [Ra.out] at HZS;clear y1 I9 Ra;cases xz
        all_goals
         go_wp2_with fail;(go_big_quiet (with_reducible exact HA5.out _));go_wp2
         go_roundw
         case rel=>exact ⟨j+1,HJ.out,by go_num,by rw [HZS.out];simp,HUX.out.trans (Up.drewN _ _)⟩
         case measure=>have:=HJ.out;simp [intOf];omega
      ·have i6:decide ((j:Int)<(n:Int))=false:=decide_eq_false (by omega)
       have i7:decide (j<n)=false:=decide_eq_false hjn;rw [i7] at I9;have Ra:Hid (Vj l n j=false):=I9.out;rw [Ra.out] at HZS;clear I9 Ra;cases xz
       all_goals
        go_wp2_with fail;(go_big_quiet (with_reducible exact HA5.out _));go_wp2
        go_roundw
        case rel=>exact ⟨j+1,HJ.out,by go_num,by rw [HZS.out];simp,HUX.out.trans (Up.drewN _ _)⟩
        case measure=>have:=HJ.out;simp [intOf];omega
end Go.Proofs.YthgabkgmkolobaaGreat
