/- Reference 34: rooted, the texts of all rooted binary trees of names. Reference 34: .. -/
import Derived.Test.YthgabkgmkolobaaGreatQ42
set_option maxRecDepth 100000
set_option maxHeartbeats 8000000
namespace Go.Proofs.YthgabkgmkolobaaGreat
section
open Go.RowKit Go.Deep
theorem ax.Ty (w:World) (e:TypeId) (u:Value):ax w.heap.size e (w.alloc (.cells #[u] e)) (.slice (some ⟨w.heap.size,0,none⟩) 1 1) [u]:=Ic w _ e u (ah _)
theorem PF (w:World) (x:ByteArray):Dup w.heap.size ((w.alloc (.cells #[.string x] 9)).alloc (.cells #[] 9)) (.slice (some ⟨w.heap.size,0,none⟩) 1 1) (.slice (some ⟨w.heap.size+1,0,none⟩) 0 0) [x] []:=by
 have h1:=ax.Ty w 9 (.string x);have h2:=ax.made (w.alloc (.cells #[.string x] 9)) 9;have hs:(w.alloc (.cells #[.string x] 9)).heap.size=w.heap.size+1:=aL _ _;rw [hs] at h2;refine ⟨h1.iC fun b hb=>bH (Up.alloc _ _) b (aG h1 hb).2,⟨by have:=h2.1;omega,?_⟩,fun b hb hb2=>?_⟩
 ·rcases h2.2 with h | ⟨g,c,cur,e,hg,h⟩
  ·exact .inl h
  ·exact .inr ⟨g,c,cur,e,by omega,h⟩
 ·injection hb with hb
  injection hb2 with hb2;have hb:w.heap.size=b:=hb;have hb2:w.heap.size+1=b:=hb2;omega
def wj (w:World) (acw:List ByteArray) (e:Ending) (w':World):Prop:=Up w w'/\∃v,e=.returned v/\ax w.heap.size 9 w' v ((bK acw).map Value.string)
def Yx (w:World) (acw:List ByteArray) (n:Nat) (out:Value) (wr:World):Prop:=Up w wr/\ax w.heap.size 9 wr out ((qT acw n).map Value.string)
theorem UM {n:Nat} (h:n<=4) (h1:1<=n):2 ^ (n - 1)<=8/\1<=2 ^ (n - 1):=by
 have:2 ^ (n - 1)<=2 ^ 3:=x9 (by decide) (by omega);exact ⟨by omega,Nat.one_le_two_pow⟩
theorem JU:∀(d:Nat) (acw:List ByteArray),acw.length<=d->1<=acw.length->acw.length<=4->(∀x∈acw,x.size<=20)->∀(S:Nat->Prop) (w:World) (v:Value),av S w v acw->Calls Tryz.prog 145 #[v] w (wj w acw):=by
 intro d
 induction d with
 | zero=>intro acw h1 h2;omega
 | succ d ih =>
 intro acw hd h1 h4 hz S w v h;obtain ⟨mp,mc,rfl,Wz,-⟩:=aA.open h;have h:av S w (.slice mp acw.length mc) acw:=h;obtain ⟨nb,no,rfl,hc0⟩:=cA h (k:=0) (by omega);rw [nA] at hc0;by_cases hone:acw.length=1
 ·have d1:((acw.length:Int)==1)=true:=by rw [hone];rfl
  have hrt:bK acw=[gs acw 0]:=by obtain ⟨x,rfl⟩:=List.length_eq_one_iff.1 hone;exact UG x
  have HX:Hid (wj w acw (.returned (.slice (some ⟨w.heap.size,0,none⟩) 1 1)) (w.alloc (.cells #[.string (gs acw 0)] 9))):=⟨Up.alloc _ _,_,rfl,by rw [hrt];exact ax.Ty _ _ _⟩;have i1:(0:Int)<(acw.length:Int):=by omega
  clear h hrt ih hz hd h4
  go_enter Tryz.func145,Tryz.ntmps145
  go_wp2_with fail;go_ret;exact HX.out
 have d1:((acw.length:Int)==1)=false:=beq_eq_false_iff_ne.2 (by omega);have h2:2<=acw.length:=by omega
 have kD:=aa ih;have HH:=aa h;have HZ:=aa hz;have HD:=aa hd;have gj:=aa hc0;obtain ⟨M,hM⟩:∃M:Nat,M=2 ^ (acw.length - 1):=⟨_,rfl⟩;have O7:=UM h4 h1;rw [<- hM] at O7;have HM:=aa hM;have PG:=aa O7;have hWS:wrap64 ((acw.length:Int) - 1)=((acw.length - 1:Nat):Int):=by unfold wrap64;omega
 have Xa:Hid (Yx w acw 0 (.slice (some ⟨w.heap.size,0,none⟩) 0 0) (w.alloc (.cells #[] 9))):=⟨Up.alloc _ _,by unfold qT;exact ax.made _ _⟩;have x7:=aa h4;have i0:(0:Int)<(acw.length:Int):=by omega
 clear ih h hz hd h1 hone hc0 hM O7
 go_enter Tryz.func145,Tryz.ntmps145
 go_wp2_with fail
 go_loopw [3,4,5,6,7,8,9,10,11] (fun out i _ _ _ _ _ _ _ wr=>∃n:Nat,n<=M - 1/\i=.int .i64 n/\Hid (Yx w acw n out wr)) (fun _ i _ _ _ _ _ _ _ _=>M - 1 - (intOf i).toNat)
 case atStart=>exact ⟨0,aI _,rfl,Xa.out⟩
 case round =>
  obtain ⟨n,hn,rfl,hI⟩:=hrel;obtain ⟨wo,rfl⟩:∃wo:World,wo=wr:=⟨_,rfl⟩;obtain ⟨lR,Tz⟩:=hI.out;have Tp:wrap64 ((2:Int) ^ (acw.length - 1))=(M:Int):=by (have:((2:Int) ^ (acw.length - 1))=(M:Int):=by rw [HM.out];simp);rw [this];unfold wrap64;have:=PG.out;omega
  have hWN:wrap64 ((M:Int) - 1)=((M - 1:Nat):Int):=by unfold wrap64;have:=PG.out;omega
  have j0:(0:Int)<=(n:Int):=by omega
  by_cases hlt:n<M - 1
  ·have i1:(n:Int)<((M - 1:Nat):Int):=by omega
   (have i2:(n:Int)<8:=by have:=PG.out;omega);have hc0:=lR.cell gj.out;(have hlt2:n<2 ^ (acw.length - 1) - 1:=by rw [<- HM.out];exact hlt);obtain ⟨l1,l2,l3,l4⟩:=e_len h2 hlt2;obtain ⟨m1,m2⟩:=Zv (L:=acw) (by omega) hlt2;have IV:∀x∈eA acw n,x.size<=20:=fun x hx=>HZ.out x (m1 x hx);have hzb:∀x∈eB acw n,x.size<=20:=fun x hx=>HZ.out x (m2 x hx);have CE:Hid (∀S W v,av S W v (eA acw n)->Calls Tryz.prog 145 #[v] W (wj W (eA acw n))):=fun S W v hv=>kD.out (eA acw n) (by have:=HD.out;omega) l2 (by have:=x7.out;omega) IV S W v hv
   have jK:Hid (∀S W v,av S W v (eB acw n)->Calls Tryz.prog 145 #[v] W (wj W (eB acw n))):=fun S W v hv=>kD.out (eB acw n) (by have:=HD.out;omega) l4 (by have:=x7.out;omega) hzb S W v hv;have yO:Hid ((bK (eA acw n)).length<=15/\∀k,(gs (bK (eA acw n)) k).size<=100):=⟨qg (by have:=x7.out;omega),iL fun x hx=>BA (by have:=x7.out;omega) IV hx⟩;have Ch:Hid ((bK (eB acw n)).length<=15/\∀k,(gs (bK (eB acw n)) k).size<=100):=⟨qg (by have:=x7.out;omega),iL fun x hx=>BA (by have:=x7.out;omega) hzb hx⟩
   have HE4:Hid ((eA acw n).length<=4/\(eB acw n).length<=4):=⟨by have:=x7.out;omega,by have:=x7.out;omega⟩;(have XX:Hid ((qT acw n).length<=8*225):=by have h5:=UI h2 x7.out (n:=n) (by omega);have:=PG.out.1;exact aR h5 (qA _ (by omega)));have Tq:=aa (PF wo (gs acw 0));have b9:=aa ((Up.alloc wo (.cells #[.string (gs acw 0)] 9)).trans (Up.alloc _ (.cells #[] 9)));have x4:=aa lR;have Yy:=aa Tz;have bG:=aa hlt;clear hlt hlt2 l1 l2 l3 l4 m1 m2 IV hzb hI lR Tz;go_wp2_with fail
   generalize (wo.alloc (.cells #[.string (gs acw 0)] 9)).alloc (.cells #[] 9)=w1 at *;clear hWS Tp hWN
   go_loopw [5,6,7] (fun a b i wr=>∃m:Nat,m<=acw.length - 1/\i=.int .i64 ((m:Int)+1)/\Hid (Dup wo.heap.size wr a b (zl acw n m) (zm acw n m))/\Hid (Up wo wr)) (fun _ _ i _=>acw.length - (intOf i).toNat)
   case atStart=>exact ⟨0,aI _,rfl,Tq.out,b9.out⟩
   case round =>
    obtain ⟨m,hm,rfl,hD,hU⟩:=hrel;obtain ⟨wi,rfl⟩:∃wi:World,wi=wr:=⟨_,rfl⟩;(have k0:(0:Int)<=(m:Int):=by omega);(have kw:wrap64 ((m:Int)+1 - 1)=(m:Int):=by unfold wrap64;have:=x7.out;omega);by_cases hlm:m<acw.length - 1
    ·have hcm:=(x4.out.trans hU.out).cell (aA.Z2 HH.out (show m+1<acw.length by omega))
     (have k1:(m:Int)+1<(acw.length:Int):=by omega);(have k2:(m:Int)<4:=by have:=x7.out;omega);(have vY:bits BinOp.and IntKind.i64 ((n:Int) / 2 ^ m) 1=if n.testBit m then 1 else 0:=by (have e:(n:Int) / 2 ^ m=((n / 2 ^ m:Nat):Int):=by simp);have:n / 2 ^ m<=n:=Nat.div_le_self _ _;rw [e,IP _ (by have:=PG.out;have:=bG.out;omega),KV]);obtain ⟨e1,e2⟩:=R7 acw n m (by omega);have jN:=aa e1;have ct:=aa e2;have IW:=aa hlm
     (have iu:Hid (((zl acw n m).map Value.string).length<=1000000/\((zm acw n m).map Value.string).length<=1000000):=by have a1:=kE (fun i=>n.testBit i) acw.tail m;have a2:=kE (fun i=>!n.testBit i) acw.tail m;have:=x7.out;unfold Hid zl zm;rw [aD,aD,aO];omega);have dm:Hid (wo.heap.size<=wi.heap.size):=hU.out.size;obtain ⟨ap,ac,rfl,-⟩:=hD.out.ao.form rfl;obtain ⟨bp,bc,rfl,-⟩:=hD.out.bo.form rfl;have AH:=aa hD.out;have xM:=aa hU.out;clear hD hU hlm e1 e2;cases hb:n.testBit m
     ·rw [hb] at vY jN ct
      have vY:bits BinOp.and IntKind.i64 ((n:Int) / 2 ^ m) 1=0:=vY;(have Sa:Hid (zl acw n (m+1)=zl acw n m):=by unfold Hid;rw [jN.out];simp);(have Sb:Hid (zm acw n (m+1)=zm acw n m++[gs acw (m+1)]):=by unfold Hid;rw [ct.out];simp);clear hb jN ct
      go_wp2_with (at_builtin;refine jH wi rfl _ _ 22 rfl wo.heap.size 9 (.string ⟨#[]⟩) 16 Tryz.underlying22 Tryz.jF rfl (by decide) AH.out.bo rfl (.string (gs acw (m+1))) rfl rfl _ rfl iu.out.2 dm.out ?_;intro g8 jl w8 dJ eN iV;have IU:=aa (AH.out.XT dJ eN iV);have qP:=aa (AH.out.bo.dX eN dm.out);clear dJ eN iV)
      go_roundw
      case rel=>exact ⟨m+1,IW.out,by go_num,by rw [Sa.out,Sb.out];have q:=IU.out;simp only [aD] at q ⊢;exact q,fc (show Below wo.heap.size wo wi from xM.out) qP.out⟩
      case measure=>have:=IW.out;simp [intOf];omega
     ·rw [hb] at vY jN ct
      have vY:bits BinOp.and IntKind.i64 ((n:Int) / 2 ^ m) 1=1:=vY;(have Sa:Hid (zl acw n (m+1)=zl acw n m++[gs acw (m+1)]):=by unfold Hid;rw [jN.out];simp);(have Sb:Hid (zm acw n (m+1)=zm acw n m):=by unfold Hid;rw [ct.out];simp);clear hb jN ct
      go_wp2_with (at_builtin;refine jH wi rfl _ _ 22 rfl wo.heap.size 9 (.string ⟨#[]⟩) 16 Tryz.underlying22 Tryz.jF rfl (by decide) AH.out.ao rfl (.string (gs acw (m+1))) rfl rfl _ rfl iu.out.1 dm.out ?_;intro g8 jl w8 dJ eN iV;have IU:=aa (AH.out.XS dJ eN iV);have qP:=aa (AH.out.ao.dX eN dm.out);clear dJ eN iV)
      go_roundw
      case rel=>exact ⟨m+1,IW.out,by go_num,by rw [Sa.out,Sb.out];have q:=IU.out;simp only [aD] at q ⊢;exact q,fc (show Below wo.heap.size wo wi from xM.out) qP.out⟩
      case measure=>have:=IW.out;simp [intOf];omega
    ·obtain rfl:m=acw.length - 1:=by omega
     rw [(K5 acw n).1,(K5 acw n).2] at hD;obtain ⟨ap,ac,rfl,-⟩:=hD.out.ao.form (n:=(eA acw n).length) (by rw [aD]);obtain ⟨bp,bc,rfl,-⟩:=hD.out.bo.form (n:=(eB acw n).length) (by rw [aD]);have HA1:=aa (CE.out _ wi _ hD.out.ao.strs);have pg:=aa hD.out.bo.strs;have xM:=aa hU.out;(have i9:¬((acw.length - 1:Nat):Int)+1<(acw.length:Int):=by omega);clear hD hU hlm hm kw;go_wp2_with fail;refine HA1.out.mono ?_;rintro e W1 ⟨bw,sa,rfl,vK⟩;have gT:=aa (jK.out _ W1 _ (av.keep pg.out (bw.kept _)));have E4:=aa bw
     clear bw HA1;go_wp2_with fail;refine gT.out.mono ?_;rintro e W2 ⟨aJ,sb,rfl,o8⟩;have hz1:=E4.out.size;have hz2:=aJ.size;have hz0:=xM.out.size;obtain ⟨lp,lc,rfl,-⟩:=vK.form (n:=(bK (eA acw n)).length) (by rw [aD]);obtain ⟨rp,rc,rfl,-⟩:=o8.form (n:=(bK (eB acw n)).length) (by rw [aD]);have jN:Hid (av (fun b=>wo.heap.size<=b/\b<W2.heap.size) W2 (.slice lp (bK (eA acw n)).length lc) (bK (eA acw n))):=(av.keep vK.strs (aJ.kept _)).sub fun b hb hl=>⟨by omega,hl⟩
     have ct:Hid (av (fun b=>wo.heap.size<=b/\b<W2.heap.size) W2 (.slice rp (bK (eB acw n)).length rc) (bK (eB acw n))):=o8.strs.sub fun b hb hl=>⟨by omega,hl⟩;have HW2:=aa ((xM.out.trans E4.out).trans aJ);have aaX:Hid (qU wo.heap.size w W2 W2 u3 (qT acw n++rI acw n 0)):=by (have e0:qT acw n++rI acw n 0=qT acw n:=by unfold rI;simp);rw [e0];have hzw:=x4.out.size;refine ⟨x4.out.trans HW2.out,⟨hzw,by omega,ah _⟩,Yy.out.iC fun b hb=>bH HW2.out b (aG Yy.out hb).2,fun b hb=>.inl (aG Yy.out hb).2,fun _ _ _=>rfl⟩
     clear vK o8 aJ hz0 hz1 hz2 gT pg E4 CE jK xM;go_wp2_with fail
     go_loopw [3,10,11] (fun o i _ wr=>∃k:Nat,k<=(bK (eA acw n)).length/\i=.int .i64 k/\Hid (qU wo.heap.size w W2 wr o (qT acw n++rI acw n k))) (fun _ i _ _=>(bK (eA acw n)).length - (intOf i).toNat)
     case atStart=>exact ⟨0,aI _,rfl,aaX.out⟩
     case round =>
      obtain ⟨k,hk,rfl,hA⟩:=hrel;obtain ⟨wp,rfl⟩:∃wp:World,wp=wr:=⟨_,rfl⟩;(have k0:(0:Int)<=(k:Int):=by omega);by_cases hlk:k<(bK (eA acw n)).length
      ·have k1:(k:Int)<((bK (eA acw n)).length:Int):=by omega
       (have k2:(k:Int)<16:=by have:=yO.out.1;omega);have Je:=aa hlk;have NW:=aa (R6 acw n hlk);have HZS:Hid ((gs (bK (eA acw n)) k).size<=100):=yO.out.2 k;have hEK:(rI acw n k).length<=225:=UK HE4.out.1 HE4.out.2;have HEK:=aa hEK;have HAA:=aa hA.out;clear hA hlk hEK;go_wp2_with fail
       go_loopw [3,11] (fun o i wr=>∃q:Nat,q<=(bK (eB acw n)).length/\i=.int .i64 q/\Hid (qU wo.heap.size w W2 wr o ((qT acw n++rI acw n k)++((bK (eB acw n)).take q).map fun t=>pairT (gs (bK (eA acw n)) k) t))) (fun _ i _=>(bK (eB acw n)).length - (intOf i).toNat)
       case atStart=>exact ⟨0,aI _,rfl,by rw [List.take_zero,List.map_nil,fM];exact HAA.out⟩
       case round =>
        obtain ⟨q,hq,rfl,hB⟩:=hrel;obtain ⟨wq,rfl⟩:∃wq:World,wq=wr:=⟨_,rfl⟩;(have q0:(0:Int)<=(q:Int):=by omega);by_cases K6:q<(bK (eB acw n)).length
        ·obtain ⟨ab,ao,rfl,hca⟩:=cA (hB.out.strs jN.out) Je.out
         obtain ⟨bb,bo,rfl,hcb⟩:=cA (hB.out.strs ct.out) K6;(have q1:(q:Int)<((bK (eB acw n)).length:Int):=by omega);(have q2:(q:Int)<16:=by have:=Ch.out.1;omega);have PI:=aa K6;(have lK:Hid (((bK (eB acw n)).take (q+1)).map (fun t=>pairT (gs (bK (eA acw n)) k) t)=((bK (eB acw n)).take q).map (fun t=>pairT (gs (bK (eA acw n)) k) t)++[pairT (gs (bK (eA acw n)) k) (gs (bK (eB acw n)) q)]):=by unfold Hid;rw [jo K6,cm];simp [gs,K6]);have z1:(gs (bK (eA acw n)) k).size<=100:=HZS.out
         have z2:(gs (bK (eB acw n)) q).size<=100:=Ch.out.2 q;obtain ⟨T,hT⟩:∃T,T=(qT acw n++rI acw n k)++((bK (eB acw n)).take q).map fun t=>pairT (gs (bK (eA acw n)) k) t:=⟨_,rfl⟩;have Co:Hid ((qT acw n++rI acw n k)++((bK (eB acw n)).take (q+1)).map (fun t=>pairT (gs (bK (eA acw n)) k) t)=T++[pairT (gs (bK (eA acw n)) k) (gs (bK (eB acw n)) q)]):=by unfold Hid;rw [lK.out,<- bZ,<- hT]
         (have uI:Hid (T.length<=1000000):=by have a1:=XX.out;have a2:=HEK.out;have a3:=Ch.out.1;unfold Hid;rw [hT];simp only [bg,aD,dD];omega);rw [<- hT] at hB;have PJ:=aa hB.out;obtain ⟨oq,oc,IX,-⟩:=hB.out.own.form (n:=T.length) (by rw [aD]);subst IX;generalize gs (bK (eA acw n)) k=sn at *;generalize gs (bK (eB acw n)) q=tm at *;clear hB K6 hT lK;(have y1:(9223372036854775807<1+sn.size)=False:=by simp;omega);have y2:(9223372036854775807<1+sn.size+1)=False:=by simp;omega
         (have y3:(9223372036854775807<1+sn.size+1+tm.size)=False:=by simp;omega);(have y4:(9223372036854775807<1+sn.size+1+tm.size+1)=False:=by simp;omega);go_wp2_with fail;refine eC (by kernel_rfl) 15 (fun w'=>w'.cell? ⟨ab,ao+k,none⟩=some (.string sn)/\w'.cell? ⟨bb,bo+q,none⟩=some (.string tm)) ⟨hca,hcb⟩ (fun hS=>?_);simp only [fo,aO,dz,Nat.reduceAdd,ic,ig,fk,cw,bz];refine af.tk 0 hS ?_;try simp only [Act.put,aj,aq,au]
         refine af.tk 1 hS ?_;(try simp only [Act.put,aj,aq,au]);refine af.tk 2 hS ?_;(try simp only [Act.put,aj,aq,au]);refine af.tk 3 hS ?_;(try simp only [Act.put,aj,aq,au]);refine af.tk 4 hS ?_;(try simp only [Act.put,aj,aq,au]);refine af.tk 5 hS ?_;(try simp only [Act.put,aj,aq,au]);refine af.tk 6 hS ?_
         (try simp only [Act.put,aj,aq,au]);refine af.tk 7 hS ?_;(try simp only [Act.put,aj,aq,au]);refine af.tk 8 hS ?_;(try simp only [Act.put,aj,aq,au]);refine af.tk 9 hS ?_;(try simp only [Act.put,aj,aq,au]);refine af.tk 10 hS ?_;(try simp only [Act.put,aj,aq,au]);refine af.tk 11 hS ?_
         (try simp only [Act.put,aj,aq,au]);refine af.tk 12 hS ?_;(try simp only [Act.put,aj,aq,au]);refine af.step (i:=13) rfl (by kernel_rfl) (fun K' hK=>?_);go_simp;have bq:=(Up.alloc wq (.cells #[.string (pairT sn tm)] 9)).trans (Up.drewN _ 1);have hAT:=PJ.out.next bq;have aaY:=aa (And.intro (bq.cell hca) (bq.cell hcb));have aaZ:=aa (yu wq (.string (pairT sn tm)) 9);have uL:=aa hAT;clear bq hAT;refine hK.out _ _ (fun _=>aaY.out) (fun hS=>?_)
         replace hS:=hS ⟨14,by decide,rfl⟩;(try simp only [aj,aq,au]);refine af.step (i:=14) rfl (by kernel_rfl) (fun K' hK=>?_);refine gN (by rfl) _ _ _ (by rfl) w.heap.size 9 _ 16 Tryz.underlying22 Tryz.jF (by rfl) (by decide) (by rfl) uL.out.own (.string (pairT sn tm)) wq.heap.size (by rfl) aaZ.out (by rfl) (by rw [aD];exact uI.out) (by obtain ⟨z1,z2,z3⟩:=uL.out.sz;exact aR z1 (aR z2 z3)) ?_;intro g8 c8 w8 uz hg8 hr8 _;have Aw:=uL.out.app uz hg8 (hr8.imp id fun e=>gQ e.symm)
         have Xd:=aa Aw;clear uz hg8 hr8 Aw;refine hK.out _ _ (aS (by kernel_rfl)) (fun _=>?_);(try simp only [Act.put,aj,aq,au]);refine af.step (i:=15) rfl (by kernel_rfl) (fun K' hK=>?_);go_simp;refine hK.out _ _ (aS (by kernel_rfl)) (fun _=>?_);refine af.done (by kernel_rfl) ?_;go_wp2_with fail
         go_roundw
         case rel=>exact ⟨q+1,PI.out,by go_num,by rw [Co.out];have h:=Xd.out;rw [aD] at h;exact h⟩
         case measure=>have:=PI.out;simp [intOf];omega
        ·obtain rfl:q=(bK (eB acw n)).length:=by omega
         (have PJ:Hid (qU wo.heap.size w W2 wq u3 (qT acw n++rI acw n (k+1))):=by have h:=hB.out;rw [eT] at h;unfold Hid;rw [NW.out,<- bZ];exact h);clear hB K6;go_wp2_with fail
         go_roundw
         case rel=>exact ⟨k+1,Je.out,by go_num,PJ.out⟩
         case measure=>have:=Je.out;simp [intOf];omega
      ·obtain rfl:k=(bK (eA acw n)).length:=by omega
       (have PJ:Hid (Yx w acw (n+1) u3 wp):=by have h:=hA.out;rw [UJ,<- R5] at h;exact ⟨h.up,h.own⟩);clear hA hlk;go_wp2_with fail
       go_roundw
       case rel=>exact ⟨n+1,bG.out,by go_num,PJ.out⟩
       case measure=>have:=bG.out;simp [intOf];omega
  ·obtain rfl:n=M - 1:=by omega
   (have i1:¬((M - 1:Nat):Int)<((M - 1:Nat):Int):=by omega);(have iZ:Hid (wj w acw (.returned u3) wo):=by refine ⟨lR,_,rfl,?_⟩;(have e:bK acw=qT acw (M - 1):=by rw [Yu h2,HM.out];rfl);rw [e];exact Tz);clear hI lR Tz hlt;go_wp2_with fail;go_ret;exact iZ.out
def TA (acw:List ByteArray) (k:Nat):Int:=iW (acw.take k) (gs acw k)
theorem UN (acw:List ByteArray) {k:Nat} (hk:k<acw.length):dW acw k=decide (0<=TA acw k):=by
 unfold TA;have h1:0<=iW (acw.take k) (gs acw k)↔∃j,j<(acw.take k).length/\gs (acw.take k) j=gs acw k:=zR;have h2:dW acw k=true↔∃j,j<k/\gs acw j=gs acw k:=by
  unfold dW;rw [eF];constructor
  ·rintro ⟨j,hj,h⟩;exact ⟨j,cU.1 hj,of_decide_eq_true h⟩
  ·rintro ⟨j,hj,h⟩;exact ⟨j,cU.2 hj,decide_eq_true h⟩
 have h3:(∃j,j<(acw.take k).length/\gs (acw.take k) j=gs acw k)↔∃j,j<k/\gs acw j=gs acw k:=by
  have hl:(acw.take k).length=k:=by rw [dD];omega
  rw [hl];constructor
  ·rintro ⟨j,hj,h⟩;exact ⟨j,hj,by rw [<- h];simp [gs,hj]⟩
  ·rintro ⟨j,hj,h⟩;exact ⟨j,hj,by rw [<- h];simp [gs,hj]⟩
 by_cases e:dW acw k=true
 ·rw [e,decide_eq_true (h1.2 (h3.2 (h2.1 e)))]
 ·rw [Bool.not_eq_true] at e
  rw [e,decide_eq_false fun h=>by rw [h2.2 (h3.1 (h1.1 h))] at e;cases e]
theorem CM (S:Nat->Prop) (w:World) (v:Value) (acw:List ByteArray) (h:av S w v acw) (hn:acw.length<=1000000) (hz:∀k,(gs acw k).size<=70000) :
  Calls Tryz.prog 112 #[v] w fun e w'=>e=.returned (.int .i64 (dK acw))/\Up w w':=by
 obtain ⟨p,cap,rfl,hcap,_⟩:=aA.open h;have h:av S w (.slice p acw.length cap) acw:=h;have HC:Hid (dK acw=if acw.length<2\/7<acw.length then 4 else dF (eE acw) acw.length):=rfl;have HN:=aa h;have HZ:=aa hz;clear h hz;by_cases h1:acw.length<2
 ·go_enter Tryz.func112,Tryz.ntmps112
  go_wp2_with fail;go_ret;exact ⟨aN (by rw [HC.out,if_pos (.inl h1)]),Up.refl _⟩
 by_cases h2:7<acw.length
 ·go_enter Tryz.func112,Tryz.ntmps112
  go_wp2_with fail;go_ret;exact ⟨aN (by rw [HC.out,if_pos (.inr h2)]),Up.refl _⟩
 have HF:Hid (dK acw=dF (eE acw) acw.length):=by unfold Hid;rw [HC.out,if_neg (by omega)]
 clear HC;have CA:Hid (∀k,k<acw.length->(∀j,j<k->eE acw j=0)->eE acw k≠0->dK acw=eE acw k):=fun k hk hj h0=>by rw [HF.out,gA hk hj h0]
 go_enter Tryz.func112,Tryz.ntmps112
 go_wp2_with fail
 go_loopw [3] (fun i wr=>∃k:Nat,k<=acw.length/\i=.int .i64 k/\Hid (Up w wr/\∀j,j<k->eE acw j=0)) (fun i _=>acw.length - (intOf i).toNat)
 case atStart=>exact ⟨0,aI _,rfl,Up.refl _,fun j hj=>absurd hj (bS _)⟩
 case round =>
  obtain ⟨k,hk,rfl,hd⟩:=hrel;obtain ⟨wo,rfl⟩:∃wo:World,wo=wr:=⟨_,rfl⟩;by_cases hlt:k<acw.length
  ·have IA:=av.keep HN.out (hd.out.1.kept S)
   obtain ⟨Tj,no,rfl,hc⟩:=cA IA hlt;have jY:=aa (PA (gs acw k) (HZ.out k) wo);have Ku:Hid (∀W,Up wo W->∀m,Calls Tryz.prog 143 #[.slice (some ⟨Tj,no,none⟩) k cap,.string (gs acw k)] (W.drewN m) fun e w''=>e=.returned (.int .i64 (TA acw k))/\∃m',w''=W.drewN m'):=fun W hW m=>by
    have h1:=Ez (av.keep IA ((hW.trans (Up.drewN _ m)).kept S)) hk;(have h2:av S (W.drewN m) (.slice (some ⟨Tj,no,none⟩) k cap) (acw.take k):=by (have hl:(acw.take k).length=k:=by rw [dD];omega);(have h3:=h1.congr (g:=fun j=>.string (gs (acw.take k) j)) fun j hj=>by simp [gs,hj]);unfold av;rw [hl];exact h3);exact (ME S (W.drewN m) _ (acw.take k) (gs acw k) h2 (by rw [dD];omega)).mono fun e w' ⟨h4,h5⟩=>⟨h4,m,h5.symm⟩
   have DT:=aa (UN acw hlt);have IB:=aa (CA.out k hlt hd.out.2);have IC:Hid (eE acw k=if bu (gs acw k).data.toList then (if dW acw k then 7 else 0) else 14):=rfl;generalize TA acw k=ix at *;generalize gs acw k=nm at *;generalize dW acw k=bs at *;generalize bu nm.data.toList=bn at *;clear IA;cases bn
   ·have HE:Hid (eE acw k=14):=IC.out
    go_wp2_with fail;refine jY.out.mono ?_;rintro e w1 ⟨rfl,bw⟩;have b9:=aa (hd.out.1.trans bw);clear bw;go_wp2_with fail;go_ret;exact ⟨aN ((IB.out (by rw [HE.out];decide)).trans HE.out).symm,b9.out⟩
   ·cases bs
    ·have HE:Hid (eE acw k=0):=IC.out
     go_wp2_with fail;refine jY.out.mono ?_;rintro e w1 ⟨rfl,bw⟩;have b9:=aa (hd.out.1.trans bw);have Bp:=aa (Ku.out w1 bw);have hc1:=(show Up wo w1 from bw).cell hc;(have d9:decide (0<=ix)=false:=by have:=DT.out;simp at this;simp;omega);clear bw;go_wp2_with fail;(go_quiet (with_reducible exact Bp.out _));go_wp2_with fail
     go_roundw
     case rel=>exact ⟨k+1,by omega,by go_num,b9.out.trans (Up.drewN _ _),fun j hj=>if e:j=k then by subst e;exact HE.out else hd.out.2 j (by omega)⟩
     case measure=>simp [intOf];omega
    ·have HE:Hid (eE acw k=7):=IC.out
     go_wp2_with fail;refine jY.out.mono ?_;rintro e w1 ⟨rfl,bw⟩;have b9:=aa (hd.out.1.trans bw);have Bp:=aa (Ku.out w1 bw);have hc1:=(show Up wo w1 from bw).cell hc;(have d9:decide (0<=ix)=true:=by have:=DT.out;simp at this;simp;omega);clear bw;go_wp2_with fail;(go_quiet (with_reducible exact Bp.out _));go_wp2_with fail;go_ret;exact ⟨aN ((IB.out (by rw [HE.out];decide)).trans HE.out).symm,b9.out.trans (Up.drewN _ _)⟩
  ·obtain rfl:k=acw.length:=by omega
   (have rC:Hid (dK acw=0):=by unfold Hid;rw [HF.out,ey hd.out.2]);go_wp2_with fail;go_ret;exact ⟨aN rC.out.symm,hd.out.1⟩
end
end Go.Proofs.YthgabkgmkolobaaGreat
