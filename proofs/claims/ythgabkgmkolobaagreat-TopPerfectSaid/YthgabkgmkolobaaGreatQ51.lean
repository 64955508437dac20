/- The law of TopPerfect: the characters. -/
import Derived.Test.YthgabkgmkolobaaGreatQ50
set_option maxRecDepth 100000
set_option maxHeartbeats 8000000
namespace Go.Proofs.YthgabkgmkolobaaGreat
open Go.RowKit Go.Deep
theorem tpIn_d (S T:Nat->Prop) (w:World) (bx:Nat) (v vs:Value) (x s:List Int) (hb:w.cell? ⟨bx,0,none⟩=some vs) (hs:ah S w vs s) (h:ah T w v x) (hn:x.length<=1000000) (hm:s.length<=1000000) :
  Hj 23 #[.pointer (some ⟨bx,0,none⟩)] #[v] (.bool (decide (x=s))) w:=by
 intro d;show Calls Tryz.prog 23 #[v,.pointer (some ⟨bx,0,none⟩)] (w.drewN d) _;have hd:=Up.drewN w d;have HC:=aa (uU T S (w.drewN d) v vs x s (ah.keep h (hd.kept _)) (ah.keep hs (hd.kept _)) hn hm);have c1:=hd.cell hb;obtain ⟨p,cap,rfl,-,-⟩:=ay.open h;obtain ⟨q,E8,rfl,-,-⟩:=ay.open hs;obtain ⟨W,hW⟩:∃W,W=w.drewN d:=⟨_,rfl⟩;have HW:=aa hW;rw [<- hW] at c1 HC ⊢;clear hd hb h hs hW
 go_enter Tryz.func23,Tryz.ntmps23
 go_wp2_with fail;refine HC.out.mono ?_;rintro e w' ⟨rfl,m,rfl⟩;go_wp2_with fail;go_ret;rw [HW.out];exact ⟨rfl,Gc ⟨d,rfl⟩ ⟨m,rfl⟩⟩
theorem gl_far34 {l:List (List Int)} {k:Nat} (h:l.length<=k):gl l k=[]:=by unfold gl;rw [kD,vh h];rfl
theorem SS {base m:Nat} {T:TypeId} {w W:World} {d u:Value} {xs:List (List Int)} {y:List Int} (h:nQ base T w d xs) (hm:w.heap.size<=m) (hr:ah (fun b=>m<=b) W u y):ah (fun b=>some b≠d.ownBlock) W u y:=by
 obtain ⟨vals,_,ho,_⟩:=h;exact hr.sub fun b hb _ e=>by have:=(av ho e.symm).2;omega
theorem Tryz.infoSIq:(Tryz.prog.info? 26).map (fun i=>(i.zero,i.size,i.bytes))=some (some (.slice none 0 0),1,24):=by kernel_rfl
theorem Yj (w:World) (v vs:Value) (aac:List ByteArray) (aad:List (List Int)) (h:au Any w v aac) (hS:aR Any w vs aad)
  (hn:aac.length<=9223372036854775807) (hz:∀k,(gs aac k).size<=9223372036854775807) (hm:aad.length<=9223372036854775807) (hr:∀k,(gl aad k).length<=9223372036854775807) :
  Calls Tryz.prog 3 #[v,vs] w fun e w'=>e=.returned (.bool true)/\Up w w':=by
 obtain ⟨p,cap,rfl,hcap,-⟩:=ay.open h;have h:au Any w (.slice p aac.length cap) aac:=h;obtain ⟨sp,sc,rfl,-,-⟩:=dW hS;have tC:=aa (Z9 Any Any w _ _ aac aad h hS hn hz hm hr);have Aa:Hid (∀W,Calls Tryz.prog 13 #[] W fun e w'=>e=.returned (.bool true)/\Up W w'):=WI;have W9:Hid (qf aac aad=true->WE aac aad/\Px aac aad):=WG;have HH:=aa h;have HS:=aa hS;clear h hS hz hr hn hm
 go_enter Tryz.func3,Tryz.ntmps3
 go_wp2_with fail;refine tC.out.mono ?_;rintro e w1 ⟨rfl,bA⟩;have cA:=aa bA;clear tC bA;cases hf:qf aac aad
 ·clear hf W9
  go_wp2_with fail;refine (Aa.out _).mono ?_;rintro e w' ⟨rfl,dX⟩;go_wp2_with fail;go_ret;exact ⟨rfl,cA.out.trans dX⟩
 have sK:=aa (W9.out hf);clear hf W9;have hc:=sK.out.1.cs;have hnm:=hc.nm;have uv:=hnm.hi;have hnl:=hnm.lo;have HC:=aa hc;have iu:=aa (And.intro hnl uv);have HZ:Hid (∀k,(gs aac k).size<=70000):=fun k=>aJ (lF (M:=20) (fun x hx=>tT (hnm.nm x hx)) k) (by decide);have gH:Hid (aad.length=aac.length/\0<aad.length/\aad.length<=5/\(gl aad 0).length<=6/\∀k,k<aad.length->(gl aad k).length=(gl aad 0).length) :=
  ⟨hc.len,by have:=hc.len;omega,by have:=hc.len;omega,sK.out.1.wd,fun k hk=>((yM hc.ag).2 k hk).1⟩
 have lN:=aa (aR.keep HS.out (cA.out.kept _));obtain ⟨sb,so,r0,r1,rfl,hc0,-⟩:=gP lN.out gH.out.2.1;rw [jZ] at hc0;have i1:(0:Int)<(aad.length:Int):=by have:=gH.out.2.1;omega
 clear hc hnm uv hnl sK;go_wp2_with fail;have l6:(gl aad 0).length<=6:=gH.out.2.2.2.1
 go_loopw [5,6,7,8,10,11,12,13,40,45] (fun l _ _ _ _ _ _ _ i _ wr=>∃n:Nat,n<=(gl aad 0).length/\i=.int .i64 n/\Hid (nQ w1.heap.size 26 wr l (jN aad n))/\Hid (Up w1 wr)/\Hid (∀p,p<n->(-1:Int)∉bg aad p/\(dd (bg aad p)).length<=2)) (fun _ _ _ _ _ _ _ _ i _ _=>(gl aad 0).length - (intOf i).toNat)
 case atStart=>exact ⟨0,aL _,rfl,nQ.nil _ _ _,Up.refl _,fun p hp=>absurd hp (bG _)⟩
 case round =>
  obtain ⟨n,hn,rfl,hL,hU,hd⟩:=hrel;obtain ⟨wo,rfl⟩:∃wo:World,wo=wr:=⟨_,rfl⟩;by_cases hlt:n<(gl aad 0).length
  ·have i2:(0:Int)<=(n:Int):=by omega
   (have i3:(n:Int)<((gl aad 0).length:Int):=by omega);have bu:=aa hlt;have LB:=hU.out.size;clear hc0 hlt;go_wp2_with fail
   go_loopw [7,8,10,45] (fun a b _ k wr=>∃j:Nat,j<=aad.length/\k=.int .i64 j/\Hid (yz wo.heap.size wr a b ((bg aad n).take j) (kF ((bg aad n).take j)))/\Hid (Up wo wr)) (fun _ _ _ k _=>aad.length - (intOf k).toNat)
   case atStart=>exact ⟨0,aL _,rfl,yz.start _ _,Up.refl _⟩
   case round =>
    obtain ⟨j,hj,rfl,hA,dY⟩:=hrel;obtain ⟨wi,rfl⟩:∃wi:World,wi=wr:=⟨_,rfl⟩;obtain ⟨⟨ap,ac,rfl⟩,bp,bc,rfl⟩:=hA.out.shape;by_cases hlj:j<aad.length
    ·obtain ⟨rb,ro,q0,q1,er,K3,hir⟩:=gP lN.out hlj
     injection er with er;injection er with er1 er2;subst er1;subst er2;rw [gH.out.2.2.2.2 j hlj] at K3;obtain ⟨yb,yo,rfl,hcy⟩:=dG hir (k:=n) (by rw [gH.out.2.2.2.2 j hlj];exact bu.out);have HCY:=aa hcy;replace hcy:=(hU.out.trans dY.out).cell hcy;replace K3:=(hU.out.trans dY.out).cell K3;have hsz2:=dY.out.size;(have oy:Hid ((bg aad n).take (j+1)=(bg aad n).take j++[gi (gl aad j) n]):=by unfold Hid;rw [ZZ (by rw [gC];exact hlj),r7 _ _ hlj]);have GN:=aa (GA ((bg aad n).take j) (gi (gl aad j) n));have Di:=aa hlj
     (have k1:(0:Int)<=(j:Int):=by omega);(have k2:(j:Int)<(aad.length:Int):=by omega);(have k3:(j:Int)<64:=by have:=gH.out;omega);(have zi:Hid (((bg aad n).take j).length<=5/\(kF ((bg aad n).take j)).length<=5):=by (have h1:((bg aad n).take j).length<=5:=by rw [gV,gC];have:=gH.out;omega);exact ⟨h1,aJ (seenL_le _) h1⟩);generalize gi (gl aad j) n=y at *;generalize (bg aad n).take j=own at *;generalize ud:kF own=seen at *;clear hir hlj ud;have WQ:Hid ((own.map (Value.int .i64)).length=own.length):=aG _
     have CR:Hid ((seen.map (Value.int .i64)).length=seen.length):=aG _;(have hl5:own.length<=1000000:=by have:=zi.out;omega);have hs5:seen.length<=1000000:=by have:=zi.out;omega
     go_wp2_with (at_builtin;refine jI wi rfl _ _ 26 rfl wo.heap.size 3 (.int .i64 0) 8 Tryz.underlying26 Tryz.kE rfl (by decide) hA.out.oa rfl (.int .i64 y) rfl rfl _ WQ.out hl5 hsz2 ?_;intro g8 oz w8 fH ic jJ;have NW:=aa (hA.out.appA fH ic jJ);have qQ:Hid (Up wo w8):=iH dY.out (hA.out.oa.fE ic hsz2);have hcy8:=(hU.out.trans qQ.out).cell HCY.out;clear fH ic jJ);have oU:=aa (tY (fun b=>wo.heap.size<=b) w8 _ seen y (Lt NW.out.ob) hs5);rw [SC] at oU;go_wp2_with fail;refine oU.out.mono ?_
     rintro e w9 ⟨rfl,rfl⟩;have hsz3:wo.heap.size<=w8.heap.size:=qQ.out.size;by_cases hy:y∈seen
     ·have HA9:Hid (yz wo.heap.size w8 (.slice (some ⟨g8,0,none⟩) (own.length+1) oz) (.slice bp seen.length bc) (own++[y]) (kF (own++[y]))):=by unfold Hid;rw [GN.out,if_pos hy];exact NW.out
      rw [decide_eq_true hy];clear hy oU hcy8 hsz3;go_wp2_with fail
      go_roundw
      case rel=>exact ⟨j+1,Di.out,by go_num,by rw [oy.out];exact HA9,qQ⟩
      case measure=>have:=Di.out;simp [intOf];omega
     ·rw [decide_eq_false hy]
      (have Qr:Hid (kF (own++[y])=seen++[y]):=by unfold Hid;rw [GN.out,if_neg hy]);clear hy oU;go_wp2_with (at_builtin;refine jI w8 rfl _ _ 26 rfl wo.heap.size 3 (.int .i64 0) 8 Tryz.underlying26 Tryz.kE rfl (by decide) NW.out.ob rfl (.int .i64 y) rfl rfl _ CR.out hs5 hsz3 ?_;intro g9 cap9 w9 AB DY UN;have HA9:=aa (NW.out.appB AB DY UN);have zX:Hid (Up wo w9):=iH qQ.out (NW.out.ob.fE DY hsz3);clear AB DY UN)
      go_roundw
      case rel=>exact ⟨j+1,Di.out,by go_num,by rw [oy.out,Qr.out];exact HA9,zX⟩
      case measure=>have:=Di.out;simp [intOf];omega
    ·obtain rfl:j=aad.length:=by omega
     (have htk:(bg aad n).take aad.length=bg aad n:=by rw [<- gC aad n,gh]);rw [htk] at hA ⊢;have qT:Hid ((bg aad n).length<=5/\(kF (bg aad n)).length=(dd (bg aad n)).length):=⟨by rw [gC];exact gH.out.2.2.1,SB _⟩;have Hi:Hid (mO (bg aad n)=0):=col_err34 HC.out bu.out;(have Lg:Hid (Xe (bg aad n)=tJ (bg aad n)):=by unfold Hid Xe;rw [Hi.out];rfl);have HOR:Hid (tJ (bg aad n)=true->osR (bg aad n)=ij (bg aad n) (bg aad n).length):=fun h=>by unfold osR;rw [if_pos ⟨Hi.out,h⟩]
     have Rq:Hid (jN aad (n+1)=jN aad n++if tJ (bg aad n)=true then [ij (bg aad n) (bg aad n).length] else []):=rfl;have fN:Hid ((jN aad n).length<=6):=aJ (PW aad n) (by omega);(have HDN:Hid ((-1:Int)∉bg aad n->(dd (bg aad n)).length<=2->∀p,p<n+1->(-1:Int)∉bg aad p/\(dd (bg aad p)).length<=2):=fun h1 h2 p hp=>if e:p=n then by subst e;exact ⟨h1,h2⟩ else hd.out p (by omega));have HOI:=aa (Lt hA.out.oa);have K5:=aa (hU.out.trans dY.out);have Vj:=aa dY.out;clear hlj hj htk hA dY;generalize bg aad n=st at *
     (have hst5:st.length<=1000000:=by have:=qT.out.1;omega);by_cases c2:2<(kF st).length
     ·have i9:(2:Int)<((kF st).length:Int):=by omega
      have d9:decide ((2:Int)<((kF st).length:Int))=true:=decide_eq_true i9;clear c2;go_wp2_with fail;refine (Aa.out _).mono ?_;rintro e w' ⟨rfl,dX⟩;go_wp2_with fail;go_ret;exact ⟨rfl,(cA.out.trans K5.out).trans dX⟩
     ·have i9:¬(2:Int)<((kF st).length:Int):=by omega
      have d9:decide ((2:Int)<((kF st).length:Int))=false:=decide_eq_false i9;(have HD2:Hid ((dd st).length<=2):=by unfold Hid;rw [<- qT.out.2];omega);have oU:=aa (tY (fun b=>wo.heap.size<=b) wi _ st (-1) HOI.out hst5);rw [SC] at oU;clear c2;generalize (kF st).length=sl at *;go_wp2_with fail;refine oU.out.mono ?_;rintro e w9 ⟨rfl,rfl⟩;by_cases wV:(-1:Int)∈st
      ·rw [decide_eq_true wV]
       clear wV oU;go_wp2_with fail;refine (Aa.out _).mono ?_;rintro e w' ⟨rfl,dX⟩;go_wp2_with fail;go_ret;exact ⟨rfl,(cA.out.trans K5.out).trans dX⟩
      ·rw [decide_eq_false wV]
       have HDX:=aa (HDN.out wV HD2.out);have HOS:=aa (Yh _ wi _ st HOI.out hst5);unfold PX at HOS;rw [Hi.out,Lg.out] at HOS;clear wV oU HDN;go_wp2_with fail;refine HOS.out.mono ?_;rintro e w2 ⟨aK,ov,rfl,dD⟩;obtain ⟨op',oc',rfl,-,-⟩:=ay.open dD;have E3:=aa (hL.out.kept (Vj.out.trans aK));have bD:=aa (K5.out.trans aK);have HU1':Hid (w1.heap.size<=w2.heap.size):=bD.out.size;cases Bz:tJ st
       ·have xN:Hid (jN aad (n+1)=jN aad n):=by unfold Hid;rw [Rq.out,Bz];simp
        clear Bz aK dD HOS Rq HOR;go_wp2_with fail
        go_roundw
        case rel=>exact ⟨n+1,bu.out,by go_num,by rw [xN.out];exact E3,bD,HDX⟩
        case measure=>have:=bu.out;simp [intOf];omega
       ·have xN:Hid (jN aad (n+1)=jN aad n++[ij st st.length]):=by unfold Hid;rw [Rq.out,Bz,if_pos rfl]
        have EA:=HOR.out Bz;have FB:=aa (SS hL.out Vj.out.size dD);rw [EA] at FB ⊢;(have HP6:Hid ((jN aad n).length<=1000000):=by unfold Hid;have:=fN.out;omega);have hp6:=HP6.out;have I9:=HU1'.out;clear Bz aK dD HOS Rq HOR EA;generalize ij st st.length=row at *;go_wp2_with (at_builtin;refine SR w2 rfl _ _ 23 rfl w1.heap.size 26 _ 24 Tryz.underlying23 Tryz.infoSIq rfl (by decide) E3.out rfl _ row rfl FB.out rfl _ rfl hp6 I9 ?_;intro g9 cap9 w9 AB hg9 hbe9)
        (have HL9:Hid (nQ w1.heap.size 26 w9 (.slice (some ⟨g9,0,none⟩) ((jN aad n).length+1) cap9) (jN aad (n+1))):=by unfold Hid;rw [xN.out];exact AB);have zX:Hid (Up w1 w9):=iH bD.out hbe9;clear AB hg9 hbe9
        go_roundw
        case rel=>exact ⟨n+1,bu.out,by go_num,HL9,zX,HDX⟩
        case measure=>have:=bu.out;simp [intOf];omega
  ·obtain rfl:n=(gl aad 0).length:=by omega
   have xB:Hid (uC aac aad):=⟨HC.out,fun p hp=>Yi HC.out hp (hd.out p hp).1,fun p hp=>(hd.out p hp).2⟩;have fN:Hid ((jN aad (gl aad 0).length).length<=6):=aJ (PW aad _) l6;have HLR:=aa hL.out.rows;have jw:=aa (cA.out.trans hU.out);clear hlt hn hd hL hU hc0;have zg:Hid (∀k,(gl (jN aad (gl aad 0).length) k).length<=1000000):=fun k=>by
    by_cases hk:k<(jN aad (gl aad 0).length).length
    ·obtain ⟨q,hq,_,e⟩:=Bd.1 (oM hk)
     rw [e];refine aJ (rS _ _) ?_;rw [gC];have:=gH.out.2.2.1;omega
    ·have e0:gl (jN aad (gl aad 0).length) k=[]:=gl_far34 (by omega)
     rw [e0];exact aL _
   have HAE:Hid (jM (aac.length:Int) (jN aad (gl aad 0).length)=0):=(pf_all xB.out).resolve_right (by have:=fN.out;omega);have GG:Hid (DB (jN aad (gl aad 0).length)=(cB aac aad==lI aad)):=by unfold Hid DB;rw [lR,decide_eq_true_eq,beq_iff_eq];exact ⟨fun h=>(pf_comp xB.out (by have:=fN.out;omega) h).2.2.2.2,fun h=>pf_back xB.out h⟩
   (have Ni:Hid (cB aac aad=lI aad->jL aac (jN aad (gl aad 0).length)=0/\dK (iz aac (jN aad (gl aad 0).length)) aac/\cW (iz aac (jN aad (gl aad 0).length)) aac=oH (jN aad (gl aad 0).length)/\bz (iz aac (jN aad (gl aad 0).length)) aac aad=cB aac aad):=fun h=>by obtain ⟨h1,h2,h3,h4,_⟩:=pf_comp xB.out (by have:=fN.out;omega) (pf_back xB.out h);exact ⟨h1,h2,h3,h4⟩);have Fb:=aa (OQ HC.out);have HBI:=aa (Ed HC.out);have hce:=(vJ HC.out.nm.hi).2 HC.out;have hag:=HC.out.ag
   clear l6 xB;generalize jN aad (gl aad 0).length=L at *;obtain ⟨lp,lc,rfl,-,-⟩:=dW HLR.out;have kM:=aa (all_t Any wo _ (aac.length:Int) L HLR.out (by have:=fN.out;omega) zg.out);rw [HAE.out,(Z8 HAE.out).2.2,GG.out] at kM
   have y7:Hid (aad.length<=1000000/\∀k,(gl aad k).length<=1000000):=⟨by have:=gH.out;omega,fun k=>by
    by_cases hk:k<aad.length
    ·have:=gH.out.2.2.2.2 k hk;have:=gH.out.2.2.2.1;omega
    ·have:gl aad k=[]:=by simp [gl,hk]
     rw [this];simp⟩
   generalize WC (aac.length:Int) L=ap at *;generalize WD (aac.length:Int) L=aq at *;go_wp2_with fail;refine kM.out.mono ?_;rintro e w3 ⟨rfl,dQ⟩;have eo:=aa (jw.out.trans dQ);have HL3:=aa (HLR.out.keep (dQ.kept _));have qb:=aa (yg Any w3 _ _ aac aad (au.keep HH.out (eo.out.kept _)) (by have:=iu.out;omega) HZ.out (aR.keep HS.out (eo.out.kept _)) y7.out.1 y7.out.2 (.inl iu.out.2));unfold yf rR l5 at qb;rw [hce,if_pos rfl,if_pos rfl] at qb;clear dQ kM jw HLR;go_wp2_with fail;refine qb.out.mono ?_;rintro e w4 ⟨di,v4,rfl,ht4⟩
   obtain ⟨p4,c4,rfl,-⟩:=iM ht4;have kX:=aa (eo.out.trans di);have Fi:=aa (HL3.out.keep (di.kept _));have Fe:=aa (JH Any w4 _ aad (aR.keep HS.out (kX.out.kept _)) y7.out.1 y7.out.2);unfold JG at Fe;rw [show Ms aad=lI aad by unfold Ms;rw [if_pos hag],show Mr aad=0 by unfold Mr;rw [if_pos hag]] at Fe;clear di ht4 qb eo HL3 hce hag;go_wp2_with fail;refine Fe.out.mono ?_;rintro e w5 ⟨rfl,ey⟩;have iw:=aa (kX.out.trans ey);have Sj:=aa (Fi.out.keep (ey.kept _));have hbl:lI aad<=cB aac aad:=HBI.out
   have hbp:0<(eE aac aad).length:=Fb.out.1;(have hb0:((eE aac aad).length:Int)≠0:=by omega);have b1:(((eE aac aad).length:Int)==0)=false:=beq_eq_false_iff_ne.2 hb0;(have xe:¬cB aac aad<lI aad:=by omega);have b2:decide (cB aac aad<lI aad)=false:=decide_eq_false xe;clear ey Fe kX Fi Fb HBI hbp hbl;by_cases hcb:cB aac aad=lI aad
   ·have Lu:=aa (Ni.out hcb)
    have b3:(cB aac aad==lI aad)=true:=beq_iff_eq.2 hcb;rw [b3];have gI:Hid (L.length<=1000000/\L.length<=6):=⟨by have:=fN.out;omega,fN.out⟩;have kP:=aa (ZQ Any w5 _ _ aac L (au.keep HH.out (iw.out.kept _)) Sj.out (by have:=iu.out;omega) HZ.out gI.out.1 zg.out);unfold Jz at kP;rw [Lu.out.1] at kP;have xC:Hid (∀W v,Up w W->aI Any W v (iz aac L)->Calls Tryz.prog 21 #[v,.slice p aac.length cap,.slice (some ⟨sb,so,none⟩) aad.length sc] W fun e w'=>Up W w'/\e=.returned (.tuple #[.int .i64 (cB aac aad),.int .i64 0])):=fun W v hW ht=>by
     obtain ⟨z1,z2,z3⟩:=yw Lu.out.2.1 HZ.out;have h:=Gk Any W v _ _ _ aac aad ht z1 z2 z3 (au.keep HH.out (hW.kept _)) (by have:=iu.out;omega) HZ.out (aR.keep HS.out (hW.kept _)) y7.out.1 y7.out.2 (.inl iu.out.2);unfold tI at h;obtain ⟨s1,s2,_⟩:=PR HC.out Lu.out.2.1;rw [s2,s1,Lu.out.2.2.2] at h;exact h
    have oC:Hid (∀W v,Up w W->aI Any W v (iz aac L)->Calls Tryz.prog 20 #[v,.slice p aac.length cap] W fun e w'=>Up W w'/\∃u,e=.returned (.tuple #[u,.int .i64 0])/\aR Any w' u (oH L)):=fun W v hW ht=>by obtain ⟨z1,z2,z3⟩:=yw Lu.out.2.1 HZ.out;have h:=PJ Any W v _ _ aac ht (au.keep HH.out (hW.kept _)) z1 z2 z3 (by have:=iu.out;omega);unfold OH at h;rw [kV.2 Lu.out.2.1,Lu.out.2.2.1] at h;exact h
    (have HOX:Hid ((oH L).length<=1000000/\∀k,(gl (oH L) k).length<=1000000):=by unfold Hid;rw [<- Lu.out.2.2.1];exact ⟨aJ (tG _ _) (yw Lu.out.2.1 HZ.out).1,fun k=>aJ (vQ _ _ _) (by decide)⟩);clear hcb Ni GG Lu;generalize cB aac aad=ln at *;generalize lI aad=bn at *;generalize iz aac L=C at *;go_wp2_with fail;refine kP.out.mono ?_;rintro e w6 ⟨dL,_,rfl,P6,N6,rfl,ZX,ZY⟩;obtain ⟨p6,c6,rfl,-,-⟩:=ay.open ZX;obtain ⟨n6,d6,rfl,-,-⟩:=ay.open ZY;have dX:=Up.alloc w6 (.cells #[.slice p6 C.ps.length c6,.slice n6 C.ns.length d6] 39)
    obtain ⟨q0,q1,-,-⟩:=boxed (gp (w:=w6) (P:=.slice p6 C.ps.length c6) (N:=.slice n6 C.ns.length d6) (T:=39));have JN:aI Any (w6.alloc (.cells #[.slice p6 C.ps.length c6,.slice n6 C.ns.length d6] 39)) (.agg #[.slice p6 C.ps.length c6,.slice n6 C.ns.length d6]) C:=aI.keep ⟨_,_,rfl,ZX,ZY⟩ (dX.kept _);have qa:=(iw.out.trans dL).trans dX;have HOF7:=aa (oC.out _ _ qa JN);have HSC7:Hid (∀W,Up (w6.alloc (.cells #[.slice p6 C.ps.length c6,.slice n6 C.ns.length d6] 39)) W->_):=fun W hW=>xC.out W _ (qa.trans hW) (JN.keep (hW.kept _));have JA:=aa qa
    have HL7:=aa (Sj.out.keep ((dL.trans dX).kept _));clear dL dX JN qa kP xC oC ZX ZY iw Sj;go_wp2_with fail;generalize w6.alloc (.cells #[.slice p6 C.ps.length c6,.slice n6 C.ns.length d6] 39)=w7 at *;refine HOF7.out.mono ?_;rintro e w8 ⟨gK,u8,rfl,K8⟩;obtain ⟨p8,c8,rfl,-,-⟩:=dW K8;replace q0:=gK.cell q0;replace q1:=gK.cell q1;have HSC8:=aa (HSC7.out w8 gK);have HR8:=aa K8;have qQ:=aa (JA.out.trans gK);have HL8:=aa (HL7.out.keep (gK.kept _));clear gK K8 HOF7 HSC7 JA HL7;go_wp2_with fail;refine HSC8.out.mono ?_;rintro e w9 ⟨kN,rfl⟩
    have HR9:=aa (HR8.out.keep (kN.kept _));have zX:=aa (qQ.out.trans kN);have HL9:=aa (HL8.out.keep (kN.kept _));(have b4:(ln != ln)=false:=by simp);clear kN HR8 HSC8 qQ HL8;have hl6:L.length<=6:=gI.out.2;go_wp2_with fail
    go_loopw [30,170] (fun _ i wr=>∃k:Nat,k<=L.length/\i=.int .i64 k/\Hid (Up w9 wr)) (fun _ i _=>L.length - (intOf i).toNat)
    case atStart=>exact ⟨0,aL _,rfl,Up.refl _⟩
    case round =>
     obtain ⟨k,hk,rfl,hU⟩:=hrel;obtain ⟨wx,rfl⟩:∃wx:World,wx=wr:=⟨_,rfl⟩;by_cases hlt:k<L.length
     ·obtain ⟨lb,lo,s0,s1,rfl,qV,hil⟩:=gP (HL9.out.keep (hU.out.kept _)) hlt
      (have j1:(0:Int)<=(k:Int):=by omega);(have j2:(k:Int)<(L.length:Int):=by omega);have Ek:=Up.alloc wx (.cells #[.slice s0 (gl L k).length s1] 26);have iT:(wx.alloc (.cells #[.slice s0 (gl L k).length s1] 26)).cell? ⟨wx.heap.size,0,none⟩=some (.slice s0 (gl L k).length s1):=by unfold World.cell?;rw [mV];rfl
      have sD:Hid (Calls Tryz.prog 22 #[.slice p8 (oH L).length c8,.func (.func 23) #[] #[.pointer (some ⟨wx.heap.size,0,none⟩)]] (wx.alloc (.cells #[.slice s0 (gl L k).length s1] 26)) fun e w'=>e=.returned (.bool true)/\∃q,w'=(wx.alloc (.cells #[.slice s0 (gl L k).length s1] 26)).drewN q):=by
       obtain ⟨f,nE,hf2⟩:=HR9.out.keep ((hU.out.trans Ek).kept _);(have e0:((List.range (oH L).length).any fun j=>decide (gl (oH L) j=gl L k))=true:=by rw [Du];exact decide_eq_true (rU.2 (oM hlt)));rw [<- e0];exact AE 23 #[.pointer (some ⟨wx.heap.size,0,none⟩)] (enters_of Tryz.func23 (by kernel_rfl) rfl) Any _ _ (oH L).length f (fun j=>decide (gl (oH L) j=gl L k)) nE HOX.out.1 fun j hj=>tpIn_d Any Any _ wx.heap.size _ _ (gl (oH L) j) (gl L k) iT (ah.keep hil (Ek.kept _)) (hf2 j hj) (HOX.out.2 j) (zg.out k)
      have xM:=aa (hU.out.trans Ek);clear Ek hil hU iT;generalize (gl L k).length=sl at *;go_wp2_with fail;generalize wx.alloc (.cells #[.slice s0 sl s1] 26)=wy at *;refine sD.out.mono ?_;rintro e Fa ⟨rfl,q,rfl⟩;have Ll:=aa (xM.out.trans (Up.drewN wy q));clear sD;go_wp2_with fail
      go_roundw
      case rel=>exact ⟨k+1,by omega,by go_num,Ll.out⟩
      case measure=>simp [intOf];omega
     ·obtain rfl:k=L.length:=by omega
      have HUE:=aa (zX.out.trans hU.out);clear hU hlt hk;go_wp2_with fail;refine (Aa.out _).mono ?_;rintro e w' ⟨rfl,dX⟩;go_wp2_with fail;go_ret;exact ⟨rfl,HUE.out.trans dX⟩
   ·have b3:(cB aac aad==lI aad)=false:=beq_eq_false_iff_ne.2 hcb
    rw [b3];clear hcb Ni GG;generalize cB aac aad=ln at *;generalize lI aad=bn at *;go_wp2_with fail;refine (Aa.out _).mono ?_;rintro e w' ⟨rfl,dX⟩;go_wp2_with fail;go_ret;exact ⟨rfl,iw.out.trans dX⟩
end Go.Proofs.YthgabkgmkolobaaGreat
