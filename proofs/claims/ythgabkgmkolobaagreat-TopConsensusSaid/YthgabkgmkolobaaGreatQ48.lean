/- slices.ContainsFunc at trees and at rows with a function that grows the heap; the .. -/
import Derived.Test.YthgabkgmkolobaaGreatQ44
import Derived.Test.YthgabkgmkolobaaGreatQ45
import Derived.Test.YthgabkgmkolobaaGreatQ43
set_option maxRecDepth 100000
set_option maxHeartbeats 8000000
namespace Go.Proofs.YthgabkgmkolobaaGreat
section
open Go.RowKit Go.Deep
theorem tcSame_t (S T:Nat->Prop) (w:World) (bx:Nat) (v P N:Value) (x t:az) (hb:w.cell? ⟨bx,0,none⟩=some P) (hb1:w.cell? ⟨bx,1,none⟩=some N) (hs:aI S w (.agg #[P,N]) t) (h:aI T w v x) (hn:x.ps.length<=1000000) (hm:x.ns.length<=1000000) :
  Calls Tryz.prog 56 #[v,.pointer (some ⟨bx,0,none⟩)] w fun e w'=>e=.returned (.bool (decide (x=t)))/\Up w w':=by
 obtain ⟨P1,N1,rfl,hP,hN⟩:=h;obtain ⟨pp,pc,rfl,-,-⟩:=ay.open hP;obtain ⟨np,nc,rfl,-,-⟩:=ay.open hN;have hu:=Up.alloc w (.cells #[.slice pp x.ps.length pc,.slice np x.ns.length nc] 39);obtain ⟨q0,q1,-,-⟩:=boxed (gp (w:=w) (P:=.slice pp x.ps.length pc) (N:=.slice np x.ns.length nc) (T:=39));have HST:=aa (AO T S _ _ _ x t (aI.keep ⟨_,_,rfl,hP,hN⟩ (hu.kept T)) (hs.keep (hu.kept S)) hn hm);have c0:=hu.cell hb;have c1:=hu.cell hb1;obtain ⟨P2,N2,e2,lD,mD⟩:=hs;obtain ⟨p2,d2,rfl,-,-⟩:=ay.open lD;obtain ⟨n2,m2,rfl,-,-⟩:=ay.open mD;injection e2 with e2
 simp only [Array.mk.injEq,List.cons.injEq,and_true] at e2;obtain ⟨rfl,rfl⟩:=e2;have HU:=aa hu;generalize decide (x=t)=r at *;clear hb hb1 hP hN lD mD hu
 go_enter Tryz.func56,Tryz.ntmps56
 go_wp2_with fail;refine HST.out.mono ?_;rintro e w' ⟨rfl,aK⟩;have bD:=aa (HU.out.trans aK);clear aK;go_wp2_with fail;go_ret;exact ⟨rfl,bD.out⟩
theorem tcIn_d (S T:Nat->Prop) (w:World) (bx:Nat) (v vs:Value) (x s:List Int) (hb:w.cell? ⟨bx,0,none⟩=some vs) (hs:ah S w vs s) (h:ah T w v x) (hn:x.length<=1000000) (hm:s.length<=1000000) :
  Hj 58 #[.pointer (some ⟨bx,0,none⟩)] #[v] (.bool (decide (x=s))) w:=by
 intro d;show Calls Tryz.prog 58 #[v,.pointer (some ⟨bx,0,none⟩)] (w.drewN d) _;have hd:=Up.drewN w d;have HC:=aa (uU T S (w.drewN d) v vs x s (ah.keep h (hd.kept _)) (ah.keep hs (hd.kept _)) hn hm);have c1:=hd.cell hb;obtain ⟨p,cap,rfl,-,-⟩:=ay.open h;obtain ⟨q,E8,rfl,-,-⟩:=ay.open hs;obtain ⟨W,hW⟩:∃W,W=w.drewN d:=⟨_,rfl⟩;have HW:=aa hW;rw [<- hW] at c1 HC ⊢;clear hd hb h hs hW
 go_enter Tryz.func58,Tryz.ntmps58
 go_wp2_with fail;refine HC.out.mono ?_;rintro e w' ⟨rfl,m,rfl⟩;go_wp2_with fail;go_ret;rw [HW.out];exact ⟨rfl,Gc ⟨d,rfl⟩ ⟨m,rfl⟩⟩
theorem tcOut_t (S T:Nat->Prop) (w:World) (bl:Nat) (v vl:Value) (s:List Int) (l:List (List Int)) (hb:w.cell? ⟨bl,0,none⟩=some vl) (hL:aR S w vl l) (h:ah T w v s) (hn:s.length<=1000000) (hl:l.length<=1000000) (hr:∀k,(gl l k).length<=1000000) :
  Calls Tryz.prog 57 #[v,.pointer (some ⟨bl,0,none⟩)] w fun e w'=>e=.returned (.bool (!decide (s∈l)))/\Up w w':=by
 obtain ⟨p,cap,rfl,-,-⟩:=ay.open h;have h:ah T w (.slice p s.length cap) s:=h;obtain ⟨q,E8,rfl,-,-⟩:=dW hL;have hu:=Up.alloc w (.cells #[.slice p s.length cap] 26);have iT:(w.alloc (.cells #[.slice p s.length cap] 26)).cell? ⟨w.heap.size,0,none⟩=some (.slice p s.length cap):=by unfold World.cell?;rw [mV];rfl
 have HAS:Hid (Calls Tryz.prog 22 #[.slice q l.length E8,.func (.func 58) #[] #[.pointer (some ⟨w.heap.size,0,none⟩)]] (w.alloc (.cells #[.slice p s.length cap] 26)) fun e w'=>e=.returned (.bool (decide (s∈l)))/\Up (w.alloc (.cells #[.slice p s.length cap] 26)) w'):=by
  obtain ⟨f,nE,hf2⟩:=hL.keep (hu.kept S);rw [<- Du l s];refine (AE 58 #[.pointer (some ⟨w.heap.size,0,none⟩)] (enters_of Tryz.func58 (by kernel_rfl) rfl) S _ _ l.length f (fun k=>decide (gl l k=s)) nE hl fun k hk=>tcIn_d T S _ w.heap.size _ _ (gl l k) s iT (ah.keep h (hu.kept T)) (hf2 k hk) (hr k) hn).mono ?_;rintro e w' ⟨rfl,m,rfl⟩;exact ⟨rfl,Up.drewN _ m⟩
 have c1:=hu.cell hb;have HU:=aa hu;clear hb hL h hr iT hu;generalize decide (s∈l)=r at *
 go_enter Tryz.func57,Tryz.ntmps57
 go_wp2_with fail;refine HAS.out.mono ?_;rintro e w' ⟨rfl,aK⟩;have bD:=aa (HU.out.trans aK);clear aK;go_wp2_with fail;go_ret;exact ⟨aV (by cases r<;>rfl),bD.out⟩
end
section
theorem mem_comN {ts:List az} {aac:List ByteArray} {n:Nat} (h:0<n) {s:List Int}:s∈uA ts aac n↔∀k,k<n->s∈cW (gt ts k) aac:=by
 unfold uA;rw [fL,wL];constructor
 ·rintro ⟨_,h2⟩ k hk
  exact of_decide_eq_true (h2 k (bh.2 hk))
 ·intro h2
  exact ⟨h2 0 h,fun k hk=>decide_eq_true (h2 k (bh.1 hk))⟩
end
section
section
variable {ts:List az} {aac:List ByteArray} {aad:List (List Int)}
theorem cons_law (hc:mR aac aad):0<(eE aac aad).length/\(∀k,k<(eE aac aad).length->gt (eE aac aad) k∈allT aac/\bz (gt (eE aac aad) k) aac aad=cB aac aad) /\
  cB aac aad<=bz (iz aac (ir (eE aac aad) aac)) aac aad:=by
 obtain ⟨_,_,t,ht,e⟩:=sk hc;have hm:t∈eE aac aad:=fL.2 ⟨ht,decide_eq_true e⟩;have h0:0<(eE aac aad).length:=Fv hm;have hk:∀k,k<(eE aac aad).length->gt (eE aac aad) k∈allT aac/\bz (gt (eE aac aad) k) aac aad=cB aac aad:=fun k hk=>by obtain ⟨h1,h2⟩:=fL.1 (pZ hk);exact ⟨h1,of_decide_eq_true h2⟩
 refine ⟨h0,hk,?_⟩;obtain ⟨_,_,_,h4,_⟩:=Gr hc.nm h0 fun k hk2=>(hk k hk2).1;exact least_le hc h4
end
end
section
open Go.RowKit Go.Deep
theorem any_tree34 (l:List az) (t:az):((List.range l.length).any fun k=>decide (gt l k=t))=decide (t∈l):=by
 rw [lR,eO,decide_eq_true_eq];constructor
 ·rintro ⟨k,hk,e⟩
  have e:=of_decide_eq_true e;rw [<- e];exact pZ (bh.1 hk)
 ·intro h
  obtain ⟨k,hk,e⟩:=Jc h;exact ⟨k,bh.2 hk,decide_eq_true e⟩
theorem tc_best {aac:List ByteArray} {aad:List (List Int)} {t:az} (ht:t∈allT aac):decide (t∈eE aac aad)=(bz t aac aad==cB aac aad):=by
 rw [lR,decide_eq_true_eq,beq_iff_eq];unfold eE;rw [fL];exact ⟨fun h=>of_decide_eq_true h.2,fun h=>⟨ht,decide_eq_true h⟩⟩
theorem Yf (w:World) (v vs:Value) (aac:List ByteArray) (aad:List (List Int)) (h:au Any w v aac) (hS:aR Any w vs aad)
  (hn:aac.length<=9223372036854775807) (hz:∀k,(gs aac k).size<=9223372036854775807) (hm:aad.length<=9223372036854775807) (hr:∀k,(gl aad k).length<=9223372036854775807) :
  Calls Tryz.prog 11 #[v,vs] w fun e w'=>e=.returned (.bool true)/\Up w w':=by
 obtain ⟨p,cap,rfl,hcap,-⟩:=ay.open h;have h:au Any w (.slice p aac.length cap) aac:=h;obtain ⟨sp,sc,rfl,-,-⟩:=dW hS;have tC:=aa (Z9 Any Any w _ _ aac aad h hS hn hz hm hr);have Aa:Hid (∀W,Calls Tryz.prog 13 #[] W fun e w'=>e=.returned (.bool true)/\Up W w'):=WI;have W9:Hid (qf aac aad=true->WE aac aad/\Px aac aad):=WG;have HH:=aa h;have HS:=aa hS;clear h hS hz hr hn hm
 go_enter Tryz.func11,Tryz.ntmps11
 go_wp2_with fail;refine tC.out.mono ?_;rintro e w1 ⟨rfl,bA⟩;have cA:=aa bA;clear tC bA;cases hf:qf aac aad
 ·clear hf W9
  go_wp2_with fail;refine (Aa.out _).mono ?_;rintro e w' ⟨rfl,dX⟩;go_wp2_with fail;go_ret;exact ⟨rfl,cA.out.trans dX⟩
 have sK:=aa (W9.out hf);clear hf W9;have hc:=sK.out.1.cs;have hnm:=hc.nm;have uv:=hnm.hi;have hnl:=hnm.lo;have HC:=aa hc;have iu:=aa (And.intro hnl uv);have HZ:Hid (∀k,(gs aac k).size<=70000):=fun k=>aJ (lF (M:=20) (fun x hx=>tT (hnm.nm x hx)) k) (by decide)
 have y7:Hid (aad.length<=1000000/\∀k,(gl aad k).length<=1000000):=⟨by have:=hc.len;omega,fun k=>by
  by_cases hk:k<aad.length
  ·have:=((yM hc.ag).2 k hk).1;have:=sK.out.1.wd;omega
  ·have:gl aad k=[]:=by simp [gl,hk]
   rw [this];simp⟩
 have hce:=(vJ uv).2 hc;have Fb:=aa (OQ hc);have HAF:Hid (∀t,t∈allT aac->_):=fun t ht=>And.intro (PR hc (mM hnm ht).1) (And.intro (yw (mM hnm ht).1 HZ.out) (tc_best (aad:=aad) ht));have gI:=aa (WJ hnm);have Ga:=aa (PL Any w1 _ aac (au.keep HH.out (cA.out.kept _)) (by omega) HZ.out (.inl uv));unfold tV at Ga;rw [(mQ uv).2 hnm,if_pos rfl] at Ga;go_wp2_with fail;refine Ga.out.mono ?_;rintro e w2 ⟨aK,v2,rfl,ht2⟩;obtain ⟨p2,c2,rfl,-⟩:=iM ht2;have bD:=aa (cA.out.trans aK)
 have uj:=aa ht2;have qb:=aa (yg Any w2 _ _ aac aad (au.keep HH.out (bD.out.kept _)) (by omega) HZ.out (aR.keep HS.out (bD.out.kept _)) y7.out.1 y7.out.2 (.inl uv));unfold yf rR l5 at qb;rw [hce,if_pos rfl,if_pos rfl] at qb
 have xC:Hid (∀W v t,Up w W->aI Any W v t->dK t aac->Calls Tryz.prog 21 #[v,.slice p aac.length cap,.slice sp aad.length sc] W fun e w'=>Up W w'/\e=.returned (.tuple #[.int .i64 (bz t aac aad),.int .i64 0])):=fun W v t hW ht ho=>by obtain ⟨z1,z2,z3⟩:=yw ho HZ.out;have h:=Gk Any W v _ _ t aac aad ht z1 z2 z3 (au.keep HH.out (hW.kept _)) (by omega) HZ.out (aR.keep HS.out (hW.kept _)) y7.out.1 y7.out.2 (.inl uv);unfold tI at h;obtain ⟨s1,s2,_⟩:=PR HC.out ho;rw [s2,s1] at h;exact h
 have Xa:Hid (∀W v t,Up w W->aI Any W v t->dK t aac->Calls Tryz.prog 20 #[v,.slice p aac.length cap] W fun e w'=>Up W w'/\∃u,e=.returned (.tuple #[u,.int .i64 0])/\aR Any w' u (cW t aac)):=fun W v t hW ht ho=>by obtain ⟨z1,z2,z3⟩:=yw ho HZ.out;have h:=PJ Any W v _ t aac ht (au.keep HH.out (hW.kept _)) z1 z2 z3 (by omega);unfold OH at h;rw [kV.2 ho] at h;exact h
 have HOA:Hid (∀t,t∈allT aac->dK t aac):=fun t ht=>(mM hnm ht).1;clear aK ht2 hc hnm uv hnl hce sK Ga cA;go_wp2_with fail;refine qb.out.mono ?_;rintro e w3 ⟨dQ,v3,rfl,ht3⟩;obtain ⟨p3,c3,rfl,-⟩:=iM ht3;have eo:=aa (bD.out.trans dQ);have WQ:=aa (uj.out.keep (dQ.kept _));have CR:=aa ht3;clear dQ ht3 qb uj bD;generalize hA:allT aac=A at *;have HA:=aa hA;generalize hB:eE aac aad=B at *;have HB:=aa hB;generalize hN:cB aac aad=n at *;clear hA hB
 have Z1:Hid (∀k,k<B.length->gt B k∈A/\bz (gt B k) aac aad=n):=Fb.out.2.2.2.2.1;have nX:Hid (B.length<=15/\0<B.length):=⟨Fb.out.2.1,Fb.out.1⟩;clear Fb;have l15:A.length<=15:=gI.out.2;go_wp2_with fail
 go_loopw [11,12,13,14,50] (fun _ _ _ _ i wr=>∃k:Nat,k<=A.length/\i=.int .i64 k/\Hid (Up w3 wr)) (fun _ _ _ _ i _=>A.length - (intOf i).toNat)
 case atStart=>exact ⟨0,aL _,rfl,Up.refl _⟩
 case round =>
  obtain ⟨k,hk,rfl,hU⟩:=hrel;obtain ⟨wo,rfl⟩:∃wo:World,wo=wr:=⟨_,rfl⟩;by_cases hlt:k<A.length
  ·obtain ⟨tb,toff,pp,pc,np,nc,rfl,c0,c1,CA⟩:=qd (WQ.out.keep (hU.out.kept _)) hlt
   (have i1:(0:Int)<=(k:Int):=by omega);(have i2:(k:Int)<(A.length:Int):=by omega);have dX:=Up.alloc wo (.cells #[.slice pp (gt A k).ps.length pc,.slice np (gt A k).ns.length nc] 39);obtain ⟨q0,q1,-,-⟩:=boxed (gp (w:=wo) (P:=.slice pp (gt A k).ps.length pc) (N:=.slice np (gt A k).ns.length nc) (T:=39));have JN:=CA.keep (dX.kept _);obtain ⟨⟨_,_,s3⟩,_,s5⟩:=HAF.out _ (pZ hlt);have HSCK:=aa (xC.out _ _ _ ((eo.out.trans hU.out).trans dX) JN (HOA.out _ (pZ hlt)));have tH:=aa (hU.out.trans dX);have oy:=aa JN
   have Sr:Hid (∀j,(gt B j).ps.length<=1000000/\(gt B j).ns.length<=1000000):=fun j=>by
    by_cases hj:j<B.length
    ·obtain ⟨_,⟨z1,z2,_⟩,_⟩:=HAF.out _ (Z1.out j hj).1
     exact ⟨z1,z2⟩
    ·simp [gt,show B.length<=j by omega]
   clear CA dX hU JN;have je:Hid (cB aac aad=n):=hN;clear hN;generalize gt A k=t at *;have HQ:=aa (And.intro q0 q1);go_wp2_with fail;generalize wo.alloc (.cells #[.slice pp t.ps.length pc,.slice np t.ns.length nc] 39)=wa at *;refine HSCK.out.mono ?_;rintro e w4 ⟨di,rfl⟩;replace q0:=di.cell q0;replace q1:=di.cell q1;have Ek:=tH.out.trans di;have sD:Hid (Calls Tryz.prog 35 #[.slice p3 B.length c3,.func (.func 56) #[] #[.pointer (some ⟨wo.heap.size,0,none⟩)]] w4 fun e w'=>e=.returned (.bool (bz t aac aad==n))/\Up w4 w'):=by
    rw [<- s5,<- any_tree34];exact Lm 56 #[.pointer (some ⟨wo.heap.size,0,none⟩)] (enters_of Tryz.func56 (by kernel_rfl) rfl) Any w4 _ B (fun j=>decide (gt B j=t)) (CR.out.keep (Ek.kept _)) (by have:=nX.out.1;omega) fun j W v hj hW hv=>tcSame_t Any Any W wo.heap.size v _ _ (gt B j) t (hW.cell (di.cell HQ.out.1)) (hW.cell (di.cell HQ.out.2)) (oy.out.keep ((di.trans hW).kept _)) hv (Sr.out j).1 (Sr.out j).2
   have xM:=aa Ek;clear di Ek HSCK s5;generalize bz t aac aad=m at *;by_cases hmn:m=n
   ·have d1:(m==n)=true:=beq_iff_eq.2 hmn
    have d2:decide (m<n)=false:=decide_eq_false (by omega);(have d3:¬m<n:=by omega);rw [d1] at sD;clear hmn s3;go_wp2_with fail;refine sD.out.mono ?_;rintro e w5 ⟨rfl,ey⟩;have Ll:=aa (xM.out.trans ey);clear ey sD;go_wp2_with fail
    go_roundw
    case rel=>exact ⟨k+1,by omega,by go_num,Ll.out⟩
    case measure=>simp [intOf];omega
   ·have d1:(m==n)=false:=beq_eq_false_iff_ne.2 hmn
    have d2:decide (m<n)=false:=decide_eq_false (by omega);(have d3:¬m<n:=by omega);rw [d1] at sD;clear hmn s3;go_wp2_with fail;refine sD.out.mono ?_;rintro e w5 ⟨rfl,ey⟩;have Ll:=aa (xM.out.trans ey);clear ey sD;go_wp2_with fail
    go_roundw
    case rel=>exact ⟨k+1,by omega,by go_num,Ll.out⟩
    case measure=>simp [intOf];omega
  ·obtain rfl:k=A.length:=by omega
   have jw:=aa (eo.out.trans hU.out);have Sn:=aa (CR.out.keep (hU.out.kept _));have nM:=aa (Gr HC.out.nm nX.out.2 fun j hj=>by rw [HA.out];exact (Z1.out j hj).1);have qT:Hid (n<=bz (iz aac (ir B aac)) aac aad):=by have:=(cons_law HC.out).2.2;rw [HB.out,hN] at this;exact this
   have Sr:Hid (∀j,(gt B j).ps.length<=1000000/\(gt B j).ns.length<=1000000/\∀i,(gs (gt B j).ns i).size<=70000):=fun j=>by
    by_cases hj:j<B.length
    ·obtain ⟨_,z,_⟩:=HAF.out _ (Z1.out j hj).1
     exact z
    ·have:gt B j=⟨[],[]⟩:=by simp [gt,show B.length<=j by omega]
     rw [this];exact ⟨aL _,aL _,fun i=>by simp [gs]⟩
   have Lh:Hid (∀j,j<B.length->dK (gt B j) aac):=fun j hj=>HOA.out _ (Z1.out j hj).1;have Gy:=aa (WN Any wo _ _ aac B (au.keep HH.out (jw.out.kept _)) (by have:=iu.out;omega) HZ.out (.inl iu.out.2) Sn.out (by have:=nX.out.1;omega) Sr.out);unfold Cz at Gy;rw [nM.out.2.1,nM.out.2.2.1] at Gy;have QZ:Hid (dK (iz aac (ir B aac)) aac):=nM.out.2.2.2.1;have nH:Hid (cW (iz aac (ir B aac)) aac=ir B aac):=nM.out.2.2.2.2;have je:Hid (cB aac aad=n):=hN;clear hU hlt hk HAF HOA HA gI nM hN WQ eo l15
   generalize iz aac (ir B aac)=C at *;go_wp2_with fail;refine Gy.out.mono ?_;rintro e w4 ⟨di,_,rfl,P4,N4,rfl,iB,iC⟩;obtain ⟨p4,c4,rfl,-,-⟩:=ay.open iB;obtain ⟨n4,d4,rfl,-,-⟩:=ay.open iC;have dX:=Up.alloc w4 (.cells #[.slice p4 C.ps.length c4,.slice n4 C.ns.length d4] 39);obtain ⟨q0,q1,-,-⟩:=boxed (gp (w:=w4) (P:=.slice p4 C.ps.length c4) (N:=.slice n4 C.ns.length d4) (T:=39))
   have JN:aI Any (w4.alloc (.cells #[.slice p4 C.ps.length c4,.slice n4 C.ns.length d4] 39)) (.agg #[.slice p4 C.ps.length c4,.slice n4 C.ns.length d4]) C:=aI.keep ⟨_,_,rfl,iB,iC⟩ (dX.kept _);have ey:=(jw.out.trans di).trans dX;have HSC5:=aa (xC.out _ _ _ ey JN QZ.out);have Xb:Hid (∀W,Up (w4.alloc (.cells #[.slice p4 C.ps.length c4,.slice n4 C.ns.length d4] 39)) W->_):=fun W hW=>Xa.out W _ C (ey.trans hW) (JN.keep (hW.kept _)) QZ.out;have iw:=aa ey;have uQ:=aa (Sn.out.keep ((di.trans dX).kept _));clear di dX JN ey Gy Sn jw iB iC xC
   go_wp2_with fail;generalize w4.alloc (.cells #[.slice p4 C.ps.length c4,.slice n4 C.ns.length d4] 39)=w5 at *;refine HSC5.out.mono ?_;rintro e w6 ⟨dL,rfl⟩;replace q0:=dL.cell q0;replace q1:=dL.cell q1;have HOF6:=aa (Xb.out w6 dL);have rj:=aa (iw.out.trans dL);have Dg:=aa (uQ.out.keep (dL.kept _));have d2:decide (bz C aac aad<n)=false:=decide_eq_false (by have:=qT.out;omega);(have d3:¬bz C aac aad<n:=by have:=qT.out;omega);clear dL HSC5 Xb iw uQ qT;generalize bz C aac aad=m at *;go_wp2_with fail;refine HOF6.out.mono ?_
   rintro e w7 ⟨qa,u7,rfl,hr7⟩;rw [nH.out] at hr7;obtain ⟨f7,Xc,CS⟩:=hr7;obtain ⟨p7,c7,rfl,-,-⟩:=ay.open Xc;have HR7:Hid (∃f,ay Any w7 (.slice p7 (ir B aac).length c7) (ir B aac).length f/\∀k,k<(ir B aac).length->ah Any w7 (f k) (gl (ir B aac) k)):=⟨f7,Xc,CS⟩;have JA:=aa (rj.out.trans qa);have HT7:=aa (Dg.out.keep (qa.kept _));have uf:Hid ((ir B aac).length<=1000000/\(∀k,(gl (ir B aac) k).length<=1000000)/\∀j,j<B.length->∀k,k<(ir B aac).length->gl (ir B aac) k∈cW (gt B j) aac):=by
    refine ⟨?_,fun k=>?_,fun j hj k hk=>(mem_comN nX.out.2).1 (oM hk) j hj⟩
    ·rw [<- nH.out];exact aJ (tG _ _) (yw QZ.out HZ.out).1
    ·rw [<- nH.out];exact aJ (vQ _ _ _) (by decide)
   clear qa Xc CS HOF6 rj Dg nH;generalize ir B aac=L at *;go_wp2_with fail;clear d2 d3;have l15:B.length<=15:=nX.out.1
   go_loopw [22,23,24,110] (fun _ _ _ i wr=>∃k:Nat,k<=B.length/\i=.int .i64 k/\Hid (Up w7 wr)) (fun _ _ _ i _=>B.length - (intOf i).toNat)
   case atStart=>exact ⟨0,aL _,rfl,Up.refl _⟩
   case round =>
    obtain ⟨k,hk,rfl,hU⟩:=hrel;obtain ⟨wo,rfl⟩:∃wo:World,wo=wr:=⟨_,rfl⟩;by_cases hlt:k<B.length
    ·obtain ⟨tb,toff,pp,pc,np,nc,rfl,c0,c1,CA⟩:=qd (HT7.out.keep (hU.out.kept _)) hlt
     (have i1:(0:Int)<=(k:Int):=by omega);(have i2:(k:Int)<(B.length:Int):=by omega);have dX:=Up.alloc wo (.cells #[.slice pp (gt B k).ps.length pc,.slice np (gt B k).ns.length nc] 39);obtain ⟨r0,r1,-,-⟩:=boxed (gp (w:=wo) (P:=.slice pp (gt B k).ps.length pc) (N:=.slice np (gt B k).ns.length nc) (T:=39));have HOFK:=aa (Xa.out _ _ _ ((JA.out.trans hU.out).trans dX) (CA.keep (dX.kept _)) (Lh.out k hlt));have tH:=aa (hU.out.trans dX);have E3:Hid (∀j,j<L.length->gl L j∈cW (gt B k) aac):=uf.out.2.2 k hlt
     have HLZ:Hid ((cW (gt B k) aac).length<=1000000/\∀j,(gl (cW (gt B k) aac) j).length<=1000000):=⟨aJ (tG _ _) (Sr.out k).1,fun j=>aJ (vQ _ _ j) (by decide)⟩;clear CA dX hU;generalize gt B k=t at *;go_wp2_with fail;generalize wo.alloc (.cells #[.slice pp t.ps.length pc,.slice np t.ns.length nc] 39)=wa at *;refine HOFK.out.mono ?_;rintro e w8 ⟨gK,u8,rfl,K8⟩;obtain ⟨p8,c8,rfl,-,-⟩:=dW K8;generalize cW t aac=M at *;have Ek:=Up.alloc w8 (.cells #[.slice p8 M.length c8] 23)
     (have iT:(w8.alloc (.cells #[.slice p8 M.length c8] 23)).cell? ⟨w8.heap.size,0,none⟩=some (.slice p8 M.length c8):=by unfold World.cell?;rw [mV];rfl);have hR8:=K8.keep (Ek.kept Any);have hUB:=(tH.out.trans gK).trans Ek;have sD:Hid (Calls Tryz.prog 22 #[.slice p7 L.length c7,.func (.func 57) #[] #[.pointer (some ⟨w8.heap.size,0,none⟩)]] (w8.alloc (.cells #[.slice p8 M.length c8] 23)) fun e w'=>e=.returned (.bool false)/\Up (w8.alloc (.cells #[.slice p8 M.length c8] 23)) w'):=by
      obtain ⟨f,nE,hf2⟩:=HR7.out;(have e0:((List.range L.length).any fun _=>false)=false:=by simp);rw [<- e0];refine OS 57 #[.pointer (some ⟨w8.heap.size,0,none⟩)] (enters_of Tryz.func57 (by kernel_rfl) rfl) Any _ _ L.length f (fun _=>false) (nE.keep (hUB.kept _)) uf.out.1 fun j W hj hW=>?_;have h:=tcOut_t Any Any W w8.heap.size (f j) (.slice p8 M.length c8) (gl L j) M (hW.cell iT) (hR8.keep (hW.kept _)) ((hf2 j hj).keep ((hUB.trans hW).kept _)) (uf.out.2.1 j) HLZ.out.1 HLZ.out.2;rw [decide_eq_true (E3.out j hj)] at h;exact h
     have xM:=aa hUB;clear gK K8 Ek iT hR8 hUB HOFK E3 HLZ;go_wp2_with fail;generalize w8.alloc (.cells #[.slice p8 M.length c8] 23)=w9 at *;refine sD.out.mono ?_;rintro e Fa ⟨rfl,Wt⟩;have Ll:=aa (xM.out.trans Wt);clear Wt sD;go_wp2_with fail
     go_roundw
     case rel=>exact ⟨k+1,by omega,by go_num,Ll.out⟩
     case measure=>simp [intOf];omega
    ·obtain rfl:k=B.length:=by omega
     have HUE:=aa (JA.out.trans hU.out);clear hU hlt hk;go_wp2_with fail;refine (Aa.out _).mono ?_;rintro e w' ⟨rfl,dX⟩;go_wp2_with fail;go_ret;exact ⟨rfl,HUE.out.trans dX⟩
end
end Go.Proofs.YthgabkgmkolobaaGreat
