/- The contract of layer 31's reference's .. -/
import Derived.Laws.Bits64b
import Derived.Laws.BitsAllLaws
import Derived.Test.YthgabkgmkolobaaGreatQ15
set_option maxRecDepth 100000
set_option maxHeartbeats 2000000
namespace Go.Proofs.YthgabkgmkolobaaGreat
section
open Go.RowKit Go.Deep
theorem Im (S:Nat->Prop) (w:World) (v:Value) (t:ax) (h:aG S w v t) (hp:t.ps.length<=1000000) (hn:t.ns.length<=1000000) (hz:∀k,(gs t.ns k).size<=70000) :
  Calls Tryz.prog 33 #[v] w fun e w'=>e=.returned (.int .i64 (aA t))/\Below w.heap.size w w':=by
 obtain ⟨P,N,rfl,hP,hN⟩:=h;obtain ⟨ps,ns⟩:=t;simp only at *;have dK:aA ⟨ps,ns⟩=if ps.length=0 then 5 else if 64<ps.length then 4 else if ns.length≠ps.length then 9 else if jB ps then bf (mg ps ns) ps.length else 2:=rfl
 have HF:=aa dK;clear dK;have gX:Below w.heap.size w (w.alloc (.cells #[P,N] 39)):=(cM _ _).alloc (ah _) _;have GM:aG S (w.alloc (.cells #[P,N] 39)) (.agg #[P,N]) ⟨ps,ns⟩:=aG.keep ⟨P,N,rfl,hP,hN⟩ (Kept.below gX);have Xq:=hP.keep (Kept.below gX);have Xr:=hN.keep (Kept.below gX);clear hP hN;obtain ⟨p,cap,rfl,hcap,HP⟩:=aq.open Xq;obtain ⟨q,dF,rfl,xP,HN⟩:=aq.open Xr;have Ty:=aa HP;have OU:=aa HN;have PR:=aa GM;have dJ:=aa gX;clear Xq Xr HP HN GM gX;by_cases h0:ps.length=0
 ·have HX:Hid (ps.length=0):=h0
  have h0':((ps.length:Int)==0)=true:=by simp [h0]
  clear h0;go_in;go_wp2;go_ret;exact ⟨aC (by rw [HF.out,if_pos HX.out]),dJ.out⟩
 have h0':((ps.length:Int)==0)=false:=by simpa using h0
 by_cases h1:64<ps.length
 ·go_in
  go_wp2;go_ret;exact ⟨aC (by rw [HF.out,if_neg h0,if_pos h1]),dJ.out⟩
 by_cases h2:ns.length=ps.length
 ·have Xt:((ns.length:Int) != ps.length)=false:=by simp [h2]
  have H2:=aa h2;clear h2;have qw:(w.alloc (.cells #[.slice p ps.length cap,.slice q ns.length dF] 39)).cell? ⟨w.heap.size,0,none⟩=some (.slice p ps.length cap):=by simp [World.cell?_alloc_new]
  have tI:(w.alloc (.cells #[.slice p ps.length cap,.slice q ns.length dF] 39)).cell? ⟨w.heap.size,1,none⟩=some (.slice q ns.length dF):=by simp [World.cell?_alloc_new]
  have hct:(w.alloc (.cells #[.slice p ps.length cap,.slice q ns.length dF] 39)).rowIs w.heap.size 39 2 (fun i=>if i=0 then .slice p ps.length cap else .slice q ns.length dF) :=
   World.rowIs_alloc w _ _ _ (fun i hi=>by match i,hi with | 0,_=>rfl | 1,_=>rfl)
  have hsz:(w.alloc (.cells #[.slice p ps.length cap,.slice q ns.length dF] 39)).heap.size=w.heap.size+1:=by simp
  have HS:=aa hsz;have Ey:=aa qw;have Jk:=aa tI;have zh:=aa hct;clear hsz tI hct;go_in;go_wp2_with fail;generalize hw0:w.alloc (.cells #[.slice p ps.length cap,.slice q ns.length dF] 39)=w0 at *;clear hw0
  go_loop [3] (fun i=>∃k:Nat,k<=ps.length/\i=.int .i64 k/\Hid (∀j,j<k->oJ j (gi ps j)=true)) (fun i=>ps.length - (intOf i).toNat)
  case atStart=>exact ⟨0,aF _,rfl,fun j hj=>absurd hj (aZ _)⟩
  case round =>
   obtain ⟨k,hk,rfl,hd⟩:=hrel;by_cases hlt:k<ps.length
   ·obtain ⟨b,off,rfl,hc⟩:=Ty.out k hlt
    clear Ty OU PR;generalize hpk:gi ps k=x at *;have HX:=aa hpk;clear hpk;by_cases hg:0<k/\0<=x/\x<k
    ·obtain ⟨g1,g2,g3⟩:=hg
     go_wp2
     go_round
     case rel=>exact ⟨k+1,by omega,by go_num,fun j hj=>if e:j=k then by subst e;rw [HX.out];unfold oJ;rw [if_neg (by omega)];simp;omega else hd.out j (by omega)⟩
     case measure=>simp [intOf];omega
    ·by_cases Jl:k=0/\x = -1
     ·obtain ⟨rfl,rfl⟩:=Jl
      (have hc':w0.cell? ⟨b,off,none⟩=some (.int .i64 (-1)):=by simpa using hc);go_wp2
      go_round
      case rel=>exact ⟨1,by omega,by go_num,fun j hj=>by obtain rfl:j=0:=(by omega);rw [HX.out];rfl⟩
      case measure=>simp [intOf];omega
     ·have qT:oJ k x=false:=by
       unfold oJ;split
       ·rename_i e;simp;exact fun e2=>Jl ⟨e,e2⟩
       ·simp;intro;omega
      rw [<- HX.out] at qT
      have HB:=aa (OC hlt qT)
      clear qT
      have hc':k=0->w0.cell? ⟨b,off,none⟩=some (.int .i64 x):=fun e=>by subst e;simpa using hc
      rcases BZ k with rfl | nj
      ·have hc2:=hc' rfl
       clear hc' hc
       go_wp2_with fail
       all_goals go_ret
       all_goals exact ⟨aC (by rw [HF.out,if_neg h0,if_neg h1,if_neg (by rw [H2.out];simp),HB.out];simp),dJ.out⟩
      ·clear hc'
       go_wp2_with fail
       all_goals go_ret
       all_goals exact ⟨aC (by rw [HF.out,if_neg h0,if_neg h1,if_neg (by rw [H2.out];simp),HB.out];simp),dJ.out⟩
   ·obtain rfl:k=ps.length:=by omega
    have agl:=Hj hd.out;have hok:=aa agl;clear hlt hk hd Ty hcap agl;go_wp2
    go_loopw [4,5] (fun i _ wr=>∃k:Nat,k<=ps.length/\i=.int .i64 k/\Hid (∀j,j<k->mg ps ns j=0)/\Below w0.heap.size w0 wr) (fun i _ _=>ps.length - (intOf i).toNat)
    case atStart=>exact ⟨0,aF _,rfl,fun j hj=>absurd hj (aZ _),cM _ _⟩
    case round =>
     obtain ⟨k,hk,rfl,hd,hbr⟩:=hrel;clear qw;have qw:wr.cell? ⟨w.heap.size,0,none⟩=some (.slice p ps.length cap):=(hbr.cell (p:=⟨w.heap.size,0,none⟩) (by have:=HS.out;simp;omega)).trans Ey.out;have tI:wr.cell? ⟨w.heap.size,1,none⟩=some (.slice q ns.length dF):=(hbr.cell (p:=⟨w.heap.size,1,none⟩) (by have:=HS.out;simp;omega)).trans Jk.out;by_cases hlt:k<ps.length
     ·have hlen:ns.length<=ps.length/\ps.length<=ns.length:=by have:=H2.out;omega
      obtain ⟨jC,hl2⟩:=hlen;have hT:=PR.out.keep (Kept.below hbr);have hkd:=TR S wr _ ⟨ps,ns⟩ k hT hp hlt;have qE:=aa hkd;(have hne:mg ps ns k=if isIn ps k then (if (gs ns k).size=0 then 0 else 14) else if bq (gs ns k).data.toList then (if cW ns k then 7 else 0) else 14:=rfl);have hki:=qR hok.out k;(have hend:mg ps ns k≠0->aA ⟨ps,ns⟩=mg ps ns k:=fun hn0=>by rw [HF.out,if_neg h0,if_neg h1,if_neg (by rw [H2.out];simp),hok.out,if_pos rfl];exact eX hlt hd.out hn0);have HE:=aa hne;have Hq:=aa hend;have HKI:=aa hki;clear hT hkd hne hend hki;go_wp2_with fail;refine qE.out.mono ?_;rintro e w2 ⟨hb2,v2,rfl,hv2⟩;obtain ⟨p2,c2,rfl,_,_⟩:=aq.open hv2;clear hv2;have agm:w2.cell? ⟨w.heap.size,0,none⟩=some (.slice p ps.length cap):=(hb2.cell (p:=⟨w.heap.size,0,none⟩) (dL _ _ qw)).trans qw;have abj:w2.cell? ⟨w.heap.size,1,none⟩=some (.slice q ns.length dF):=(hb2.cell (p:=⟨w.heap.size,1,none⟩) (dL _ _ tI)).trans tI;have P9:Below w0.heap.size w0 w2:=hbr.trans (hb2.mono hbr.size);clear qw tI qE hb2;have L8:=hz k;have hnil:=toList_nil (gs ns k);have tu:=aa hnil;have K9:=aa P9;obtain ⟨b,off,rfl,hc0⟩:=OU.out k (by omega);have hc2:w2.cell? ⟨b,off+k,none⟩=some (.string (gs ns k)):=(P9.cell (p:=⟨b,off+k,none⟩) (dL _ _ hc0)).trans hc0;clear hc0 P9 hnil hz;cases hin:isIn ps k
      ·have nj:(iL (bL ps k)).length=0:=by
        rcases h:bL ps k with _ | ⟨a,l⟩
        ·rfl
        ·have h2:=HKI.out.1 (by rw [h];simp);rw [hin] at h2;cases h2
       rw [nj]
       have Cr:=aa hin
       clear nj hin
       have hnm:=abh (gs ns k) L8 w2
       have ij:=aa hnm
       clear hnm
       cases hnb:bq (gs ns k).data.toList
       ·have sU:=aa hnb
        rw [hnb] at ij
        clear hnb
        go_wp2_with fail
        refine ij.out.mono ?_
        rintro e w3 ⟨rfl,hb3⟩
        go_wp2
        go_ret
        exact ⟨aC (by rw [Hq.out (by rw [HE.out,Cr.out,sU.out];simp),HE.out,Cr.out,sU.out];simp),dJ.out.trans ((K9.out.mono (by have:=HS.out;omega)).trans (hb3.mono (by have:=HS.out;have:=K9.out.size;omega)))⟩
       ·have sU:=aa hnb
        rw [hnb] at ij
        clear hnb
        go_wp2_with fail
        refine ij.out.mono ?_
        rintro e w3 ⟨rfl,hb3⟩
        have agn:Below w0.heap.size w0 w3:=K9.out.trans (hb3.mono K9.out.size)
        have alU:w3.cell? ⟨w.heap.size,1,none⟩=some (.slice (some ⟨b,off,none⟩) ns.length dF):=(hb3.cell (p:=⟨w.heap.size,1,none⟩) (dL _ _ abj)).trans abj
        have hc3:w3.cell? ⟨b,off+k,none⟩=some (.string (gs ns k)):=(hb3.cell (p:=⟨b,off+k,none⟩) (dL _ _ hc2)).trans hc2
        have abk:=aa agn
        clear agm abj hc2 hb3 agn
        go_wp2
        go_loopw [5] (fun i wq=>∃j a:Nat,j<=k/\i=.int .i64 j/\Hid (∀m,m<j->decide (gs ns m=gs ns k)=false)/\wq=w3.drewN a) (fun i _=>k - (intOf i).toNat)
        case atStart=>exact ⟨0,0,aF _,rfl,fun j hj=>absurd hj (aZ _),rfl⟩
        case round =>
         obtain ⟨j,a,hj,rfl,hd2,rfl⟩:=hrel
         by_cases hjk:j<k
         ·obtain ⟨b',off',eb,B5⟩:=OU.out j (by omega)
          cases eb
          have TX:w3.cell? ⟨b,off+j,none⟩=some (.string (gs ns j)):=(abk.out.cell (p:=⟨b,off+j,none⟩) (dL _ _ B5)).trans B5
          clear B5
          have i1:(0:Int)<=(j:Int):=by omega
          have i2:(j:Int)<(ns.length:Int):=by omega
          have i3:(0:Int)<=(k:Int):=by omega
          have i4:(k:Int)<(ns.length:Int):=by omega
          have alV:=aa (toList_data (gs ns j))
          go_wp2
          go_quiet (fail)
          go_wp2_with fail
          ·have hs:cW ns k=true:=dx.2 ⟨j,bu.2 hjk,by simpa using KV ‹_›⟩
           go_ret
           exact ⟨aC (by rw [Hq.out (by rw [HE.out,Cr.out,sU.out,hs];simp),HE.out,Cr.out,sU.out,hs];simp),dJ.out.trans (Below.mono (B:=w0.heap.size) (below_drewN (below_drewN abk.out _) _) (by have:=HS.out;omega))⟩
          ·have hs:=OT ‹((gs ns j).toList==(gs ns k).toList)=false›
           go_roundw
           case rel=>exact ⟨j+1,_,by omega,by go_num,fun m hm=>if e:m=j then by subst e;simpa using hs else hd2.out m (by omega),rfl⟩
           case measure=>simp [intOf];omega
         ·have hs:cW ns k=false:=by
           rw [rN];intro e
           obtain ⟨m,hm,h2⟩:=dx.1 e
           have h3:=hd2.out m (by have:=bu.1 hm;omega)
           rw [h3] at h2;cases h2
          have JA:=aa hs
          clear hs
          go_wp2
          go_roundw
          case rel=>exact ⟨k+1,by omega,by go_num,fun m hm=>if e:m=k then by subst e;rw [HE.out,Cr.out,sU.out,JA.out];simp else hd.out m (by omega),below_drewN abk.out _⟩
          case measure=>simp [intOf];omega
      ·have nj:0<(iL (bL ps k)).length:=by
        have h2:=HKI.out.2 hin
        unfold iL;rw [aD];exact z7.2 h2
       generalize (iL (bL ps k)).length=m at *
       have Cr:=aa hin
       clear hin
       by_cases hg0:(gs ns k).size=0
       ·have hg1:(gs ns k).toList=[]:=tu.out.2 hg0
        have ue:=aa hg0
        clear hg0
        go_wp2
        go_roundw
        case rel=>exact ⟨k+1,by omega,by go_num,fun j hj=>if e:j=k then by subst e;rw [HE.out,Cr.out,ue.out];simp else hd.out j (by omega),K9.out⟩
        case measure=>simp [intOf];omega
       ·have hg1:((gs ns k).toList==[])=false:=by
         rw [rN];intro e;exact hg0 (tu.out.1 (by simpa using e))
        have hg2:((gs ns k).toList != [])=true:=by
         rw [bne_iff_ne];intro e;exact hg0 (tu.out.1 (by simpa using e))
        have ue:=aa hg0
        clear hg0
        go_wp2
        go_ret
        exact ⟨aC (by rw [Hq.out (by rw [HE.out,Cr.out,if_pos rfl,if_neg ue.out];simp),HE.out,Cr.out,if_pos rfl,if_neg ue.out]),dJ.out.trans (K9.out.mono (by have:=HS.out;omega))⟩
     ·have hk2:k=ps.length:=by omega
      clear hlt;go_wp2;go_ret;exact ⟨aC (by rw [HF.out,if_neg h0,if_neg h1,if_neg (by rw [H2.out];simp),hok.out,if_pos rfl,cG fun j hj=>hd.out j (by omega)]),dJ.out.trans (hbr.mono (by have:=HS.out;omega))⟩
 ·have Xt:((ns.length:Int) != ps.length)=true:=by simp;omega
  go_in;go_wp2;go_ret;exact ⟨aC (by rw [HF.out,if_neg h0,if_neg h1,if_pos h2]),dJ.out⟩
def zi (t:ax):ax:=flat (wW (jE t))
def ago (w:World) (t:ax) (e:Ending) (w':World):Prop :=
 Up w w'/\((aA t≠0/\e=.returned (.tuple #[.agg #[.slice none 0 0,.slice none 0 0],.int .i64 1]))\/(aA t=0/\∃v,e=.returned (.tuple #[v,.int .i64 0])/\aG (fun b=>w.heap.size<=b) w' v (zi t)))
theorem abl (S:Nat->Prop) (w:World) (v:Value) (t:ax) (hT:aG S w v t) (hp:t.ps.length<=1000000) (hn:t.ns.length<=1000000) (hz:∀k,(gs t.ns k).size<=70000):Calls Tryz.prog 147 #[v] w (ago w t):=by
 obtain ⟨P,N,rfl,hP,hN⟩:=hT;have hu:=(Up.alloc w (.cells #[P,N] 39)).trans (Up.alloc _ (.cells #[.slice none 0 0,.slice none 0 0] 39));have nt:aG S ((w.alloc (.cells #[P,N] 39)).alloc (.cells #[.slice none 0 0,.slice none 0 0] 39)) (.agg #[P,N]) t:=aG.keep ⟨P,N,rfl,hP,hN⟩ (hu.kept _);have gw:=aa (Im S _ _ t nt hp hn hz);have HT:=aa nt;have HU:=aa hu;have lV:=aa ((Up.alloc _ (.cells #[.slice none 0 0,.slice none 0 0] 39)).cell (iq w P N 39));have gA:=aa ((Up.alloc _ (.cells #[.slice none 0 0,.slice none 0 0] 39)).cell (jg w P N 39));have hc0:=lV.out;have hc1:=gA.out;have hrb:=iN (w:=w.alloc (.cells #[P,N] 39)) (P:=.slice none 0 0) (N:=.slice none 0 0) (T:=39);have hsz:((w.alloc (.cells #[P,N] 39)).alloc (.cells #[.slice none 0 0,.slice none 0 0] 39)).heap.size=w.heap.size+2:=by simp
 rw [aQ] at hrb;have gY:=aa hrb;have dM:=aa hsz;clear hu nt hP hN hrb hsz;go_in;go_wp2_with fail;generalize (w.alloc (.cells #[P,N] 39)).alloc (.cells #[.slice none 0 0,.slice none 0 0] 39)=w1 at *;refine gw.out.mono ?_;rintro e w2 ⟨rfl,hb2⟩;have aI:Up w1 w2:=hb2;have hc0:=aI.cell lV.out;have hc1:=aI.cell gA.out;have wE:=aa (HT.out.keep (aI.kept S));have lG:=(bH aI (w.heap.size+1) (by rw [dM.out];omega)).trans gY.out;have b7:=aa (HU.out.trans aI);have sg:Hid (w.heap.size+2<=w2.heap.size):=by unfold Hid;have:=aI.size;rw [dM.out] at this;exact this
 clear hb2 aI gw HT HU lV gA gY;by_cases he:aA t=0
 ·have HE:=aa he
  rw [he];have vu:=aa lG;have DY:=aa (aey S t he (dI t 0) 0 (ah _) (aH he).1 w2 _ wE.out);have hsize:=MD he;have agp:=MK (jE t);have HSI:=aa (And.intro hsize agp);clear lG he hsize agp;go_wp2_with fail;refine DY.out.mono ?_;rintro e w3 ⟨cR,v3,rfl,hr3⟩;have eW:=aa cR;have HOD:=aa (Yf _ 64 (jE t) HSI.out.1 (by omega) w3 _ hr3);clear cR hr3 DY;go_wp2_with fail;refine HOD.out.mono ?_;rintro e w4 ⟨gU,v4,rfl,hr4⟩;have k7:=aa (eW.out.trans gU);have sU:=aa (aa8 _ w4 _ (wW (jE t)) hr4 (by have:=HSI.out;omega));have xy:Hid (w.heap.size+2<=w4.heap.size):=by unfold Hid;have:=k7.out.size;have:=sg.out;omega
  clear gU hr4 HOD eW;go_wp2_with fail;refine sU.out.mono ?_;rintro e w5 ⟨gJ,_,rfl,P4,N4,rfl,qB,qD⟩;have qB:af (fun b=>w4.heap.size<=b) w5 P4 (zi t).ps:=qB;have qD:aj (fun b=>w4.heap.size<=b) w5 N4 (zi t).ns:=qD;obtain ⟨pp,pc,rfl,_,_⟩:=aq.open qB;obtain ⟨np,nc,rfl,_,_⟩:=aq.open qD;have oz:=(bH (k7.out.trans gJ) (w.heap.size+1) (by have:=sg.out;omega)).trans vu.out;have nV:w5.cell? ⟨w.heap.size+1,0,none⟩=some (.slice none 0 0):=by simp [World.cell?,oz]
  have hr1:w5.cell? ⟨w.heap.size+1,1,none⟩=some (.slice none 0 0):=by simp [World.cell?,oz]
  have Ch:w5.frozen? ⟨w.heap.size+1,0,none⟩=false:=by simp [World.frozen?,oz]
  have sQ:w5.frozen? ⟨w.heap.size+1,1,none⟩=false:=by simp [World.frozen?,oz]
  have Mv:=aa qB;have X5:=aa qD;have HST:=aa (gz (w:=w) (p:=.slice pp (zi t).ps.length pc) (q:=.slice np (zi t).ns.length nc) oz (by omega) (b7.out.trans (k7.out.trans gJ)));clear qB qD gJ oz sU vu hc0 hc1;go_wp2_with fail;obtain ⟨s1,s2,s3,s4⟩:=HST.out;have hs2:=sg.out;have hs4:=xy.out;refine ⟨rfl,.tuple #[.agg #[.slice pp (zi t).ps.length pc,.slice np (zi t).ns.length nc],.int .i64 0],by simp [results,Tryz.results147,go_sem,s2,s3],?_⟩;exact ⟨s1,.inr ⟨HE.out,_,rfl,_,_,rfl,(af.keep Mv.out fun b hb _=>s4 b (by omega)).sub fun b hb _=>by omega,(aj.keep X5.out fun b hb _=>s4 b (by omega)).sub fun b hb _=>by omega⟩⟩
 ·have Mz:(aA t != 0)=true:=by simpa using he
  have nV:w2.cell? ⟨w.heap.size+1,0,none⟩=some (.slice none 0 0):=by simp [World.cell?,lG]
  have hr1:w2.cell? ⟨w.heap.size+1,1,none⟩=some (.slice none 0 0):=by simp [World.cell?,lG]
  have Ch:w2.frozen? ⟨w.heap.size+1,0,none⟩=false:=by simp [World.frozen?,lG]
  have sQ:w2.frozen? ⟨w.heap.size+1,1,none⟩=false:=by simp [World.frozen?,lG]
  have HST:=aa (gz (w:=w) (p:=.slice none 0 0) (q:=.slice none 0 0) lG (by omega) b7.out);have HE:=aa he;clear he lG hc0 hc1;generalize aA t=te at Mz ⊢;go_wp2_with fail;obtain ⟨s1,s2,s3,s4⟩:=HST.out;refine ⟨rfl,.tuple #[.agg #[.slice none 0 0,.slice none 0 0],.int .i64 1],by simp [results,Tryz.results147,go_sem,s2,s3],?_⟩;exact ⟨s1,.inl ⟨HE.out,rfl⟩⟩
def Small (l:List Int):Prop:=∀k,k<l.length->0<=gi l k/\gi l k<32
theorem Tryz.tP:(Tryz.prog.info? 26).map (fun i=>(i.zero,i.size,i.bytes))=some (some (.slice none 0 0),1,24):=by kernel_rfl
def Nmd (Q:ByteArray->Prop) (t:ax):Prop:=∀s∈t.ns,Q s
theorem Nmd.gs {Q:ByteArray->Prop} {t:ax} (h:Nmd Q t) (h0:Q ByteArray.empty) (k:Nat):Q (gs t.ns k):=by
 by_cases hk:k<t.ns.length
 ·exact h _ (by simp [YthgabkgmkolobaaGreat.gs,hk])
 ·have:YthgabkgmkolobaaGreat.gs t.ns k=ByteArray.empty:=by simp [YthgabkgmkolobaaGreat.gs,show t.ns.length<=k by omega]
  rw [this];exact h0
theorem zj (W:World):aG Any W (.agg #[.slice none 0 0,.slice none 0 0]) ⟨[],[]⟩ :=
 ⟨_,_,rfl,⟨none,0,rfl,ah _,.inl rfl⟩,⟨none,0,rfl,ah _,.inl rfl⟩⟩
theorem boxed {W:World} {B:Nat} {P N:Value} (hb:W.heap[B]? = some (Obj.cells #[P,N] 39 (0,0))):W.cell? ⟨B,0,none⟩=some P/\W.cell? ⟨B,1,none⟩=some N/\W.frozen? ⟨B,0,none⟩=false/\W.frozen? ⟨B,1,none⟩=false:=by
 refine ⟨?_,?_,?_,?_⟩<;>simp [World.cell?,World.frozen?,hb]
theorem E3 {S:Nat->Prop} {w:World} {b off n cap:Nat} {xs:List ByteArray} (h:aj S w (.slice (some ⟨b,off,none⟩) n cap) xs) {k:Nat} (hk:k<=xs.length):aq S w (.slice (some ⟨b,off,none⟩) k cap) k (fun j=>.string (gs xs j)):=by
 obtain ⟨q,c,e,hn,h⟩:=h;injection e with e1 e2 e3;subst e1;subst e2;subst e3;refine ⟨_,cap,rfl,by omega,?_⟩;rcases h with h | ⟨b',o',e,hS,h⟩
 ·exact .inl (by omega)
 ·exact .inr ⟨b',o',e,hS,fun j hj=>h j (by omega)⟩
section
variable {P:Program} {ops:Array Oper} {rest:List Oper} {o:Oper} {a:Act} {Q:Exit->Act->World->Prop}
theorem qg (W:World) (hgd:o.guard=none) (s x:Operand) (t:TypeId) (ho:o.op=.call { callee:=.builtin .append,args:=#[s,x],argTypes:=#[t,t] })
  (base:Nat) (e:TypeId) (z:Value) (bytes:Nat) (ht:P.underlying t=some (.slice e)) (hinfo:(P.info? e).map (fun i=>(i.zero,i.size,i.bytes))=some (some z,1,bytes))
  (hz1:z.cells.size=1) (lN:bytes<=64) {v:Value} {vs:List Value} (hown:au base e W v vs) (hs:a.eval s=v) (u:Value) (m:Nat) (hm:W.heap.size=m)
  (hx:a.eval x=.slice (some ⟨m,0,none⟩) 1 1) (h1:u.oneCell'=true) (n:Nat) (tJ:vs.length=n) (hn:n<=1000000) (hbase:base<=W.heap.size)
  (h:∀g cap w',au base e w' (.slice (some ⟨g,0,none⟩) (n+1) cap) (vs++[u])->W.grownBy w' v.ownBlock->Below base W w'->wpList P ops Q rest (a.put o.dst (.slice (some ⟨g,0,none⟩) (n+1) cap)) w') :
  wpList P ops Q (o::rest) a (W.alloc (.cells #[u] e)):=by
 subst tJ;subst hm;exact nK W hgd s x t ho base e z bytes ht hinfo hz1 lN hown hs u hx h1 hn hbase h
end
theorem Cs (S:Nat->Prop) (w:World) (v:Value) (xs:List Int) (x:Int) (h:af S w v xs) (hn:xs.length<=1000000) :
  Calls Tryz.prog 14 #[v,.int .i64 x] w fun e w'=>e=.returned (.bool ((List.range xs.length).any fun j=>decide (x=gi xs j)))/\w=w':=by
 have hx:=iK (fun j=>decide (x=gi xs j)) xs.length;have HX:=aa hx;have HI:=aa (Gw S w v xs x h hn);clear hx h;go_in;go_wp2_with fail;refine HI.out.mono ?_;rintro e w' ⟨rfl,rfl⟩;go_wp2;go_ret;exact ⟨aO (by rw [<- HX.out]),rfl⟩
end
section
theorem E4 {α β:Type} {f g:α->List β}:∀l:List α,(∀a∈l,(f a).Perm (g a))->(l.flatMap f).Perm (l.flatMap g)
 | [],_=>mM _
 | a::l,h=>by
  rw [gj,gj]
  exact (h a (by simp)).append (E4 l fun b hb=>h b (by simp [hb]))
def rz (s:RT):Prop:=(s.kids≠[]->s.nm.size=0)/\(s.kids=[]->bq s.nm.data.toList=true)/\s.kids.length≠1
def sF (l:List ByteArray):List ByteArray:=l.filter fun s=>decide (s.size≠0)
theorem Qa (a b:List ByteArray):sF (a++b)=sF a++sF b:=rO _ _
theorem iX {nm:ByteArray} {ks:List RT} (h:nm.size=0):bM (.node nm ks)=ks.flatMap bM:=by
 have key:∀ks:List RT,sF (eu ks)=ks.flatMap bM:=by
  intro ks
  induction ks with
  | nil=>rfl
  | cons r rs ih=>rw [eu,Qa,ih,gj];rfl
 show sF (eo _)=_;rw [eo,<- key];unfold sF;rw [FY (by simp [h])]
theorem nA {nm:ByteArray} (h:nm.size≠0):bM (.node nm [])=[nm]:=by
 show List.filter _ (eo _)=_;rw [eo,eu,FZ (by simpa using h)];rfl
mutual
theorem size_le:∀r:RT,(∀s∈bh r,rz s)->aP r+1<=2*(bM r).length
 | .node nm [],h=>by
  have h1:bq nm.data.toList=true:=(h (.node nm []) (by rw [bh];simp)).2.1 rfl
  rw [nA (gK h1)];simp [aP,aK]
 | .node nm (k::ks),h=>by
  have h0:=h (.node nm (k::ks)) (by rw [bh];simp)
  have h1:nm.size=0:=h0.1 (by simp [RT.kids])
  have h2:(k::ks).length≠1:=h0.2.2
  rw [iX h1]
  have h3:=Qb (k::ks) (fun s hs=>h s (by rw [bh];exact mX _ hs))
  rw [aW] at h2 h3
  rw [aP];omega
theorem Qb:∀rs:List RT,(∀s∈dO rs,rz s)->aK rs+rs.length<=2*(rs.flatMap bM).length
 | [],_=>by simp [aK]
 | r::rs,h=>by
  have h1:=size_le r (fun s hs=>h s (by rw [dO];exact Je _ hs))
  have h2:=Qb rs (fun s hs=>h s (by rw [dO];exact Jf _ hs))
  rw [aK,gj,bg,aW];omega
end
end
section
open Go.RowKit Go.Deep
theorem Io:∀a b:List UInt8,Op.bytesLess a b=decide (Lib.compareBytes a b<0)
 | [],[]=>rfl
 | [],_::_=>rfl
 | _::_,[]=>rfl
 | a::x,b::y=>by
  rw [Op.bytesLess,Lib.compareBytes,Io x y]
  by_cases h:a<b
  ·simp [h]
  ·by_cases h2:b<a
   ·have:a≠b:=by rintro rfl;exact h h2
    simp [h,h2,this]
   ·have:a=b:=by
     apply UInt8.toNat.inj
     rw [yC] at h h2;omega
    subst this
    simp [h]
theorem TY (a b:ByteArray):EX a b=decide (eB a b<0):=by
 unfold EX eB;rw [Io,Lib.toList_data,Lib.toList_data]
theorem tD (a b:ByteArray):nN a b=if eB a b<=0 then a else b:=by
 unfold nN;rw [TY];by_cases h:a.toList=b.toList
 ·have e:a=b:=yD (by rw [<- Lib.toList_data,<- Lib.toList_data,h])
  subst e;simp [Mi]
 ·have e:eB a b≠0:=fun q=>h (by rw [lU q])
  by_cases h1:eB a b<=0
  ·rw [if_pos h1,if_pos];simp;left;omega
  ·rw [if_neg h1,if_neg];simp [h];omega
theorem th {a b c:ByteArray} (h:eB a b<=0) (h':eB b c<=0):eB a c<=0:=by
 by_cases h1:eB a b=0
 ·rw [lU h1];exact h'
 ·by_cases h2:eB b c=0
  ·rw [<- lU h2];exact h
  ·have:=xQ (a:=a) (b:=b) (c:=c) (by omega) (by omega);omega
theorem Qc {s a b:ByteArray} (h:eB a b<=0):nN (nN s a) b=nN s a:=by
 rw [tD s a];split
 ·rename_i h1;rw [tD,if_pos (th h1 h)]
 ·rw [tD,if_pos h]
theorem Qd {s a b:ByteArray} (h:¬eB a b<=0):nN (nN s a) b=nN s b:=by
 have hb:=lT a b;rw [tD s a];split
 ·rfl
 ·rename_i h1
  rw [tD a b,if_neg h,tD s b,if_neg];intro q;exact h1 (th q (by omega))
def V3 (s:ByteArray):List RT->ByteArray
 | []=>s
 | b::_=>nN s (aU b)
theorem Ym (s:ByteArray) (a:RT):∀l,V3 s (gD a l)=V3 (nN s (aU a)) l
 | []=>rfl
 | b::l=>by
  rw [gD]
  split
  ·rename_i h;show nN s _=nN (nN s _) _;rw [Qc h]
  ·rename_i h;show nN s _=nN (nN s _) _;rw [Qd h]
mutual
theorem xY:∀r:RT,fV r=aU (bJ r)
 | .node nm []=>by rw [fV,bJ,fM,aU]
 | .node nm (k::ks)=>by
  rw [fV,GN ks,xY k,bJ,fM]
  cases h:fM ks with
  | nil=>rfl
  | cons b l =>
   rw [gD]
   show nN _ _=_
   rw [tD]
   split
   ·rw [aU]
   ·rw [aU]
theorem GN:∀(rs:List RT) (s:ByteArray),lH s rs=V3 s (fM rs)
 | [],s=>by rw [lH,fM];rfl
 | r::rs,s=>by rw [lH,GN rs,xY r,fM,Ym]
end
theorem Qe {s:ByteArray} {o:RT} (hs:s=aU o):∀ {l:List RT},(∀b∈l,fV b=aU b)->vB s o l=gD o l
 | [],_=>rfl
 | b::l,h=>by
  have hb:=h b (by simp)
  have ha:=lT (aU b) (aU o)
  have ih:=Qe hs (l:=l) fun q hq=>h q (by simp [hq])
  unfold vB at ih ⊢
  rw [vA,gD,hb,TY,hs]
  by_cases e:eB (aU o) (aU b)<=0
  ·rw [if_pos e,if_neg (by simp;omega)];rfl
  ·rw [if_neg e,if_pos (by simp;omega),yA,List.drop_succ_cons,cm,<- hs,ih]
theorem E5 {a b:RT} (h:aU a≠aU b):∀l,gD a (gD b l)=gD b (gD a l)
 | []=>by
  have h1:=lT (aU a) (aU b)
  have h2:eB (aU a) (aU b)≠0:=fun q=>h (lU q)
  simp only [gD]
  by_cases e:eB (aU a) (aU b)<=0
  ·rw [if_pos e,if_neg (by omega)]
  ·rw [if_neg e,if_pos (by omega)]
 | c::l=>by
  have h1:=lT (aU a) (aU b)
  have h2:eB (aU a) (aU b)≠0:=fun q=>h (lU q)
  by_cases ea:eB (aU a) (aU c)<=0
  ·by_cases eb:eB (aU b) (aU c)<=0
   ·by_cases e:eB (aU a) (aU b)<=0
    ·have e':¬eB (aU b) (aU a)<=0:=by omega
     simp only [gD,ea,eb,e,e',if_true,if_false]
    ·have e':eB (aU b) (aU a)<=0:=by omega
     simp only [gD,ea,eb,e,e',if_true,if_false]
   ·have e':¬eB (aU b) (aU a)<=0:=fun q=>eb (th q ea)
    simp only [gD,ea,eb,e',if_true,if_false]
  ·by_cases eb:eB (aU b) (aU c)<=0
   ·have e':¬eB (aU a) (aU b)<=0:=fun q=>ea (th q eb)
    simp only [gD,ea,eb,e',if_true,if_false]
   ·simp only [gD,ea,eb,if_false]
    rw [E5 h l]
theorem Qf {a x:RT}:∀ {l:List RT},x∈gD a l↔x=a\/x∈l
 | []=>by simp [gD]
 | b::l=>by
  rw [gD]
  split
  ·simp
  ·rw [bA,Qf (l:=l),bA]
   constructor
   ·rintro (h | h | h)<;>simp [h]
   ·rintro (h | h | h)<;>simp [h]
def Dst (r:RT):Prop:=∀s∈bh r,(s.kids.map fun k=>aU (bJ k)).Nodup
def foldI (acc:List RT):List RT->List RT
 | []=>acc
 | c::cs=>gD (bJ c) (foldI acc cs)
theorem MM {a:RT}:∀(cs acc:List RT),(∀c∈cs,aU a≠aU (bJ c))->foldI (gD a acc) cs=gD a (foldI acc cs)
 | [],_,_=>rfl
 | c::cs,acc,h=>by
  rw [foldI,foldI,MM cs acc (fun q hq=>h q (by simp [hq])),E5 (h c (by simp))]
theorem MN:∀cs:List RT,foldI [] cs=fM cs
 | []=>by rw [foldI,fM]
 | c::cs=>by rw [foldI,fM,MN cs]
mutual
theorem Qg:∀r:RT,Dst r->wW r=bJ r
 | .node nm ks,h=>by
  have h0:=h (.node nm ks) (by rw [bh];simp)
  rw [wW,bJ,MO ks [] (fun s hs=>h s (by rw [bh];simp [hs])) h0 (by simp),MN]
theorem MO:∀(cs acc:List RT),(∀s∈dO cs,(s.kids.map fun k=>aU (bJ k)).Nodup)->(cs.map fun k=>aU (bJ k)).Nodup->(∀b∈acc,fV b=aU b)->iW acc cs=foldI acc cs
 | [],acc,_,_,_=>by rw [iW,foldI]
 | c::cs,acc,h,hn,ha=>by
  have hc:=Qg c (fun s hs=>h s (by rw [dO];simp [hs]))
  have hl:fV (bJ c)=aU (bJ c):=by rw [xY,De]
  rw [dV,qu] at hn
  rw [iW,hc,Qe (xY c) ha,MO cs _ (fun s hs=>h s (by rw [dO];simp [hs])) hn.2 (fun b hb=>by
   rcases Qf.1 hb with rfl | hb
   ·exact hl
   ·exact ha b hb),foldI,MM cs acc]
  intro q hq e
  exact hn.1 (bI.2 ⟨q,hq,e.symm⟩)
end
mutual
theorem Qh:∀(r s:RT),s∈bh r->(eo s).Sublist (eo r)
 | .node nm ks,s,h=>by
  rw [bh,bA] at h
  rcases h with rfl | h
  ·exact List.Sublist.refl _
  ·rw [eo];exact (MP ks s h).trans (List.sublist_cons_self _ _)
theorem MP:∀(rs:List RT) (s:RT),s∈dO rs->(eo s).Sublist (eu rs)
 | [],s,h=>by simp [dO] at h
 | r::rs,s,h=>by
  rw [dO,ey] at h
  rw [eu]
  rcases h with h | h
  ·exact (Qh r s h).trans (List.sublist_append_left _ _)
  ·exact (MP rs s h).trans (List.sublist_append_right _ _)
end
theorem dR {r s:RT} (h:s∈bh r):(bM s).Sublist (bM r):=(Qh r s h).filter _
theorem dm (r:RT):r∈bh r:=by cases r;rw [bh];simp
theorem xZ:∀r:RT,(∀s∈bh r,s.kids=[]->bq s.nm.data.toList=true)->aU r∈bM r
 | .node nm [],h=>by
  have h1:bq nm.data.toList=true:=h (.node nm []) (dm _) rfl
  rw [nA (gK h1),aU];simp
 | .node nm (k::ks),h=>by
  have hk:∀s∈bh k,s∈bh (.node nm (k::ks)):=fun s hs=>by rw [bh,dO];simp [hs]
  rw [aU]
  exact (dR (hk k (dm k))).subset (xZ k fun s hs=>h s (hk s hs))
theorem E6 {k:RT}:∀ {ks:List RT},k∈ks->∀s∈bh k,s∈dO ks
 | b::ks,h,s,hs=>by
  rw [dO,ey]
  rcases bA.1 h with rfl | h
  ·exact .inl hs
  ·exact .inr (E6 h s hs)
mutual
theorem kD:∀(r:RT) {s u:RT},s∈bh r->u∈bh s->u∈bh r
 | .node nm ks,s,u,h,hu=>by
  rw [bh,bA] at h
  rcases h with rfl | h
  ·exact hu
  ·rw [bh];exact mX _ (GP ks h hu)
theorem GP:∀(rs:List RT) {s u:RT},s∈dO rs->u∈bh s->u∈dO rs
 | [],s,u,h,_=>by simp [dO] at h
 | r::rs,s,u,h,hu=>by
  rw [dO,ey] at h ⊢
  rcases h with h | h
  ·exact .inl (kD r h hu)
  ·exact .inr (GP rs h hu)
end
theorem Ip {r:RT} (h:jm r):Dst r:=by
 intro s hs;have iF:(bM s).Nodup:=(dR hs).nodup h.nd;obtain ⟨nm,ks⟩:=s;show (ks.map _).Nodup;by_cases hk:ks=[]
 ·subst hk;simp
 ·rw [iX (nm:=nm) (ks:=ks) (h.y9 (.node nm ks) hs hk)] at iF
  have hmem:∀k∈ks,aU (bJ k)∈bM k:=fun k hk=>(rW k).mem_iff.1 (xZ _ fun q hq hqk=>by
   obtain ⟨x,hx,rfl⟩:=bI.1 ((ny k).mem_iff.1 hq);rw [xU] at hqk;rw [za]
   exact h.lf x (kD r hs (by rw [bh];exact mX _ (E6 hk x hx))) (uw.1 hqk))
  clear hs hk
  induction ks with
  | nil=>simp
  | cons k ks ih =>
   rw [gj,ua] at iF;rw [dV,qu];refine ⟨fun hm=>?_,ih iF.2.1 fun q hq=>hmem q (by simp [hq])⟩;obtain ⟨q,hq,e⟩:=bI.1 hm;exact iF.2.2 _ (hmem k (by simp)) _ (iA.2 ⟨q,hq,hmem q (by simp [hq])⟩) e.symm
theorem Yn {t:ax} (h:aA t=0):zi t=kW t:=by
 unfold zi;rw [Qg _ (Ip (rj h)),oQ h]
end
section
section
variable {amd:List ByteArray} {l:List TA}
theorem abm (amd:List ByteArray):(List.range amd.length).map (gs amd)=amd:=by
 refine tY (by simp) fun i h1 h2=>?_;simp [gs,h2]
end
end
end Go.Proofs.YthgabkgmkolobaaGreat
