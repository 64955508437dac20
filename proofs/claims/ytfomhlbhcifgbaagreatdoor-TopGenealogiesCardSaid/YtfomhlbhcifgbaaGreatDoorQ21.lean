/- stemma.FromTree. -/
import Derived.Test.YtfomhlbhcifgbaaGreatDoorQ19
set_option maxRecDepth 100000
set_option maxHeartbeats 8000000
namespace Go.Proofs.YtfomhlbhcifgbaaGreatDoor
open Go.RowKit Go.Deep
theorem Tryz.dD:(Tryz.prog.info? 4).map (fun i=>(i.zero,i.size,i.bytes))=some (some (.bool false),1,1):=by kernel_rfl
def Nq (w:World) (t:aA) (e:Ending) (w':World):Prop :=
 Up w w'/\((qm t=true/\e=.returned (.tuple #[.agg #[.slice none 0 0,.slice none 0 0,.slice none 0 0],.int .i64 7])) \/
  (qm t=false/\∃v,e=.returned (.tuple #[v,.int .i64 0])/\aP Any w' v ⟨bI t,dm t,aH t⟩))
theorem BH (S:Nat->Prop) (w:World) (v:Value) (t:aA) (h:aJ S w v t) (ht:aF t=0) (hn:t.ps.length<=7) (hz:∀k,(gs t.ns k).size<=70000) :
  Calls Tryz.prog 8 #[v] w (Nq w t):=by
 obtain ⟨j9,CD,hnl,hok,-⟩:=aG ht;obtain ⟨P,N,rfl,hP,hN⟩:=h;obtain ⟨pp,pc,rfl,-,-⟩:=aB.open hP;obtain ⟨np,nc,rfl,-,-⟩:=aB.open hN;have hP:af S w (.slice pp t.ps.length pc) t.ps:=hP;have hN:aC S w (.slice np t.ns.length nc) t.ns:=hN;rw [hnl] at hN ⊢;obtain ⟨Q,hQ⟩:∃Q,Q=Nq w t:=⟨_,rfl⟩;have HDU:Hid (∀W,Up w W->qm t=true->Q (.returned (.tuple #[.agg #[.slice none 0 0,.slice none 0 0,.slice none 0 0],.int .i64 7])) W):=fun W hW h=>by rw [hQ];exact ⟨hW,.inl ⟨h,rfl⟩⟩
 have pZ:Hid (∀W u,Up w W->qm t=false->aP Any W u ⟨bI t,dm t,aH t⟩->Q (.returned (.tuple #[u,.int .i64 0])) W):=fun W u hW h1 h2=>by rw [hQ];exact ⟨hW,.inr ⟨h1,u,rfl,h2⟩⟩
 rw [<- hQ];clear hQ;obtain ⟨rb,hrb⟩:∃rb,rb=w.heap.size:=⟨_,rfl⟩;obtain ⟨w1,hw1⟩:∃w1,w1=(w.alloc (.cells #[.slice pp t.ps.length pc,.slice np t.ps.length nc] 33)).alloc (.cells #[.slice none 0 0,.slice none 0 0,.slice none 0 0] 36):=⟨_,rfl⟩;have aM:Up w w1:=by rw [hw1];exact (Up.alloc _ _).trans (Up.alloc _ _)
 have k0:w1.cell? ⟨rb,0,none⟩=some (.slice pp t.ps.length pc):=by rw [hw1,hrb];exact (Up.alloc _ _).cell (mC w _ _ _)
 have k1:w1.cell? ⟨rb,1,none⟩=some (.slice np t.ps.length nc):=by rw [hw1,hrb];exact (Up.alloc _ _).cell (mD w _ _ _)
 have k2:w1.heap[rb+1]? = some (Obj.cells #[.slice none 0 0,.slice none 0 0,.slice none 0 0] 36 (0,0)):=by have:=fQ (w.alloc (.cells #[.slice pp t.ps.length pc,.slice np t.ps.length nc] 33)) (.slice none 0 0) (.slice none 0 0) (.slice none 0 0) 36;rw [aN] at this;rw [hw1,hrb];exact this
 have fo:=aa (qY S w1 (.agg #[.slice pp t.ps.length pc,.slice np t.ps.length nc]) t ⟨_,_,rfl,af.keep hP (aM.kept S),aC.keep hN (aM.kept S)⟩ (by omega) (by omega) hz);rw [ht] at fo;have HP:=aa (af.keep hP (aM.kept S));have HN:=aa (aC.keep hN (aM.kept S));have bU:=aa aM;have K0:=aa k0;have K1:=aa k1;have K2:=aa k2;have wK:=aa hrb;have F7:=aa hnl;have HT:=aa ht;have HZ:=aa hz;rw [hw1] at k0 k1;clear hP hN aM k2 hnl ht hok hz CD;generalize hnn:t.ps.length=n at *;have kF:=aa hnn;clear hnn
 go_in;go_wp2_with fail;rw [<- hw1,<- hrb];clear hw1 k0 k1 hrb;refine fo.out.mono ?_;rintro e w2 ⟨rfl,hb⟩;have aK:Up w1 w2:=hb;have k0:=aK.cell K0.out;have k1:=aK.cell K1.out;have bF:=aa (bU.out.trans aK);have WB:=aa (af.keep HP.out (aK.kept S));have Nr:=aa (aC.keep HN.out (aK.kept S));have zD:=aa (aK.cell K0.out);have Gl:=aa ((aO aK _ (bq.1 K2.out).1).trans K2.out);have Dx:=aa (G3.new w2);have DW:=aa k1
 have a1:=(Up.alloc w2 (.cells #[.slice none 0 0,.slice none 0 0,.slice none 0 0] 36)).cell k1;have a0:=(Up.alloc w2 (.cells #[.slice none 0 0,.slice none 0 0,.slice none 0 0] 36)).cell k0;clear hb aK bU HP HN K0 K1 K2 fo;go_wp2_with fail;clear a0 a1 k0 k1;obtain ⟨tb,htb⟩:∃tb,tb=w2.heap.size:=⟨_,rfl⟩;rw [<- htb] at Dx ⊢;generalize w2.alloc (.cells #[.slice none 0 0,.slice none 0 0,.slice none 0 0] 36)=w3 at *;have rI:=aa htb;clear htb
 go_loopw [5,6,7,8,18] (fun _ _ _ _ i wr=>∃k:Nat,k<=n/\i=.int .i64 k/\∃a b c R,Hid (G3 tb w2 wr a b c (((bI t).take k).map Value.string) (((dm t).take k).map Value.bool) (R.map (·.1)) R/\R.map (·.2)=(aH t).take k)) (fun _ _ _ _ i _=>n - (intOf i).toNat)
 case atStart=>exact ⟨0,bg _,rfl,_,_,_,[],Dx.out,rfl⟩
 case round =>
  obtain ⟨k,hk,rfl,a,b,c,R,hG⟩:=hrel;obtain ⟨wo,rfl⟩:=e9 wr;obtain ⟨hG,hR⟩:=hG.out;have hU:Up w2 wo:=by have:=hG.lq;rw [rI.out] at this;exact this
  have c0:=hU.cell zD.out;have c1:=hU.cell DW.out;by_cases hlt:k<n
  ·have ki:(((bI t).take k).map Value.string).length=k:=by rw [aD,iy,di,kF.out];omega
   (have hl2:(((dm t).take k).map Value.bool).length=k:=by rw [aD,iy,gu,kF.out];omega);(have nt:(R.map (·.1)).length=k:=by have h1:=congrArg List.length hR;rw [aD,iy,cG,kF.out] at h1;rw [aD];omega);obtain ⟨ap,ac,rfl,-⟩:=hG.f.ao.form ki;obtain ⟨bp,bc,rfl,-⟩:=hG.f.bo.form hl2;obtain ⟨cp,cc,rfl,-⟩:=hG.f.co.form nt;have b6:Hid ((((bI t).take k).map Value.string).length<=1000000/\(((dm t).take k).map Value.bool).length<=1000000/\(R.map (·.1)).length<=1000000):=⟨by omega,by omega,by omega⟩
   have HLE:Hid ((((bI t).take k).map Value.string).length=k/\(((dm t).take k).map Value.bool).length=k/\(R.map (·.1)).length=k):=⟨ki,hl2,nt⟩;have DZ:=aa (Qs t (k:=k) (by rw [kF.out];exact hlt));have zC:=aa (Qt t (k:=k) (by rw [kF.out];exact hlt));have S3:=aa (MQ t (k:=k) (by rw [kF.out];exact hlt));obtain ⟨nb,no,rfl,dZ⟩:=fI (aC.keep Nr.out (hU.kept S)) (k:=k) (by rw [F7.out];exact hlt);obtain ⟨pb,po,rfl,jw⟩:=dh (af.keep WB.out (hU.kept S)) (k:=k) (by rw [kF.out];exact hlt);have hG:=aa hG;have HR:=aa hR
   have bf:=aa hlt;(have i1:(k:Int)<(n:Int):=by omega);(have i2:(k:Int)<8:=by omega);(have i3:k<10:=by omega);have BI:=aa (VP k i3 wo);have Ns:Hid (mF t k=if (gs t.ns k).size=0 then ⟨(120::Lib.decDigits k).toArray⟩ else gs t.ns k):=rfl;generalize hnm:gs t.ns k=nm at *;generalize hpk:gi t.ps k=pk at *;clear ki hl2 nt hlt hU hR;obtain ⟨bl,hbl⟩:∃bl,bl=decide (nm.size≠0):=⟨_,rfl⟩;(have d4:(nm.toList==[])=!bl:=by rw [hbl,nM];simp [toList_nil]);have wP:Hid (decide (nm.size≠0)=bl):=hbl.symm;(have z1:(xM k).size<=10:=by show 1<=10;decide);clear hbl
   go_upto_if 26 with fail
   go_cut [6] from 19 to 56 (fun s6 wx=>s6=.string (mF t k)/\wx=wo)
   case first =>
    have ack:=aa Ns.out;cases bl
    ·have Nt:Hid (mF t k=(⟨#[120]⟩:ByteArray)++xM k):=by
      have h0:nm.size=0:=by have h:=wP.out;simpa using h
      unfold Hid;rw [Ns.out,if_pos h0,Lib.decDigits_one i3];unfold xM;rfl
     clear Ns wP
     go_wp2_with fail
     refine BI.out.mono ?_
     rintro e w' ⟨rfl,rfl⟩
     go_wp2
     go_meet
     case rel=>exact ⟨by rw [Nt.out],rfl⟩
    ·have Nt:Hid (mF t k=nm):=by
      have h0:nm.size≠0:=by have h:=wP.out;simpa using h
      unfold Hid;rw [Ns.out,if_neg h0]
     clear Ns wP
     go_wp2
     go_meet
     case rel=>exact ⟨by rw [Nt.out],rfl⟩
   case rest =>
    obtain ⟨rfl,rfl⟩:=hcut;clear d4
    go_upto_if 31 with fail
    go_cut [8] from 19 to 56 (fun s8 wx=>∃rp rl rc,s8=.slice rp rl rc/\Hid (G3 tb w2 wx (.slice ap k ac) (.slice bp k bc) (.slice cp k cc) (((bI t).take k).map Value.string) (((dm t).take k).map Value.bool) (R.map (·.1)) (R++[(Value.slice rp rl rc,qo t k)])))
    case first =>
     by_cases nY:k=0
     ·have j2:decide (0<k)=false:=by simp;omega
      (have hrow:qo t k=[]:=by unfold qo;rw [if_pos nY]);(have zG:Hid (G3 tb w2 wc (.slice ap k ac) (.slice bp k bc) (.slice cp k cc) (((bI t).take k).map Value.string) (((dm t).take k).map Value.bool) (R.map (·.1)) (R++[(Value.slice none 0 0,qo t k)])):=by unfold Hid;refine hG.out.row ?_;rw [hrow];exact ⟨none,0,rfl,aj _,.inl rfl⟩);clear nY hrow;rw [j2];clear j2;go_wp2;go_meet
      case rel=>exact ⟨none,0,0,rfl,zG.out⟩
     ·have j2:decide (0<k)=true:=by simp;omega
      (have hrow:qo t k=[pk]:=by unfold qo;rw [if_neg nY,hpk]);(have zG:Hid (G3 tb w2 (wc.alloc (.cells #[.int .i64 pk] 3)) (.slice ap k ac) (.slice bp k bc) (.slice cp k cc) (((bI t).take k).map Value.string) (((dm t).take k).map Value.bool) (R.map (·.1)) (R++[(Value.slice (some ⟨wc.heap.size,0,none⟩) 1 1,qo t k)])):=by unfold Hid;refine (hG.out.up (Up.alloc _ _)).row ?_;rw [hrow];refine ⟨_,1,rfl,aj _,.inr ⟨wc.heap.size,0,rfl,⟨hG.out.f.away (aj _),by have:=hG.out.f.lo;omega⟩,fun j hj=>?_⟩⟩;(obtain rfl:j=0:=by simpa using hj);exact mE wc _ _);clear nY hrow;rw [j2]
      clear j2;go_wp2;go_meet
      case rel=>exact ⟨_,1,1,rfl,zG.out⟩
    case rest =>
     obtain ⟨rp,rl,rc,rfl,zG⟩:=hcut;clear dZ jw c0 c1;generalize hX:mF t k=X at *;have Nt:Hid (mF t k=X):=hX;clear hX
     go_upto_region 13 with fail
     have hgd:=zG.out.up (Up.drewN wc 1);have WC:Hid (G3 tb w2 wc.drew (.slice ap k ac) (.slice bp k bc) (.slice cp k cc) (((bI t).take k).map Value.string) (((dm t).take k).map Value.bool) (R.map (·.1)) (R++[(Value.slice rp rl rc,qo t k)])):=hgd;have aZ:=aa WC.out.box;have BJ:=aa WC.out.f;have HA1:Hid (((bI t).take (k+1)).map Value.string=((bI t).take k).map Value.string++[.string X]):=by unfold Hid;rw [DZ.out,cm];rfl
     (have HA2:Hid (((dm t).take (k+1)).map Value.bool=((dm t).take k).map Value.bool++[.bool bl]):=by unfold Hid;rw [zC.out,cm,wP.out];rfl);have JT:Hid ((R++[(Value.slice rp rl rc,qo t k)]).map (·.1)=R.map (·.1)++[Value.slice rp rl rc]/\(R++[(Value.slice rp rl rc,qo t k)]).map (·.2)=(aH t).take (k+1)):=⟨by rw [cm];rfl,by rw [cm,HR.out,S3.out];rfl⟩;clear hgd zG hG HR DZ zC S3 Nt wP;generalize (((bI t).take k).map Value.string)=A at *;generalize (((dm t).take k).map Value.bool)=B at *;generalize (R.map (·.1))=C at *
     refine jT (by kernel_rfl) 15 (fun w'=>w'.cell? ⟨tb,0,none⟩=some (.slice ap k ac)/\w'.cell? ⟨tb,1,none⟩=some (.slice bp k bc)/\w'.cell? ⟨tb,2,none⟩=some (.slice cp k cc)) (BJ.out.cells aZ.out) (fun hS=>?_);simp only [gI,bB,eW,Nat.reduceAdd,jL,jM,gH,dz,cw];generalize wc.drew=Wd at *;refine ah.uv 0 1 2 5 hS ?_;(try simp only [Act.put,av,ax,ay]);refine ah.uv 6 7 10 11 hS ?_
     (try simp only [Act.put,av,ax,ay]);refine ah.tk 12 hS ?_;(try simp only [Act.put,av,ax,ay]);refine ah.S6 3 8 13 (fun K' hK=>?_) (fun K' hK=>?_) (fun K' hK=>?_)
     focus
      go_simp;have uE:=aa (BJ.out.alloc (.string X) 9);refine hK.out _ _ (fun _=>uE.out.cells aZ.out) (fun _=>?_);(try simp only [av,ax,ay]);generalize Wd.alloc (.cells #[.string X] 9)=W1 at *;generalize Wd.heap.size=zH at *;refine ah.S6 4 8 13 (fun K' hK=>?_) (fun K' hK=>?_) (fun K' hK=>?_)
      focus
       refine aL (by rfl) _ _ _ (by rfl) (tb+1) 9 _ 16 Tryz.underlying22 Tryz.fq (by rfl) (by decide) (by rfl) uE.out.ao (.string X) zH (by rfl) (uE.out.ex (zH,(.string X)) (by simp)).2 (by rfl) b6.out.1 uE.out.lt ?_;intro gA cA W2 ho hg hr _;have oD:=aa (uE.out.oO ho hg hr);clear ho hg hr;refine hK.out _ _ (fun _=>oD.out.cells aZ.out) (fun _=>?_);(try simp only [Act.put,av,ax,ay]);refine ah.fr 15 (fun _=>oD.out.cells aZ.out) ?_
       (try simp only [Act.put,av,ax,ay]);refine ah.st2 8 13 (fun K' hK=>?_) (fun K' hK=>?_)
       focus
        go_simp;have BK:=aa (oD.out.alloc (.bool bl) 4);refine hK.out _ _ (fun _=>BK.out.cells aZ.out) (fun _=>?_);(try simp only [av,ax,ay]);generalize W2.alloc (.cells #[.bool bl] 4)=W3 at *;generalize W2.heap.size=S8 at *;refine ah.st2 9 13 (fun K' hK=>?_) (fun K' hK=>?_)
        focus
         refine aL (by rfl) _ _ _ (by rfl) (tb+1) 4 _ 1 Tryz.underlying34 Tryz.dD (by rfl) (by decide) (by rfl) BK.out.bo (.bool bl) S8 (by rfl) (BK.out.ex (S8,(.bool bl)) (by simp)).2 (by rfl) b6.out.2.1 BK.out.lt ?_;intro gB cB W4 ho hg hr _;have Nu:=aa (BK.out.lu ho hg hr);clear ho hg hr;refine hK.out _ _ (fun _=>Nu.out.cells aZ.out) (fun _=>?_);(try simp only [Act.put,av,ax,ay]);refine ah.st 13 (fun K' hK=>?_);go_simp;have D1:=aa (Nu.out.alloc (.slice rp rl rc) 27)
         refine hK.out _ _ (fun _=>D1.out.cells aZ.out) (fun _=>?_);(try simp only [av,ax,ay]);generalize W4.alloc (.cells #[.slice rp rl rc] 27)=W5 at *;generalize W4.heap.size=mC5 at *;refine ah.st 14 (fun K' hK=>?_);refine aL (by rfl) _ _ _ (by rfl) (tb+1) 27 _ 24 Tryz.underlying23 Tryz.eV (by rfl) (by decide) (by rfl) D1.out.co (.slice rp rl rc) mC5 (by rfl) (D1.out.ex (mC5,(.slice rp rl rc)) (by simp)).2 (by rfl) b6.out.2.2 D1.out.lt ?_;intro gC cC W6 ho hg hr _;have Nw:=aa (D1.out.mZ ho hg hr);clear ho hg hr
         refine hK.out _ _ (fun _=>Nw.out.cells aZ.out) (fun _=>?_);(try simp only [Act.put,av,ax,ay]);have dQ:=aa Nw.out
        rotate_left 1
        focus
         go_simp;have zI:=aa (BK.out.alloc (.slice rp rl rc) 27);refine hK.out _ _ (fun _=>zI.out.cells aZ.out) (fun _=>?_);(try simp only [av,ax,ay]);generalize W3.alloc (.cells #[.slice rp rl rc] 27)=W7 at *;generalize W3.heap.size=mC7 at *;refine ah.st 9 (fun K' hK=>?_);refine aL (by rfl) _ _ _ (by rfl) (tb+1) 4 _ 1 Tryz.underlying34 Tryz.dD (by rfl) (by decide) (by rfl) zI.out.bo (.bool bl) S8 (by rfl) (zI.out.ex (S8,(.bool bl)) (by simp)).2 (by rfl) b6.out.2.1 zI.out.lt ?_;intro gB cB W8 ho hg hr _
         have D3:=aa (zI.out.lu ho hg hr);clear ho hg hr;refine hK.out _ _ (fun _=>D3.out.cells aZ.out) (fun _=>?_);(try simp only [Act.put,av,ax,ay]);refine ah.st 14 (fun K' hK=>?_);refine aL (by rfl) _ _ _ (by rfl) (tb+1) 27 _ 24 Tryz.underlying23 Tryz.eV (by rfl) (by decide) (by rfl) D3.out.co (.slice rp rl rc) mC7 (by rfl) (D3.out.ex (mC7,(.slice rp rl rc)) (by simp)).2 (by rfl) b6.out.2.2 D3.out.lt ?_;intro gC cC W9 ho hg hr _;have Nx:=aa (D3.out.mZ ho hg hr);clear ho hg hr
         refine hK.out _ _ (fun _=>Nx.out.cells aZ.out) (fun _=>?_);(try simp only [Act.put,av,ax,ay]);have dQ:=aa Nx.out
        rotate_left 1
       rotate_left 2
       focus
        go_simp;have CE:=aa (oD.out.alloc (.slice rp rl rc) 27);refine hK.out _ _ (fun _=>CE.out.cells aZ.out) (fun _=>?_);(try simp only [av,ax,ay]);generalize W2.alloc (.cells #[.slice rp rl rc] 27)=S9 at *;generalize W2.heap.size=WD at *;refine ah.st 8 (fun K' hK=>?_);go_simp;have xY:=aa (CE.out.alloc (.bool bl) 4);refine hK.out _ _ (fun _=>xY.out.cells aZ.out) (fun _=>?_);(try simp only [av,ax,ay]);generalize S9.alloc (.cells #[.bool bl] 4)=W11 at *
        generalize S9.heap.size=WE at *;refine ah.st 9 (fun K' hK=>?_);refine aL (by rfl) _ _ _ (by rfl) (tb+1) 4 _ 1 Tryz.underlying34 Tryz.dD (by rfl) (by decide) (by rfl) xY.out.bo (.bool bl) WE (by rfl) (xY.out.ex (WE,(.bool bl)) (by simp)).2 (by rfl) b6.out.2.1 xY.out.lt ?_;intro gB cB Ta ho hg hr _;have tX:=aa (xY.out.lu ho hg hr);clear ho hg hr;refine hK.out _ _ (fun _=>tX.out.cells aZ.out) (fun _=>?_);(try simp only [Act.put,av,ax,ay]);refine ah.st 14 (fun K' hK=>?_)
        refine aL (by rfl) _ _ _ (by rfl) (tb+1) 27 _ 24 Tryz.underlying23 Tryz.eV (by rfl) (by decide) (by rfl) tX.out.co (.slice rp rl rc) WD (by rfl) (tX.out.ex (WD,(.slice rp rl rc)) (by simp)).2 (by rfl) b6.out.2.2 tX.out.lt ?_;intro gC cC WG ho hg hr _;have Gm:=aa (tX.out.mZ ho hg hr);clear ho hg hr;refine hK.out _ _ (fun _=>Gm.out.cells aZ.out) (fun _=>?_);(try simp only [Act.put,av,ax,ay]);have dQ:=aa Gm.out
       rotate_left 1
      rotate_left 3
      focus
       go_simp;have vN:=aa (uE.out.alloc (.bool bl) 4);refine hK.out _ _ (fun _=>vN.out.cells aZ.out) (fun _=>?_);(try simp only [av,ax,ay]);generalize W1.alloc (.cells #[.bool bl] 4)=WH at *;generalize W1.heap.size=CF at *;refine ah.st2 4 13 (fun K' hK=>?_) (fun K' hK=>?_)
       focus
        refine aL (by rfl) _ _ _ (by rfl) (tb+1) 9 _ 16 Tryz.underlying22 Tryz.fq (by rfl) (by decide) (by rfl) vN.out.ao (.string X) zH (by rfl) (vN.out.ex (zH,(.string X)) (by simp)).2 (by rfl) b6.out.1 vN.out.lt ?_;intro gA cA Tb ho hg hr _;have rW:=aa (vN.out.oO ho hg hr);clear ho hg hr;refine hK.out _ _ (fun _=>rW.out.cells aZ.out) (fun _=>?_);(try simp only [Act.put,av,ax,ay]);refine ah.fr 15 (fun _=>rW.out.cells aZ.out) ?_
        (try simp only [Act.put,av,ax,ay]);refine ah.st2 9 13 (fun K' hK=>?_) (fun K' hK=>?_)
        focus
         refine aL (by rfl) _ _ _ (by rfl) (tb+1) 4 _ 1 Tryz.underlying34 Tryz.dD (by rfl) (by decide) (by rfl) rW.out.bo (.bool bl) CF (by rfl) (rW.out.ex (CF,(.bool bl)) (by simp)).2 (by rfl) b6.out.2.1 rW.out.lt ?_;intro gB cB WI ho hg hr _;have Gn:=aa (rW.out.lu ho hg hr);clear ho hg hr;refine hK.out _ _ (fun _=>Gn.out.cells aZ.out) (fun _=>?_);(try simp only [Act.put,av,ax,ay]);refine ah.st 13 (fun K' hK=>?_);go_simp;have tY:=aa (Gn.out.alloc (.slice rp rl rc) 27)
         refine hK.out _ _ (fun _=>tY.out.cells aZ.out) (fun _=>?_);(try simp only [av,ax,ay]);generalize WI.alloc (.cells #[.slice rp rl rc] 27)=Tc at *;generalize WI.heap.size=WJ at *;refine ah.st 14 (fun K' hK=>?_);refine aL (by rfl) _ _ _ (by rfl) (tb+1) 27 _ 24 Tryz.underlying23 Tryz.eV (by rfl) (by decide) (by rfl) tY.out.co (.slice rp rl rc) WJ (by rfl) (tY.out.ex (WJ,(.slice rp rl rc)) (by simp)).2 (by rfl) b6.out.2.2 tY.out.lt ?_;intro gC cC Td ho hg hr _;have Ay:=aa (tY.out.mZ ho hg hr)
         clear ho hg hr;refine hK.out _ _ (fun _=>Ay.out.cells aZ.out) (fun _=>?_);(try simp only [Act.put,av,ax,ay]);have dQ:=aa Ay.out
        rotate_left 1
        focus
         go_simp;have xZ:=aa (rW.out.alloc (.slice rp rl rc) 27);refine hK.out _ _ (fun _=>xZ.out.cells aZ.out) (fun _=>?_);(try simp only [av,ax,ay]);generalize Tb.alloc (.cells #[.slice rp rl rc] 27)=WK at *;generalize Tb.heap.size=WL at *;refine ah.st 9 (fun K' hK=>?_);refine aL (by rfl) _ _ _ (by rfl) (tb+1) 4 _ 1 Tryz.underlying34 Tryz.dD (by rfl) (by decide) (by rfl) xZ.out.bo (.bool bl) CF (by rfl) (xZ.out.ex (CF,(.bool bl)) (by simp)).2 (by rfl) b6.out.2.1 xZ.out.lt ?_;intro gB cB W20 ho hg hr _
         have x7:=aa (xZ.out.lu ho hg hr);clear ho hg hr;refine hK.out _ _ (fun _=>x7.out.cells aZ.out) (fun _=>?_);(try simp only [Act.put,av,ax,ay]);refine ah.st 14 (fun K' hK=>?_);refine aL (by rfl) _ _ _ (by rfl) (tb+1) 27 _ 24 Tryz.underlying23 Tryz.eV (by rfl) (by decide) (by rfl) x7.out.co (.slice rp rl rc) WL (by rfl) (x7.out.ex (WL,(.slice rp rl rc)) (by simp)).2 (by rfl) b6.out.2.2 x7.out.lt ?_;intro gC cC W21 ho hg hr _;have CG:=aa (x7.out.mZ ho hg hr);clear ho hg hr
         refine hK.out _ _ (fun _=>CG.out.cells aZ.out) (fun _=>?_);(try simp only [Act.put,av,ax,ay]);have dQ:=aa CG.out
        rotate_left 1
       rotate_left 2
       focus
        go_simp;have x8:=aa (vN.out.alloc (.slice rp rl rc) 27);refine hK.out _ _ (fun _=>x8.out.cells aZ.out) (fun _=>?_);(try simp only [av,ax,ay]);generalize WH.alloc (.cells #[.slice rp rl rc] 27)=W22 at *;generalize WH.heap.size=WM at *;refine ah.st 4 (fun K' hK=>?_);refine aL (by rfl) _ _ _ (by rfl) (tb+1) 9 _ 16 Tryz.underlying22 Tryz.fq (by rfl) (by decide) (by rfl) x8.out.ao (.string X) zH (by rfl) (x8.out.ex (zH,(.string X)) (by simp)).2 (by rfl) b6.out.1 x8.out.lt ?_;intro gA cA W23 ho hg hr _
        have tZ:=aa (x8.out.oO ho hg hr);clear ho hg hr;refine hK.out _ _ (fun _=>tZ.out.cells aZ.out) (fun _=>?_);(try simp only [Act.put,av,ax,ay]);refine ah.fr 15 (fun _=>tZ.out.cells aZ.out) ?_;(try simp only [Act.put,av,ax,ay]);refine ah.st 9 (fun K' hK=>?_)
        refine aL (by rfl) _ _ _ (by rfl) (tb+1) 4 _ 1 Tryz.underlying34 Tryz.dD (by rfl) (by decide) (by rfl) tZ.out.bo (.bool bl) CF (by rfl) (tZ.out.ex (CF,(.bool bl)) (by simp)).2 (by rfl) b6.out.2.1 tZ.out.lt ?_;intro gB cB W24 ho hg hr _;have vO:=aa (tZ.out.lu ho hg hr);clear ho hg hr;refine hK.out _ _ (fun _=>vO.out.cells aZ.out) (fun _=>?_);(try simp only [Act.put,av,ax,ay]);refine ah.st 14 (fun K' hK=>?_)
        refine aL (by rfl) _ _ _ (by rfl) (tb+1) 27 _ 24 Tryz.underlying23 Tryz.eV (by rfl) (by decide) (by rfl) vO.out.co (.slice rp rl rc) WM (by rfl) (vO.out.ex (WM,(.slice rp rl rc)) (by simp)).2 (by rfl) b6.out.2.2 vO.out.lt ?_;intro gC cC W25 ho hg hr _;have Gp:=aa (vO.out.mZ ho hg hr);clear ho hg hr;refine hK.out _ _ (fun _=>Gp.out.cells aZ.out) (fun _=>?_);(try simp only [Act.put,av,ax,ay]);have dQ:=aa Gp.out
       rotate_left 1
      rotate_left 3
      focus
       go_simp;have rX:=aa (uE.out.alloc (.slice rp rl rc) 27);refine hK.out _ _ (fun _=>rX.out.cells aZ.out) (fun _=>?_);(try simp only [av,ax,ay]);generalize W1.alloc (.cells #[.slice rp rl rc] 27)=JW at *;generalize W1.heap.size=Ll at *;refine ah.st2 4 8 (fun K' hK=>?_) (fun K' hK=>?_)
       focus
        refine aL (by rfl) _ _ _ (by rfl) (tb+1) 9 _ 16 Tryz.underlying22 Tryz.fq (by rfl) (by decide) (by rfl) rX.out.ao (.string X) zH (by rfl) (rX.out.ex (zH,(.string X)) (by simp)).2 (by rfl) b6.out.1 rX.out.lt ?_;intro gA cA JX ho hg hr _;have x9:=aa (rX.out.oO ho hg hr);clear ho hg hr;refine hK.out _ _ (fun _=>x9.out.cells aZ.out) (fun _=>?_);(try simp only [Act.put,av,ax,ay]);refine ah.fr 15 (fun _=>x9.out.cells aZ.out) ?_
        (try simp only [Act.put,av,ax,ay]);refine ah.st 8 (fun K' hK=>?_);go_simp;have ya:=aa (x9.out.alloc (.bool bl) 4);refine hK.out _ _ (fun _=>ya.out.cells aZ.out) (fun _=>?_);(try simp only [av,ax,ay]);generalize JX.alloc (.cells #[.bool bl] 4)=WN at *;generalize JX.heap.size=WO at *;refine ah.st 9 (fun K' hK=>?_)
        refine aL (by rfl) _ _ _ (by rfl) (tb+1) 4 _ 1 Tryz.underlying34 Tryz.dD (by rfl) (by decide) (by rfl) ya.out.bo (.bool bl) WO (by rfl) (ya.out.ex (WO,(.bool bl)) (by simp)).2 (by rfl) b6.out.2.1 ya.out.lt ?_;intro gB cB W29 ho hg hr _;have yc:=aa (ya.out.lu ho hg hr);clear ho hg hr;refine hK.out _ _ (fun _=>yc.out.cells aZ.out) (fun _=>?_);(try simp only [Act.put,av,ax,ay]);refine ah.st 14 (fun K' hK=>?_)
        refine aL (by rfl) _ _ _ (by rfl) (tb+1) 27 _ 24 Tryz.underlying23 Tryz.eV (by rfl) (by decide) (by rfl) yc.out.co (.slice rp rl rc) Ll (by rfl) (yc.out.ex (Ll,(.slice rp rl rc)) (by simp)).2 (by rfl) b6.out.2.2 yc.out.lt ?_;intro gC cC W30 ho hg hr _;have CH:=aa (yc.out.mZ ho hg hr);clear ho hg hr;refine hK.out _ _ (fun _=>CH.out.cells aZ.out) (fun _=>?_);(try simp only [Act.put,av,ax,ay]);have dQ:=aa CH.out
       rotate_left 1
       focus
        go_simp;have ye:=aa (rX.out.alloc (.bool bl) 4);refine hK.out _ _ (fun _=>ye.out.cells aZ.out) (fun _=>?_);(try simp only [av,ax,ay]);generalize JW.alloc (.cells #[.bool bl] 4)=W31 at *;generalize JW.heap.size=WQ at *;refine ah.st 4 (fun K' hK=>?_);refine aL (by rfl) _ _ _ (by rfl) (tb+1) 9 _ 16 Tryz.underlying22 Tryz.fq (by rfl) (by decide) (by rfl) ye.out.ao (.string X) zH (by rfl) (ye.out.ex (zH,(.string X)) (by simp)).2 (by rfl) b6.out.1 ye.out.lt ?_;intro gA cA W32 ho hg hr _
        have ua:=aa (ye.out.oO ho hg hr);clear ho hg hr;refine hK.out _ _ (fun _=>ua.out.cells aZ.out) (fun _=>?_);(try simp only [Act.put,av,ax,ay]);refine ah.fr 15 (fun _=>ua.out.cells aZ.out) ?_;(try simp only [Act.put,av,ax,ay]);refine ah.st 9 (fun K' hK=>?_)
        refine aL (by rfl) _ _ _ (by rfl) (tb+1) 4 _ 1 Tryz.underlying34 Tryz.dD (by rfl) (by decide) (by rfl) ua.out.bo (.bool bl) WQ (by rfl) (ua.out.ex (WQ,(.bool bl)) (by simp)).2 (by rfl) b6.out.2.1 ua.out.lt ?_;intro gB cB W33 ho hg hr _;have vP:=aa (ua.out.lu ho hg hr);clear ho hg hr;refine hK.out _ _ (fun _=>vP.out.cells aZ.out) (fun _=>?_);(try simp only [Act.put,av,ax,ay]);refine ah.st 14 (fun K' hK=>?_)
        refine aL (by rfl) _ _ _ (by rfl) (tb+1) 27 _ 24 Tryz.underlying23 Tryz.eV (by rfl) (by decide) (by rfl) vP.out.co (.slice rp rl rc) Ll (by rfl) (vP.out.ex (Ll,(.slice rp rl rc)) (by simp)).2 (by rfl) b6.out.2.2 vP.out.lt ?_;intro gC cC W34 ho hg hr _;have Gq:=aa (vP.out.mZ ho hg hr);clear ho hg hr;refine hK.out _ _ (fun _=>Gq.out.cells aZ.out) (fun _=>?_);(try simp only [Act.put,av,ax,ay]);have dQ:=aa Gq.out
       rotate_left 1
      rotate_left 2
     rotate_left 8
     focus
      go_simp;have QH:=aa (BJ.out.alloc (.bool bl) 4);refine hK.out _ _ (fun _=>QH.out.cells aZ.out) (fun _=>?_);(try simp only [av,ax,ay]);generalize Wd.alloc (.cells #[.bool bl] 4)=Te at *;generalize Wd.heap.size=yf at *;refine ah.st2 3 13 (fun K' hK=>?_) (fun K' hK=>?_)
      focus
       go_simp;have CI:=aa (QH.out.alloc (.string X) 9);refine hK.out _ _ (fun _=>CI.out.cells aZ.out) (fun _=>?_);(try simp only [av,ax,ay]);generalize Te.alloc (.cells #[.string X] 9)=W36 at *;generalize Te.heap.size=Lm at *;refine ah.st2 4 13 (fun K' hK=>?_) (fun K' hK=>?_)
       focus
        refine aL (by rfl) _ _ _ (by rfl) (tb+1) 9 _ 16 Tryz.underlying22 Tryz.fq (by rfl) (by decide) (by rfl) CI.out.ao (.string X) Lm (by rfl) (CI.out.ex (Lm,(.string X)) (by simp)).2 (by rfl) b6.out.1 CI.out.lt ?_;intro gA cA W37 ho hg hr _;have Az:=aa (CI.out.oO ho hg hr);clear ho hg hr;refine hK.out _ _ (fun _=>Az.out.cells aZ.out) (fun _=>?_);(try simp only [Act.put,av,ax,ay]);refine ah.fr 15 (fun _=>Az.out.cells aZ.out) ?_
        (try simp only [Act.put,av,ax,ay]);refine ah.st2 9 13 (fun K' hK=>?_) (fun K' hK=>?_)
        focus
         refine aL (by rfl) _ _ _ (by rfl) (tb+1) 4 _ 1 Tryz.underlying34 Tryz.dD (by rfl) (by decide) (by rfl) Az.out.bo (.bool bl) yf (by rfl) (Az.out.ex (yf,(.bool bl)) (by simp)).2 (by rfl) b6.out.2.1 Az.out.lt ?_;intro gB cB W38 ho hg hr _;have WR:=aa (Az.out.lu ho hg hr);clear ho hg hr;refine hK.out _ _ (fun _=>WR.out.cells aZ.out) (fun _=>?_);(try simp only [Act.put,av,ax,ay]);refine ah.st 13 (fun K' hK=>?_);go_simp;have Gr:=aa (WR.out.alloc (.slice rp rl rc) 27)
         refine hK.out _ _ (fun _=>Gr.out.cells aZ.out) (fun _=>?_);(try simp only [av,ax,ay]);generalize W38.alloc (.cells #[.slice rp rl rc] 27)=W39 at *;generalize W38.heap.size=WS at *;refine ah.st 14 (fun K' hK=>?_);refine aL (by rfl) _ _ _ (by rfl) (tb+1) 27 _ 24 Tryz.underlying23 Tryz.eV (by rfl) (by decide) (by rfl) Gr.out.co (.slice rp rl rc) WS (by rfl) (Gr.out.ex (WS,(.slice rp rl rc)) (by simp)).2 (by rfl) b6.out.2.2 Gr.out.lt ?_;intro gC cC W40 ho hg hr _;have WT:=aa (Gr.out.mZ ho hg hr)
         clear ho hg hr;refine hK.out _ _ (fun _=>WT.out.cells aZ.out) (fun _=>?_);(try simp only [Act.put,av,ax,ay]);have dQ:=aa WT.out
        rotate_left 1
        focus
         go_simp;have Gs:=aa (Az.out.alloc (.slice rp rl rc) 27);refine hK.out _ _ (fun _=>Gs.out.cells aZ.out) (fun _=>?_);(try simp only [av,ax,ay]);generalize W37.alloc (.cells #[.slice rp rl rc] 27)=W41 at *;generalize W37.heap.size=WU at *;refine ah.st 9 (fun K' hK=>?_);refine aL (by rfl) _ _ _ (by rfl) (tb+1) 4 _ 1 Tryz.underlying34 Tryz.dD (by rfl) (by decide) (by rfl) Gs.out.bo (.bool bl) yf (by rfl) (Gs.out.ex (yf,(.bool bl)) (by simp)).2 (by rfl) b6.out.2.1 Gs.out.lt ?_;intro gB cB W42 ho hg hr _
         have Gt:=aa (Gs.out.lu ho hg hr);clear ho hg hr;refine hK.out _ _ (fun _=>Gt.out.cells aZ.out) (fun _=>?_);(try simp only [Act.put,av,ax,ay]);refine ah.st 14 (fun K' hK=>?_);refine aL (by rfl) _ _ _ (by rfl) (tb+1) 27 _ 24 Tryz.underlying23 Tryz.eV (by rfl) (by decide) (by rfl) Gt.out.co (.slice rp rl rc) WU (by rfl) (Gt.out.ex (WU,(.slice rp rl rc)) (by simp)).2 (by rfl) b6.out.2.2 Gt.out.lt ?_;intro gC cC W43 ho hg hr _;have WV:=aa (Gt.out.mZ ho hg hr);clear ho hg hr
         refine hK.out _ _ (fun _=>WV.out.cells aZ.out) (fun _=>?_);(try simp only [Act.put,av,ax,ay]);have dQ:=aa WV.out
        rotate_left 1
       rotate_left 2
       focus
        go_simp;have Gu:=aa (CI.out.alloc (.slice rp rl rc) 27);refine hK.out _ _ (fun _=>Gu.out.cells aZ.out) (fun _=>?_);(try simp only [av,ax,ay]);generalize W36.alloc (.cells #[.slice rp rl rc] 27)=W44 at *;generalize W36.heap.size=WW at *;refine ah.st 4 (fun K' hK=>?_);refine aL (by rfl) _ _ _ (by rfl) (tb+1) 9 _ 16 Tryz.underlying22 Tryz.fq (by rfl) (by decide) (by rfl) Gu.out.ao (.string X) Lm (by rfl) (Gu.out.ex (Lm,(.string X)) (by simp)).2 (by rfl) b6.out.1 Gu.out.lt ?_;intro gA cA W45 ho hg hr _
        have CJ:=aa (Gu.out.oO ho hg hr);clear ho hg hr;refine hK.out _ _ (fun _=>CJ.out.cells aZ.out) (fun _=>?_);(try simp only [Act.put,av,ax,ay]);refine ah.fr 15 (fun _=>CJ.out.cells aZ.out) ?_;(try simp only [Act.put,av,ax,ay]);refine ah.st 9 (fun K' hK=>?_)
        refine aL (by rfl) _ _ _ (by rfl) (tb+1) 4 _ 1 Tryz.underlying34 Tryz.dD (by rfl) (by decide) (by rfl) CJ.out.bo (.bool bl) yf (by rfl) (CJ.out.ex (yf,(.bool bl)) (by simp)).2 (by rfl) b6.out.2.1 CJ.out.lt ?_;intro gB cB W46 ho hg hr _;have Gw:=aa (CJ.out.lu ho hg hr);clear ho hg hr;refine hK.out _ _ (fun _=>Gw.out.cells aZ.out) (fun _=>?_);(try simp only [Act.put,av,ax,ay]);refine ah.st 14 (fun K' hK=>?_)
        refine aL (by rfl) _ _ _ (by rfl) (tb+1) 27 _ 24 Tryz.underlying23 Tryz.eV (by rfl) (by decide) (by rfl) Gw.out.co (.slice rp rl rc) WW (by rfl) (Gw.out.ex (WW,(.slice rp rl rc)) (by simp)).2 (by rfl) b6.out.2.2 Gw.out.lt ?_;intro gC cC W47 ho hg hr _;have WX:=aa (Gw.out.mZ ho hg hr);clear ho hg hr;refine hK.out _ _ (fun _=>WX.out.cells aZ.out) (fun _=>?_);(try simp only [Act.put,av,ax,ay]);have dQ:=aa WX.out
       rotate_left 1
      rotate_left 3
      focus
       go_simp;have WY:=aa (QH.out.alloc (.slice rp rl rc) 27);refine hK.out _ _ (fun _=>WY.out.cells aZ.out) (fun _=>?_);(try simp only [av,ax,ay]);generalize Te.alloc (.cells #[.slice rp rl rc] 27)=W48 at *;generalize Te.heap.size=WZ at *;refine ah.st 3 (fun K' hK=>?_);go_simp;have Gx:=aa (WY.out.alloc (.string X) 9);refine hK.out _ _ (fun _=>Gx.out.cells aZ.out) (fun _=>?_);(try simp only [av,ax,ay]);generalize W48.alloc (.cells #[.string X] 9)=W49 at *
       generalize W48.heap.size=Xa at *;refine ah.st 4 (fun K' hK=>?_);refine aL (by rfl) _ _ _ (by rfl) (tb+1) 9 _ 16 Tryz.underlying22 Tryz.fq (by rfl) (by decide) (by rfl) Gx.out.ao (.string X) Xa (by rfl) (Gx.out.ex (Xa,(.string X)) (by simp)).2 (by rfl) b6.out.1 Gx.out.lt ?_;intro gA cA W50 ho hg hr _;have CK:=aa (Gx.out.oO ho hg hr);clear ho hg hr;refine hK.out _ _ (fun _=>CK.out.cells aZ.out) (fun _=>?_);(try simp only [Act.put,av,ax,ay]);refine ah.fr 15 (fun _=>CK.out.cells aZ.out) ?_
       (try simp only [Act.put,av,ax,ay]);refine ah.st 9 (fun K' hK=>?_);refine aL (by rfl) _ _ _ (by rfl) (tb+1) 4 _ 1 Tryz.underlying34 Tryz.dD (by rfl) (by decide) (by rfl) CK.out.bo (.bool bl) yf (by rfl) (CK.out.ex (yf,(.bool bl)) (by simp)).2 (by rfl) b6.out.2.1 CK.out.lt ?_;intro gB cB W51 ho hg hr _;have Gy:=aa (CK.out.lu ho hg hr);clear ho hg hr;refine hK.out _ _ (fun _=>Gy.out.cells aZ.out) (fun _=>?_);try simp only [Act.put,av,ax,ay]
       refine ah.st 14 (fun K' hK=>?_);refine aL (by rfl) _ _ _ (by rfl) (tb+1) 27 _ 24 Tryz.underlying23 Tryz.eV (by rfl) (by decide) (by rfl) Gy.out.co (.slice rp rl rc) WZ (by rfl) (Gy.out.ex (WZ,(.slice rp rl rc)) (by simp)).2 (by rfl) b6.out.2.2 Gy.out.lt ?_;intro gC cC W52 ho hg hr _;have Xb:=aa (Gy.out.mZ ho hg hr);clear ho hg hr;refine hK.out _ _ (fun _=>Xb.out.cells aZ.out) (fun _=>?_);(try simp only [Act.put,av,ax,ay]);have dQ:=aa Xb.out
      rotate_left 1
     rotate_left 4
     focus
      go_simp;have QI:=aa (BJ.out.alloc (.slice rp rl rc) 27);refine hK.out _ _ (fun _=>QI.out.cells aZ.out) (fun _=>?_);(try simp only [av,ax,ay]);generalize Wd.alloc (.cells #[.slice rp rl rc] 27)=Tf at *;generalize Wd.heap.size=CL at *;refine ah.st2 3 8 (fun K' hK=>?_) (fun K' hK=>?_)
      focus
       go_simp;have CM:=aa (QI.out.alloc (.string X) 9);refine hK.out _ _ (fun _=>CM.out.cells aZ.out) (fun _=>?_);(try simp only [av,ax,ay]);generalize Tf.alloc (.cells #[.string X] 9)=W54 at *;generalize Tf.heap.size=Lp at *;refine ah.st2 4 8 (fun K' hK=>?_) (fun K' hK=>?_)
       focus
        refine aL (by rfl) _ _ _ (by rfl) (tb+1) 9 _ 16 Tryz.underlying22 Tryz.fq (by rfl) (by decide) (by rfl) CM.out.ao (.string X) Lp (by rfl) (CM.out.ex (Lp,(.string X)) (by simp)).2 (by rfl) b6.out.1 CM.out.lt ?_;intro gA cA W55 ho hg hr _;have QJ:=aa (CM.out.oO ho hg hr);clear ho hg hr;refine hK.out _ _ (fun _=>QJ.out.cells aZ.out) (fun _=>?_);(try simp only [Act.put,av,ax,ay]);refine ah.fr 15 (fun _=>QJ.out.cells aZ.out) ?_
        (try simp only [Act.put,av,ax,ay]);refine ah.st 8 (fun K' hK=>?_);go_simp;have Gz:=aa (QJ.out.alloc (.bool bl) 4);refine hK.out _ _ (fun _=>Gz.out.cells aZ.out) (fun _=>?_);(try simp only [av,ax,ay]);generalize W55.alloc (.cells #[.bool bl] 4)=W56 at *;generalize W55.heap.size=Xc at *;refine ah.st 9 (fun K' hK=>?_)
        refine aL (by rfl) _ _ _ (by rfl) (tb+1) 4 _ 1 Tryz.underlying34 Tryz.dD (by rfl) (by decide) (by rfl) Gz.out.bo (.bool bl) Xc (by rfl) (Gz.out.ex (Xc,(.bool bl)) (by simp)).2 (by rfl) b6.out.2.1 Gz.out.lt ?_;intro gB cB W57 ho hg hr _;have GA:=aa (Gz.out.lu ho hg hr);clear ho hg hr;refine hK.out _ _ (fun _=>GA.out.cells aZ.out) (fun _=>?_);(try simp only [Act.put,av,ax,ay]);refine ah.st 14 (fun K' hK=>?_)
        refine aL (by rfl) _ _ _ (by rfl) (tb+1) 27 _ 24 Tryz.underlying23 Tryz.eV (by rfl) (by decide) (by rfl) GA.out.co (.slice rp rl rc) CL (by rfl) (GA.out.ex (CL,(.slice rp rl rc)) (by simp)).2 (by rfl) b6.out.2.2 GA.out.lt ?_;intro gC cC W58 ho hg hr _;have Xd:=aa (GA.out.mZ ho hg hr);clear ho hg hr;refine hK.out _ _ (fun _=>Xd.out.cells aZ.out) (fun _=>?_);(try simp only [Act.put,av,ax,ay]);have dQ:=aa Xd.out
       rotate_left 1
       focus
        go_simp;have GC:=aa (CM.out.alloc (.bool bl) 4);refine hK.out _ _ (fun _=>GC.out.cells aZ.out) (fun _=>?_);(try simp only [av,ax,ay]);generalize W54.alloc (.cells #[.bool bl] 4)=W59 at *;generalize W54.heap.size=Xe at *;refine ah.st 4 (fun K' hK=>?_);refine aL (by rfl) _ _ _ (by rfl) (tb+1) 9 _ 16 Tryz.underlying22 Tryz.fq (by rfl) (by decide) (by rfl) GC.out.ao (.string X) Lp (by rfl) (GC.out.ex (Lp,(.string X)) (by simp)).2 (by rfl) b6.out.1 GC.out.lt ?_;intro gA cA W60 ho hg hr _
        have CN:=aa (GC.out.oO ho hg hr);clear ho hg hr;refine hK.out _ _ (fun _=>CN.out.cells aZ.out) (fun _=>?_);(try simp only [Act.put,av,ax,ay]);refine ah.fr 15 (fun _=>CN.out.cells aZ.out) ?_;(try simp only [Act.put,av,ax,ay]);refine ah.st 9 (fun K' hK=>?_)
        refine aL (by rfl) _ _ _ (by rfl) (tb+1) 4 _ 1 Tryz.underlying34 Tryz.dD (by rfl) (by decide) (by rfl) CN.out.bo (.bool bl) Xe (by rfl) (CN.out.ex (Xe,(.bool bl)) (by simp)).2 (by rfl) b6.out.2.1 CN.out.lt ?_;intro gB cB W61 ho hg hr _;have GD:=aa (CN.out.lu ho hg hr);clear ho hg hr;refine hK.out _ _ (fun _=>GD.out.cells aZ.out) (fun _=>?_);(try simp only [Act.put,av,ax,ay]);refine ah.st 14 (fun K' hK=>?_)
        refine aL (by rfl) _ _ _ (by rfl) (tb+1) 27 _ 24 Tryz.underlying23 Tryz.eV (by rfl) (by decide) (by rfl) GD.out.co (.slice rp rl rc) CL (by rfl) (GD.out.ex (CL,(.slice rp rl rc)) (by simp)).2 (by rfl) b6.out.2.2 GD.out.lt ?_;intro gC cC W62 ho hg hr _;have Xf:=aa (GD.out.mZ ho hg hr);clear ho hg hr;refine hK.out _ _ (fun _=>Xf.out.cells aZ.out) (fun _=>?_);(try simp only [Act.put,av,ax,ay]);have dQ:=aa Xf.out
       rotate_left 1
      rotate_left 2
      focus
       go_simp;have Xg:=aa (QI.out.alloc (.bool bl) 4);refine hK.out _ _ (fun _=>Xg.out.cells aZ.out) (fun _=>?_);(try simp only [av,ax,ay]);generalize Tf.alloc (.cells #[.bool bl] 4)=W63 at *;generalize Tf.heap.size=Xh at *;refine ah.st 3 (fun K' hK=>?_);go_simp;have GF:=aa (Xg.out.alloc (.string X) 9);refine hK.out _ _ (fun _=>GF.out.cells aZ.out) (fun _=>?_);(try simp only [av,ax,ay]);generalize W63.alloc (.cells #[.string X] 9)=W64 at *
       generalize W63.heap.size=Xi at *;refine ah.st 4 (fun K' hK=>?_);refine aL (by rfl) _ _ _ (by rfl) (tb+1) 9 _ 16 Tryz.underlying22 Tryz.fq (by rfl) (by decide) (by rfl) GF.out.ao (.string X) Xi (by rfl) (GF.out.ex (Xi,(.string X)) (by simp)).2 (by rfl) b6.out.1 GF.out.lt ?_;intro gA cA W65 ho hg hr _;have CO:=aa (GF.out.oO ho hg hr);clear ho hg hr;refine hK.out _ _ (fun _=>CO.out.cells aZ.out) (fun _=>?_);(try simp only [Act.put,av,ax,ay]);refine ah.fr 15 (fun _=>CO.out.cells aZ.out) ?_
       (try simp only [Act.put,av,ax,ay]);refine ah.st 9 (fun K' hK=>?_);refine aL (by rfl) _ _ _ (by rfl) (tb+1) 4 _ 1 Tryz.underlying34 Tryz.dD (by rfl) (by decide) (by rfl) CO.out.bo (.bool bl) Xh (by rfl) (CO.out.ex (Xh,(.bool bl)) (by simp)).2 (by rfl) b6.out.2.1 CO.out.lt ?_;intro gB cB W66 ho hg hr _;have GG:=aa (CO.out.lu ho hg hr);clear ho hg hr;refine hK.out _ _ (fun _=>GG.out.cells aZ.out) (fun _=>?_);try simp only [Act.put,av,ax,ay]
       refine ah.st 14 (fun K' hK=>?_);refine aL (by rfl) _ _ _ (by rfl) (tb+1) 27 _ 24 Tryz.underlying23 Tryz.eV (by rfl) (by decide) (by rfl) GG.out.co (.slice rp rl rc) CL (by rfl) (GG.out.ex (CL,(.slice rp rl rc)) (by simp)).2 (by rfl) b6.out.2.2 GG.out.lt ?_;intro gC cC W67 ho hg hr _;have Xj:=aa (GG.out.mZ ho hg hr);clear ho hg hr;refine hK.out _ _ (fun _=>Xj.out.cells aZ.out) (fun _=>?_);(try simp only [Act.put,av,ax,ay]);have dQ:=aa Xj.out
      rotate_left 1
     rotate_left 3
     all_goals
      obtain ⟨e0,e1,e2⟩:=dQ.out.cells aZ.out;obtain ⟨f0,f1,f2⟩:=dQ.out.aat aZ.out;have HST:=aa (F3.store WC.out dQ.out);clear dQ;refine ah.st 16 (fun K' hK=>?_);go_simp;refine hK.out _ _ (fun m=>aT m) (fun _=>?_);(try simp only [av,ax,ay]);refine ah.fr 17 (fun m=>aT m) ?_;(try simp only [Act.put,av,ax,ay]);refine ah.st 18 (fun K' hK=>?_);go_simp;refine hK.out _ _ (fun m=>aT m) (fun _=>?_)
      (try simp only [av,ax,ay]);refine ah.fr 19 (fun m=>aT m) ?_;(try simp only [Act.put,av,ax,ay]);refine ah.st 20 (fun K' hK=>?_);go_simp;refine hK.out _ _ (fun m=>aT m) (fun _=>?_);refine ah.done (by kernel_rfl) ?_;go_wp2
      go_roundw
      case rel =>have h:=HST.out;rw [<- HA1.out,<- HA2.out,<- JT.out.1] at h;exact ⟨k+1,bf.out,by go_num,_,_,_,_,h,JT.out.2⟩
      case measure=>have:=bf.out;simp [intOf];omega
  ·obtain rfl:k=n:=by omega
   have ht1:(bI t).take k=bI t:=sM (by rw [di,kF.out];exact aj _);have ht2:(dm t).take k=dm t:=sM (by rw [gu,kF.out];exact aj _);have ht3:(aH t).take k=aH t:=sM (by rw [cG,kF.out];exact aj _);rw [ht1,ht2] at hG;rw [ht3] at hR;(have nt:(R.map (·.1)).length=k:=by have h1:=congrArg List.length hR;rw [aD,cG,kF.out] at h1;rw [aD];omega);obtain ⟨ap,ac,rfl,-⟩:=hG.f.ao.form (n:=k) (by rw [aD,di,kF.out])
   obtain ⟨bp,bc,rfl,-⟩:=hG.f.bo.form (n:=k) (by rw [aD,gu,kF.out]);obtain ⟨cp,cc,rfl,-⟩:=hG.f.co.form nt;obtain ⟨x0,x1,x2,x3,x4,x5⟩:=aQ hG.box;have Xk:Hid (wo.heap[rb+1]? = some (Obj.cells #[.slice none 0 0,.slice none 0 0,.slice none 0 0] 36 (0,0))):=(aO hU _ (bq.1 Gl.out).1).trans Gl.out;obtain ⟨y0,y1,y2,y3,y4,y5⟩:=aQ Xk.out;have Tg:Hid (aC (fun b=>b≠rb+1) wo (.slice ap k ac) (bI t)):=by have hlt:=(bq.1 Gl.out).1;rw [<- rI.out] at hlt;exact hG.f.ao.strs.sub fun b hb _=>by have hb:tb+1<=b:=hb;omega
   have HST:Hid (aP (fun b=>b≠rb+1) wo (.agg #[.slice ap k ac,.slice bp k bc,.slice cp k cc]) ⟨bI t,dm t,aH t⟩):=by
    have hlt:=(bq.1 Gl.out).1;rw [<- rI.out] at hlt;refine ⟨_,_,_,rfl,Tg.out,?_,?_⟩
    ·have h1:=hG.f.bo.xC
     rw [aD] at h1;obtain ⟨p1,c1,e1,h2,h3⟩:=h1;refine ⟨p1,c1,e1,h2,h3.imp id ?_⟩;rintro ⟨b,off,e2,hb,h4⟩;refine ⟨b,off,e2,by have hb:tb+1<=b:=hb;omega,fun j hj=>?_⟩;rw [h4 j hj];simp [MI,hj]
    ·have h1:=hG.f.co.xC
     rw [nt] at h1;refine ⟨fun j=>(R.map (·.1)).getD j undef,?_,fun j hj=>?_⟩
     ·rw [cG,kF.out];exact h1.sub fun b hb _=>by have hb:tb+1<=b:=hb;omega
     ·rw [cG,kF.out] at hj
      (have Xl:j<R.length:=by rw [aD] at nt;omega);have h2:=hG.f.ro (R[j]) (pg Xl);(have e1:(R.map (·.1)).getD j undef=R[j].1:=by simp [Xl]);(have e2:gl (aH t) j=R[j].2:=by rw [<- hR];simp [gl,Xl]);dsimp only;rw [e1,e2];exact h2.sub fun b hb _=>by have hb:tb<b:=hb.2;omega
   have qF:=aa (bF.out.trans hU);have HDT:Hid (qm t=(List.range k).any fun i=>(List.range i).any fun j=>decide (gs (bI t) i=gs (bI t) j)):=by
    unfold Hid qm;rw [kF.out,nM,cR,cR];(have he:∀i,i<k->∀j,j<i->(decide (mF t j=mF t i)=decide (gs (bI t) i=gs (bI t) j)):=fun i hi j hj=>by rw [uA (by rw [kF.out];exact hi),uA (by rw [kF.out];omega)];exact decide_eq_decide.2 eq_comm);constructor
    ·rintro ⟨i,hi,h⟩
     obtain ⟨j,hj,h⟩:=cR.1 h;exact ⟨i,hi,cR.2 ⟨j,hj,by rw [<- he i (bX.1 hi) j (bX.1 hj)];exact h⟩⟩
    ·rintro ⟨i,hi,h⟩
     obtain ⟨j,hj,h⟩:=cR.1 h;exact ⟨i,hi,cR.2 ⟨j,hj,by rw [he i (bX.1 hi) j (bX.1 hj)];exact h⟩⟩
   (have Xm:Hid ((bI t).length=k):=by unfold Hid;rw [di,kF.out]);have hcap:=SX Tg.out;rw [Xm.out] at hcap;clear hG hR hU c0 c1 hlt hk ht1 ht2 ht3 nt;go_wp2
   go_loopw [9,10,60] (fun _ _ i wr=>∃j:Nat,j<=k/\i=.int .i64 j/\Hid (wr=wo)/\Hid (∀i,i<j->((List.range i).any fun j=>decide (gs (bI t) i=gs (bI t) j))=false)) (fun _ _ i _=>k - (intOf i).toNat)
   case atStart=>exact ⟨0,bg _,rfl,rfl,fun i hi=>absurd hi (cz _)⟩
   case round =>
    obtain ⟨j,hj,rfl,hW,hD⟩:=hrel;obtain rfl:wr=wo:=hW.out;clear hW;obtain ⟨wi,rfl⟩:=e9 wr;by_cases hlt:j<k
    ·obtain ⟨nb,no,rfl,dZ⟩:=fI Tg.out (k:=j) (by rw [Xm.out];exact hlt)
     have fK:=aa (eT _ wi _ j (fun i=>gs (bI t) i) (gs (bI t) j) (zw Tg.out (by rw [Xm.out];exact hj)) (by omega));(have i1:(j:Int)<(k:Int):=by omega);(have i2:(j:Int)<8:=by omega);(have i3:j<=ac:=by omega);have bf:=aa hlt;cases hdp:(List.range j).any fun i=>decide (gs (bI t) j=gs (bI t) i)
     ·rw [hdp] at fK
      have HDP:Hid (((List.range j).any fun i=>decide (gs (bI t) j=gs (bI t) i))=false):=hdp;clear hlt hdp;generalize hnm:gs (bI t) j=nm at fK dZ ⊢;clear hnm;go_wp2_with fail;refine fK.out.mono ?_;rintro e w' ⟨rfl,rfl⟩;go_wp2
      go_roundw
      case rel=>exact ⟨j+1,bf.out,by go_num,(by first | exact (rfl:wi=wi) | exact True.intro),fun i hi=>if e:i=j then by subst e;exact HDP.out else hD.out i (by omega)⟩
      case measure=>have:=bf.out;simp [intOf];omega
     ·rw [hdp] at fK
      (have HDY:Hid (qm t=true):=by unfold Hid;rw [HDT.out,cR];exact ⟨j,bX.2 hlt,hdp⟩);clear hlt hdp;generalize gs (bI t) j=nm at fK dZ ⊢;go_wp2_with fail;refine fK.out.mono ?_;rintro e w' ⟨rfl,rfl⟩;go_wp2_with fail;obtain ⟨f0,f1,f2,-,-,-⟩:=aQ (vM (a':=.slice none 0 0) (b':=.slice none 0 0) (c':=.slice none 0 0) Xk.out);refine ⟨rfl,.tuple #[.agg #[.slice none 0 0,.slice none 0 0,.slice none 0 0],.int .i64 7],by simp [results,Tryz.results8,go_sem,f0,f1,f2],?_⟩;exact HDU.out _ (Ar qF.out (by have:=wK.out;omega)) HDY.out
    ·obtain rfl:j=k:=by omega
     (have HDN:Hid (qm t=false):=by unfold Hid;rw [HDT.out,yP];intro i hi;rw [hD.out i (bX.1 hi)];exact Bool.false_ne_true);go_wp2_with fail;obtain ⟨f0,f1,f2,-,-,-⟩:=aQ (vM (a':=.slice ap j ac) (b':=.slice bp j bc) (c':=.slice cp j cc) Xk.out);refine ⟨rfl,.tuple #[.agg #[.slice ap j ac,.slice bp j bc,.slice cp j cc],.int .i64 0],by simp [results,Tryz.results8,go_sem,f0,f1,f2],?_⟩;refine pZ.out _ _ (Ar qF.out (by have:=wK.out;omega)) HDN.out ((HST.out.keep fun b hb _=>?_).sub fun _ _ _=>trivial)
     rw [blk_setCell_other _ _ _ _ hb,blk_setCell_other _ _ _ _ hb,blk_setCell_other _ _ _ _ hb]
end Go.Proofs.YtfomhlbhcifgbaaGreatDoor
