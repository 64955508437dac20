/- contamination.Total, Best. top38Awake: its example, plain. slices.ContainsFunc at trees .. -/
import Derived.Test.YtfomhlbhcifgbaaGreatDoorQ45
import Derived.Test.YtfomhlbhcifgbaaGreatDoorQ46
import Derived.Test.YtfomhlbhcifgbaaGreatDoorQ21
set_option maxRecDepth 100000
set_option maxHeartbeats 4000000
namespace Go.Proofs.YtfomhlbhcifgbaaGreatDoor
section
open Go.RowKit Go.Deep
structure LZ (n:Nat) (aI:List (List Int)):Prop where
 le:aI.length<=4
 pl:∀k,k<aI.length->IA n (gl aI k)
theorem Pc {P:List (List Int)} {st:List Int} (h7:P.length<=7):jK P st<=7:=by
 rw [<- Kz];exact (O6 P (B:=7) (by decide) (fun al=>by have:=AX (P:=P) al;omega) _).2
def qA (P aI:List (List Int)) (k:Nat):Int:=aY (fun p=>jK P (gl aI p)) k
theorem KC {P aI:List (List Int)} (h7:P.length<=7):∀k:Nat,0<=qA P aI k/\qA P aI k<=7*(k:Int)
 | 0=>by simp [qA,aY]
 | k+1=>by
  have ih:=KC (aI:=aI) h7 k
  have h1:=Ir P (gl aI k)
  have h2:=Pc (st:=gl aI k) h7
  have e:qA P aI (k+1)=qA P aI k+jK P (gl aI k):=rfl
  rw [e];omega
theorem wI (S:Nat->Prop) (w:World) (v vs:Value) (s:kI) (aI:List (List Int)) (h:aP S w v s) (hs:fD s.ns s.P) (hb:s.bs.length=s.ns.length) (hR:aS S w vs aI) (hp:LZ s.ns.length aI) :
  Calls Tryz.prog 14 #[v,vs] w fun e w'=>e=.returned (.tuple #[.int .i64 (dF s.P aI),.int .i64 0])/\Up w w':=by
 obtain ⟨np,nc,bp,bc,pp,pc,rfl,hN,hB,hP⟩:=aP.open h;obtain ⟨rp,rc,rfl,-,-⟩:=eE hR;have h7:s.P.length<=7:=by rw [hs.len];exact hs.le
 have aM:=Up.alloc w (.cells #[.slice np s.ns.length nc,.slice bp s.bs.length bc,.slice pp s.P.length pc] 36);have hx:=fQ w (.slice np s.ns.length nc) (.slice bp s.bs.length bc) (.slice pp s.P.length pc) 36;obtain ⟨x0,x1,x2,-,-,-⟩:=aQ hx;have fo:=aa (qP S _ _ s (h.keep (aM.kept S)) hs hb)
 have xV:Hid (∀W,Up w W->∀k,k<aI.length->∀u,af S W u (gl aI k)->Calls Tryz.prog 20 #[.agg #[.slice np s.ns.length nc,.slice bp s.bs.length bc,.slice pp s.P.length pc],u] W fun e w'=>e=.returned (.tuple #[.int .i64 (jK s.P (gl aI k)),.int .i64 0])/\Up W w'):=fun W hW k hk u hu=>AY S W _ u s (gl aI k) (h.keep (hW.kept S)) hs hb hu (hp.pl k hk);have HX:=aa hx;have bU:=aa aM;have HR:=aa hR;have JL:=aa (fun k=>KC (aI:=aI) h7 k);have cg:Hid (∀k,0<=jK s.P (gl aI k)/\jK s.P (gl aI k)<=7):=fun k=>⟨Ir _ _,Pc h7⟩;have r4:=hp.le
 have HTA:Hid (dF s.P aI=qA s.P aI aI.length):=rfl;clear h hN hB hP hR hs hb hp aM hx h7;generalize s.ns.length=n at *;generalize s.bs.length=nb at *;generalize s.P.length=ji at *;have r5:decide (4096<(aI.length:Int))=false:=by simp;omega
 go_in;go_wp2_with fail;generalize w.alloc (.cells #[.slice np n nc,.slice bp nb bc,.slice pp ji pc] 36)=w1 at *;refine fo.out.mono ?_;rintro e w2 ⟨rfl,aK⟩;have bF:=aa (bU.out.trans aK);have ko:=aa ((aO aK _ (bq.1 HX.out).1).trans HX.out);clear aK fo bU HX x0 x1 x2;go_wp2
 go_loopw [6,19] (fun o i wr=>∃k:Nat,k<=aI.length/\i=.int .i64 k/\Hid (o=.int .i64 (qA s.P aI k))/\Hid (Up w2 wr)) (fun _ i _=>aI.length - (intOf i).toNat)
 case atStart=>exact ⟨0,bg _,rfl,rfl,Up.refl _⟩
 case round =>
  obtain ⟨k,hk,rfl,ho,hU⟩:=hrel;obtain rfl:=ho.out;clear ho;obtain ⟨wo,rfl⟩:=e9 wr;have hbd:=JL.out k;by_cases hlt:k<aI.length
  ·obtain ⟨rb,ro,q,qc,rfl,OI,hq⟩:=dV (aS.keep HR.out ((bF.out.trans hU.out).kept S)) hlt
   have hx:=(aO hU.out _ (bq.1 ko.out).1).trans ko.out;obtain ⟨x0,x1,x2,-,-,-⟩:=aQ hx;have HC:=aa (xV.out wo (bF.out.trans hU.out) k hlt _ hq);have qa:Hid (qA s.P aI (k+1)=qA s.P aI k+jK s.P (gl aI k)):=rfl;have eG:=cg.out k;have bf:=aa hlt;(have j1:(k:Int)<(aI.length:Int):=by omega);(have j2:(k:Int)<8:=by omega);have t1:0<=qA s.P aI k:=hbd.1;(have t2:qA s.P aI k<=28:=by omega);have t3:0<=jK s.P (gl aI k):=eG.1;have t4:jK s.P (gl aI k)<=7:=eG.2;clear hlt hx hq hbd eG;generalize qA s.P aI k=tk at *
   generalize jK s.P (gl aI k)=sc at *;generalize (gl aI k).length=rl at *;go_wp2_with fail;refine HC.out.mono ?_;rintro e w3 ⟨rfl,ct⟩;have jA:=aa (hU.out.trans ct);clear ct HC;go_wp2
   go_roundw
   case rel=>exact ⟨k+1,bf.out,by go_num,by rw [qa.out];go_num,jA.out⟩
   case measure=>have:=bf.out;simp [intOf];omega
  ·obtain rfl:k=aI.length:=by omega
   have rK:=aa (bF.out.trans hU.out);rw [<- HTA.out];clear hbd;go_wp2;go_ret2;exact ⟨rfl,rK.out⟩
def zh (b:xd):Value:=if b.f then .tuple #[.int .i64 b.c,.int .i64 b.p,.int .i64 b.n,.int .i64 0] else .tuple #[.int .i64 0,.int .i64 0,.int .i64 0,.int .i64 6]
theorem Pd (S:Nat->Prop) (w:World) (v vs:Value) (s:kI) (aI:List (List Int)) (h:aP S w v s) (hs:fD s.ns s.P) (hb:s.bs.length=s.ns.length) (Y2:∀c p,dw s.P c p->fD s.ns (bk s.P c p)) (hR:aS S w vs aI) (hp:LZ s.ns.length aI) :
  Calls Tryz.prog 15 #[v,vs] w fun e w'=>e=.returned (zh (mL s.P aI s.P.length))/\Up w w':=by
 obtain ⟨np,nc,bp,bc,pp,pc,rfl,hN,hB,hP⟩:=aP.open h;obtain ⟨rp,rc,rfl,-,-⟩:=eE hR;have h7:s.P.length<=7:=by rw [hs.len];exact hs.le
 have hlen:=hs.len;have aM:=Up.alloc w (.cells #[.slice np s.ns.length nc,.slice bp s.bs.length bc,.slice pp s.P.length pc] 36);have hx:=fQ w (.slice np s.ns.length nc) (.slice bp s.bs.length bc) (.slice pp s.P.length pc) 36;obtain ⟨x0,x1,x2,-,-,-⟩:=aQ hx;have yN:=aa (wI S _ _ _ s aI (h.keep (aM.kept S)) hs hb (aS.keep hR (aM.kept S)) hp)
 have zv:Hid (∀W,Up w W->∀c p:Nat,c<s.P.length->p<s.P.length->Calls Tryz.prog 16 #[.agg #[.slice np s.ns.length nc,.slice bp s.bs.length bc,.slice pp s.P.length pc],.int .i64 c,.int .i64 p] W (nw W s c p)):=fun W hW c p hc Fs=>Au S W _ s c p (h.keep (hW.kept S)) hs hb (by omega) (by omega)
 have TQ:Hid (∀W,Up w W->∀c p:Nat,dw s.P c p->∀u,aP Any W u ⟨s.ns,s.bs,bk s.P c p⟩->Calls Tryz.prog 14 #[u,.slice rp aI.length rc] W fun e w'=>e=.returned (.tuple #[.int .i64 (dF (bk s.P c p) aI),.int .i64 0])/\Up W w'):=fun W hW c p hc u hu=>wI Any W u _ ⟨s.ns,s.bs,bk s.P c p⟩ aI hu (Y2 c p hc) hb ((aS.keep hR (hW.kept S)).sub fun _ _ _=>trivial) hp;have HX:=aa hx;have bU:=aa aM;obtain ⟨RV,Y3⟩:∃RV,RV=zh (mL s.P aI s.P.length):=⟨_,rfl⟩;rw [<- Y3];have aaY:Hid (∀q,q=mL s.P aI s.P.length->zh q=RV):=fun q e=>by rw [Y3,e]
 clear Y3;have sW:Hid (mL s.P aI 0=⟨0,0,dF s.P aI,false⟩):=rfl;have HOS:Hid (∀c,mL s.P aI (c+1)=uV s.P aI (mL s.P aI c) c s.P.length):=fun _=>rfl;have HIS:Hid (∀b c k,uV s.P aI b c (k+1)=qh s.P aI (uV s.P aI b c k) c k):=fun _ _ _=>rfl;have uX:Hid (∀b c,uV s.P aI b c 0=b):=fun _ _=>rfl;clear h hN hB hP hR hs hb hp aM hx hlen Y2;generalize s.ns.length=n at *;generalize s.bs.length=nb at *;generalize hnp:s.P.length=ji at *;clear hnp;go_in;go_wp2_with fail
 generalize w.alloc (.cells #[.slice np n nc,.slice bp nb bc,.slice pp ji pc] 36)=w1 at *;refine yN.out.mono ?_;rintro e w2 ⟨rfl,aK⟩;have bF:=aa (bU.out.trans aK);have hx2:=(aO aK _ (bq.1 HX.out).1).trans HX.out;have ko:=aa hx2;clear x0 x1 x2;obtain ⟨x0,x1,x2,-,-,-⟩:=aQ hx2;clear aK yN bU HX hx2;go_wp2_with fail;clear x0 x1 x2
 go_loopw [8,10,11,12,31] (fun a b c d i wr=>∃k:Nat,k<=ji/\i=.int .i64 k/\∃q:xd,Hid (q=mL s.P aI k)/\a=.int .i64 q.n/\b=.int .i64 q.c/\c=.int .i64 q.p/\d=.bool q.f/\Hid (Up w2 wr)) (fun _ _ _ _ i _=>ji - (intOf i).toNat)
 case atStart=>exact ⟨0,bg _,rfl,⟨0,0,dF s.P aI,false⟩,rfl,rfl,rfl,rfl,rfl,Up.refl _⟩
 case round =>
  obtain ⟨k,hk,rfl,q,hq,rfl,rfl,rfl,rfl,hU⟩:=hrel;obtain ⟨wo,rfl⟩:=e9 wr;by_cases hlt:k<ji
  ·have hx:=(aO hU.out _ (bq.1 ko.out).1).trans ko.out
   obtain ⟨x0,x1,x2,-,-,-⟩:=aQ hx;(have j1:(k:Int)<(ji:Int):=by omega);(have j2:(k:Int)<8:=by omega);have bf:=aa hlt;(have HQ0:Hid (q=uV s.P aI (mL s.P aI k) k 0):=by rw [uX.out];exact hq.out);clear hlt hx;go_wp2_with fail;clear x0 x1 x2
   go_loopw [8,10,11,12,37] (fun a b c d i wr=>∃j:Nat,j<=ji/\i=.int .i64 j/\∃q:xd,Hid (q=uV s.P aI (mL s.P aI k) k j)/\a=.int .i64 q.n/\b=.int .i64 q.c/\c=.int .i64 q.p/\d=.bool q.f/\Hid (Up w2 wr)) (fun _ _ _ _ i _=>ji - (intOf i).toNat)
   case atStart=>exact ⟨0,bg _,rfl,q,HQ0.out,rfl,rfl,rfl,rfl,hU.out⟩
   case round =>
    obtain ⟨j,hj,rfl,r,hr,rfl,rfl,rfl,rfl,gD⟩:=hrel;obtain ⟨wi,rfl⟩:=e9 wr;by_cases hlj:j<ji
    ·have hx:=(aO gD.out _ (bq.1 ko.out).1).trans ko.out
     obtain ⟨x0,x1,x2,-,-,-⟩:=aQ hx;(have m1:(j:Int)<(ji:Int):=by omega);(have m2:(j:Int)<8:=by omega);have yG:=aa hlj;have HC:=aa (zv.out wi (bF.out.trans gD.out) k j bf.out hlj);(have Oh:Hid (uV s.P aI (mL s.P aI k) k (j+1)=qh s.P aI r k j):=by rw [hr.out];exact HIS.out _ _ _);clear hlj hx;go_wp2_with fail;refine HC.out.mono ?_;rintro e w3 ⟨ct,⟨hok,u,rfl,hst⟩ | ⟨hno,code,hc0,-,rfl⟩⟩
     ·obtain ⟨KD,KE,KF,bc2,KG,KH,rfl,-,-,-⟩:=aP.open hst
      have iC:=Up.alloc w3 (.cells #[.slice KD s.ns.length KE,.slice KF s.bs.length bc2,.slice KG (bk s.P k j).length KH] 36);obtain ⟨y0,y1,y2,-,-,-⟩:=aQ (fQ w3 (.slice KD s.ns.length KE) (.slice KF s.bs.length bc2) (.slice KG (bk s.P k j).length KH) 36);have yH:=aa (TQ.out _ (((bF.out.trans gD.out).trans ct).trans iC) k j hok _ (hst.keep (iC.kept _)));have gF:=aa ((gD.out.trans ct).trans iC);have aaZ:=aa hok;clear ct hst iC HC x0 x1 x2 hok;dsimp only at y0 y1 y2 yH gF ⊢
      (have jB:Hid (dF (bk s.P k j) aI<r.n->uV s.P aI (mL s.P aI k) k (j+1)=⟨k,j,dF (bk s.P k j) aI,true⟩):=fun h=>by rw [Oh.out];unfold qh;rw [if_pos ⟨aaZ.out,h⟩]);(have td:Hid (¬dF (bk s.P k j) aI<r.n->uV s.P aI (mL s.P aI k) k (j+1)=r):=fun h=>by rw [Oh.out];unfold qh;rw [if_neg fun e=>h e.2]);generalize dF (bk s.P k j) aI=tt at *;generalize (bk s.P k j).length=el at *;go_wp2_with fail;generalize w3.alloc (.cells #[.slice KD s.ns.length KE,.slice KF s.bs.length bc2,.slice KG el KH] 36)=w4 at *;refine yH.out.mono ?_;rintro e w5 ⟨rfl,mG⟩
      have gU:=aa (gF.out.trans mG);clear mG yH y0 y1 y2 gF;by_cases ht:tt<r.n
      ·have sr:=aa (jB.out ht)
       (have d1:decide (tt<r.n)=true:=by simp [ht]);clear jB td ht;go_wp2
       go_roundw
       case rel=>exact ⟨j+1,yG.out,by go_num,⟨k,j,tt,true⟩,sr.out.symm,rfl,rfl,rfl,rfl,gU.out⟩
       case measure=>have:=yG.out;simp [intOf];omega
      ·have sr:=aa (td.out (by omega))
       (have d1:decide (tt<r.n)=false:=by simp;omega);clear jB td ht;go_wp2
       go_roundw
       case rel=>exact ⟨j+1,yG.out,by go_num,r,sr.out.symm,rfl,rfl,rfl,rfl,gU.out⟩
       case measure=>have:=yG.out;simp [intOf];omega
     ·have sr:Hid (uV s.P aI (mL s.P aI k) k (j+1)=r):=by unfold Hid;rw [Oh.out];unfold qh;rw [if_neg fun e=>hno e.1]
      have gU:=aa ((gD.out.trans ct).trans (Up.alloc w3 (.cells #[.slice none 0 0,.slice none 0 0,.slice none 0 0] 36)));(have d1:(code != 0)=true:=by simpa using hc0);clear ct HC x0 x1 x2 hno hc0;go_wp2
      go_roundw
      case rel=>exact ⟨j+1,yG.out,by go_num,r,sr.out.symm,rfl,rfl,rfl,rfl,gU.out⟩
      case measure=>have:=yG.out;simp [intOf];omega
    ·obtain rfl:j=ji:=by omega
     (have YT:Hid (r=mL s.P aI (k+1)):=by rw [HOS.out];exact hr.out);go_wp2
     go_roundw
     case rel=>exact ⟨k+1,bf.out,by go_num,r,YT.out,rfl,rfl,rfl,rfl,gD.out⟩
     case measure=>have:=bf.out;simp [intOf];omega
  ·obtain rfl:k=ji:=by omega
   have rK:=aa (bF.out.trans hU.out);have HRV:=aa (aaY.out q hq.out);obtain ⟨qc',qp,qn,qf⟩:=q;clear hq;dsimp only;cases qf
   ·go_wp2_with fail
    exact ⟨rfl,.tuple #[.int .i64 0,.int .i64 0,.int .i64 0,.int .i64 6],by simp [results,Tryz.results15,go_sem],by rw [<- HRV.out];rfl,rK.out⟩
   ·go_wp2_with fail
    exact ⟨rfl,.tuple #[.int .i64 qc',.int .i64 qp,.int .i64 qn,.int .i64 0],by simp [results,Tryz.results15,go_sem],by rw [<- HRV.out];rfl,rK.out⟩
end
section
def TR:ByteArray:=⟨#[40,65,44,40,66,44,40,67,44,68,41,41,41,59]⟩
def bA:aA:=⟨[-1,0,0,2,2,4,4],[⟨#[]⟩,⟨#[65]⟩,⟨#[]⟩,⟨#[66]⟩,⟨#[]⟩,⟨#[67]⟩,⟨#[68]⟩]⟩
def tM:List Int:=[-1,0,-1,1,-1,0,1]
theorem Pe:Er TR=0/\BW TR=bA:=by decide +kernel
theorem IY:aF bA=0:=by decide +kernel
theorem Y4:qm bA=false:=by decide +kernel
theorem Z3:∀i,i<7->bD (gs (bI bA) i).data.toList=true:=by decide +kernel
theorem Z4:∀j,j<7->∀i,i<j->gs (bI bA) i≠gs (bI bA) j:=by decide +kernel
theorem IZ:fD (bI bA) (aH bA):=⟨by decide,by decide,by decide,Z3,fun i j h1 h2=>Z4 j h2 i h1,yK IY⟩
theorem TS:dw (aH bA) 6 3:=by decide +kernel
theorem Y5:fD (bI bA) (bk (aH bA) 6 3):=OM IY IZ TS
theorem Y6:∀i,i<7 -> -1<=gi tM i/\gi tM i<16:=by decide +kernel
theorem Y7:(dd (bJ tM)).length<=2:=by decide +kernel
theorem TT:IA 7 tM:=⟨rfl,Y6,IC Y7⟩
theorem U8:dK [0,1,0,1]=[0,0,1,1]:=by unfold dK;simp [List.mergeSort]
theorem Pf:bM tM=[0,1]:=by
 unfold bM;rw [if_neg (by decide),show bJ tM=[0,1,0,1] by decide +kernel,U8];decide +kernel
theorem Z6:dK [4,3]=[3,4]:=by unfold dK;simp [List.mergeSort]
theorem U9:bk (aH bA) 6 3=[[],[0],[0],[2],[2],[4],[3,4]]:=by
 unfold bk;rw [show gl (aH bA) 6++[((3:Nat):Int)]=[4,3] by decide +kernel,Z6];decide +kernel
theorem Z7:jK (aH bA) tM=2:=by
 unfold jK AW;rw [Pf];decide +kernel
theorem Z8:jK (bk (aH bA) 6 3) tM=1:=by
 unfold jK AW;rw [Pf,U9];decide +kernel
end
section
open Go.RowKit Go.Deep
theorem L3 (g:Nat) (lb:Array Value) (eg:∀args w,(callFunc g args).run Tryz.prog w=.ok (.enter g args) w) (S:Nat->Prop) (w:World) (v:Value) (n:Nat) (f:Nat->Value) (p:Nat->Bool)
  (h:aB S w v n f) (hn:n<=1000000) (hp:∀k w',k<n->Up w w'->Calls Tryz.prog g (#[f k]++lb) w' fun e w''=>e=.returned (.bool (p k))/\Up w' w'') :
  Calls Tryz.prog 11 #[v,.func (.func g) #[] lb] w fun e w'=>e=.returned (.bool ((List.range n).any p))/\Up w w':=by
 have HX:=aa (gO p n);have HI:=aa (NU g lb eg S w v n f p h hn hp);obtain ⟨q,cap,rfl,-,-⟩:=aB.open h;clear hp h eg;go_in;go_wp2_with fail;refine HI.out.mono ?_;rintro e w' ⟨rfl,hu⟩;have HU:=aa hu;clear hu;go_wp2;go_ret;exact ⟨bu (by rw [<- HX.out]),HU.out⟩
theorem Pg {w:World} {v:Value} {qs:List RT} (h:uW w v qs):∃g cap,v=.slice (some ⟨g,0,none⟩) qs.length cap:=by
 obtain ⟨g,cap,es,e1,_⟩:=h;exact ⟨g,cap,e1⟩
theorem I1 {w:World} {g n cap:Nat} {qs:List RT} (h:uW w (.slice (some ⟨g,0,none⟩) n cap) qs) {k:Nat} (hk:k<qs.length) :
  ∃pp pc np nc,w.cell? ⟨g,k*3,none⟩=some (.slice pp (gt (qs.map flat) k).ps.length pc)/\w.cell? ⟨g,k*3+1,none⟩=some (.slice np (gt (qs.map flat) k).ns.length nc)/\w.cell? ⟨g,k*3+2,none⟩=some (.string (eM (qs.getD k (.node ByteArray.empty []))))/\aJ Any w (.agg #[.slice pp (gt (qs.map flat) k).ps.length pc,.slice np (gt (qs.map flat) k).ns.length nc]) (gt (qs.map flat) k):=by
 obtain ⟨g',cap',es,e1,e2,h1,h2⟩:=h;injection e1 with e1;injection e1 with e1;injection e1 with e1;subst e1;subst e2;rw [aD] at hk;obtain ⟨c0,c1,c2⟩:=h1 k hk;have hg:gt ((es.map (·.2)).map flat) k=flat (ge es k).2:=by simp [gt,ge,hk]
 have hg2:(es.map (·.2)).getD k (.node ByteArray.empty [])=(ge es k).2:=by simp [ge,hk]
 have h3:=h2 _ (YB hk);rw [hg,hg2];obtain ⟨P1,N1,e,hP,hN⟩:=h3;injection e with e;have e1:(ge es k).1.1=P1/\(ge es k).1.2=N1:=by simpa using e
 obtain ⟨pp,pc,e2,_,_⟩:=aB.open hP;obtain ⟨np,nc,e3,_,_⟩:=aB.open hN;rw [<- e1.1] at e2;rw [<- e1.2] at e3;rw [e2] at c0;rw [e3] at c1;refine ⟨pp,pc,np,nc,c0,c1,c2,_,_,rfl,?_,?_⟩
 ·rw [<- e2,e1.1];exact hP
 ·rw [<- e3,e1.2];exact hN
theorem Va {ts:List aA} {n:Nat} (h:n<ts.length):ts.take (n+1)=ts.take n++[gt ts n]:=by
 rw [iL h];simp [gt,h]
@[go_sem high] theorem aaa (w:World) (ts:Array TypeId) (t:TypeId) (k:IntKind):(Builtin.max_ ts t #[.int k 0,.int k 0,.int k 0,.int k 0,.int k 0]).run Tryz.prog w=.ok (.int k 0) w:=by
 simp [Builtin.max_,Builtin.max2]
theorem R7 (k:Nat):(gs bA.ns k).size<=70000:=by
 unfold gs;by_cases hk:k<bA.ns.length
 ·have h:∀i,i<bA.ns.length->(bA.ns.getD i ByteArray.empty).size<=70000:=by decide
  exact h k hk
 ·rw [mN,vq (by omega)];decide
theorem Ph (w:World):Calls Tryz.prog 6 #[] w fun e w'=>e=.returned (.bool true)/\Up w w':=by
 have EJ:=aa (Km w TR (by decide) (TF TR (by decide)));unfold B2 at EJ;rw [Pe.1,Pe.2] at EJ;go_in;go_wp2_with fail;refine EJ.out.mono ?_;rintro e w1 ⟨aM,v1,rfl,ht1⟩;obtain ⟨P1,N1,rfl,Pj,sX⟩:=ht1;obtain ⟨pp,pc,rfl,-,-⟩:=aB.open Pj;obtain ⟨np,nc,rfl,-,-⟩:=aB.open sX;have Pj:af Any w1 (.slice pp bA.ps.length pc) bA.ps:=Pj;have sX:aC Any w1 (.slice np bA.ns.length nc) bA.ns:=sX;have aK:=Up.alloc w1 (.cells #[.slice pp bA.ps.length pc,.slice np bA.ns.length nc] 33)
 have hb0:=mC w1 (.slice pp bA.ps.length pc) (.slice np bA.ns.length nc) 33;have hb1:=mD w1 (.slice pp bA.ps.length pc) (.slice np bA.ns.length nc) 33;have Cg:=aa (BH Any _ _ bA (aJ.keep ⟨_,_,rfl,Pj,sX⟩ (aK.kept _)) IY (by decide) R7);have bF:=aa (aM.trans aK);clear aM aK Pj sX EJ;generalize bA.ps.length=pl at *;generalize bA.ns.length=nl at *;go_wp2_with fail;generalize w1.alloc (.cells #[.slice pp pl pc,.slice np nl nc] 33)=w2 at *;refine Cg.out.mono ?_;rintro e w3 ⟨ct,⟨hd,-⟩ | ⟨-,v3,rfl,hst⟩⟩
 ·rw [Y4] at hd;cases hd
 have hs3:aP Any w3 v3 ⟨bI bA,dm bA,aH bA⟩:=hst;obtain ⟨ap,ac,bp,bc,cp,cc,rfl,-,-,-⟩:=aP.open hst;dsimp only at hst ⊢;have hal:=Up.alloc w3 (.cells #[.slice ap (bI bA).length ac,.slice bp (dm bA).length bc,.slice cp (aH bA).length cc] 36);have hx:=fQ w3 (.slice ap (bI bA).length ac) (.slice bp (dm bA).length bc) (.slice cp (aH bA).length cc) 36;obtain ⟨x0,x1,x2,-,-,-⟩:=aQ hx;have HX:=aa hx;have Oa:=aa (hst.keep (hal.kept _));have gF:=aa ((bF.out.trans ct).trans hal)
 have xV:Hid (∀W,Up (w3.alloc (.cells #[.slice ap (bI bA).length ac,.slice bp (dm bA).length bc,.slice cp (aH bA).length cc] 36)) W->∀u,af Any W u tM->Calls Tryz.prog 20 #[.agg #[.slice ap (bI bA).length ac,.slice bp (dm bA).length bc,.slice cp (aH bA).length cc],u] W fun e w'=>e=.returned (.tuple #[.int .i64 2,.int .i64 0])/\Up W w'):=fun W hW u hu=>by
  have h:=AY Any W _ u ⟨bI bA,dm bA,aH bA⟩ tM ((hst.keep (hal.kept _)).keep (hW.kept _)) IZ (by rw [gu,di]) hu TT
  rwa [Z7] at h
 have zv:Hid (∀W,Up (w3.alloc (.cells #[.slice ap (bI bA).length ac,.slice bp (dm bA).length bc,.slice cp (aH bA).length cc] 36)) W->Calls Tryz.prog 16 #[.agg #[.slice ap (bI bA).length ac,.slice bp (dm bA).length bc,.slice cp (aH bA).length cc],.int .i64 6,.int .i64 3] W (nw W ⟨bI bA,dm bA,aH bA⟩ 6 3)):=fun W hW=>Au Any W _ ⟨bI bA,dm bA,aH bA⟩ 6 3 ((hst.keep (hal.kept _)).keep (hW.kept _)) IZ (by rw [gu,di]) (by decide) (by decide)
 have HLI:Hid (∀W:World,af Any (W.alloc (.cells #[.int .i64 (-1),.int .i64 0,.int .i64 (-1),.int .i64 1,.int .i64 (-1),.int .i64 0,.int .i64 1] 3)) (.slice (some ⟨W.heap.size,0,none⟩) 7 7) tM):=fun W=>F5 W _ _ tM rfl 7 rfl;have HZ:Hid (IJ (w3.alloc (.cells #[.slice ap (bI bA).length ac,.slice bp (dm bA).length bc,.slice cp (aH bA).length cc] 36)) (w3.heap.size+1)):=by show (w3.alloc _).heap.size=_;rw [aN]
 clear hst hs3 hal hx ct bF Cg hb0 hb1;generalize (bI bA).length=n1 at *;generalize (dm bA).length=n2 at *;generalize (aH bA).length=n3 at *;go_wp2_with fail;generalize w3.alloc (.cells #[.slice ap n1 ac,.slice bp n2 bc,.slice cp n3 cc] 36)=w4 at *;have NC:w4.heap.size=w3.heap.size+1:=HZ.out;have Y8:=HLI.out w4;rw [NC] at Y8;clear NC;refine (xV.out _ (Up.alloc w4 (.cells #[.int .i64 (-1),.int .i64 0,.int .i64 (-1),.int .i64 1,.int .i64 (-1),.int .i64 0,.int .i64 1] 3)) _ Y8).mono ?_;rintro e w5 ⟨rfl,mG⟩
 have gU:=aa ((Up.alloc w4 (.cells #[.int .i64 (-1),.int .i64 0,.int .i64 (-1),.int .i64 1,.int .i64 (-1),.int .i64 0,.int .i64 1] 3)).trans mG);clear x0 x1 x2 mG Y8;obtain ⟨x0,x1,x2,-,-,-⟩:=aQ ((aO gU.out _ (bq.1 HX.out).1).trans HX.out);have HE5:=aa (zv.out w5 gU.out);go_wp2_with fail;refine HE5.out.mono ?_;rintro e w6 ⟨iu,⟨-,v6,rfl,L4⟩ | ⟨hno,-⟩⟩
 case inr=>exact absurd TS hno
 obtain ⟨zV,zW,zX,zY,zZ,z7,rfl,-,-,-⟩:=aP.open L4;dsimp only at L4 ⊢;have R8:=Up.alloc w6 (.cells #[.slice zV (bI bA).length zW,.slice zX (dm bA).length zY,.slice zZ (bk (aH bA) 6 3).length z7] 36);obtain ⟨y0,y1,y2,-,-,-⟩:=aQ (fQ w6 (.slice zV (bI bA).length zW) (.slice zX (dm bA).length zY) (.slice zZ (bk (aH bA) 6 3).length z7) 36)
 have sr:Hid (∀W,Up (w6.alloc (.cells #[.slice zV (bI bA).length zW,.slice zX (dm bA).length zY,.slice zZ (bk (aH bA) 6 3).length z7] 36)) W->∀u,af Any W u tM->Calls Tryz.prog 20 #[.agg #[.slice zV (bI bA).length zW,.slice zX (dm bA).length zY,.slice zZ (bk (aH bA) 6 3).length z7],u] W fun e w'=>e=.returned (.tuple #[.int .i64 1,.int .i64 0])/\Up W w'):=fun W hW u hu=>by
  have h:=AY Any W _ u ⟨bI bA,dm bA,bk (aH bA) 6 3⟩ tM ((L4.keep (R8.kept _)).keep (hW.kept _)) Y5 (by rw [gu,di]) hu TT
  rwa [Z8] at h
 have z8:=aa (((gF.out.trans gU.out).trans iu).trans R8);have HZ7:Hid (IJ (w6.alloc (.cells #[.slice zV (bI bA).length zW,.slice zX (dm bA).length zY,.slice zZ (bk (aH bA) 6 3).length z7] 36)) (w6.heap.size+1)):=by show (w6.alloc _).heap.size=_;rw [aN]
 clear iu L4 R8 HE5 zv xV x0 x1 x2;generalize (bI bA).length=m1 at *;generalize (dm bA).length=m2 at *;generalize (bk (aH bA) 6 3).length=m3 at *;go_wp2_with fail;generalize w6.alloc (.cells #[.slice zV m1 zW,.slice zX m2 zY,.slice zZ m3 z7] 36)=w7 at *;have hz7:w7.heap.size=w6.heap.size+1:=HZ7.out;have Y9:=HLI.out w7;rw [hz7] at Y9;clear hz7;refine (sr.out _ (Up.alloc w7 (.cells #[.int .i64 (-1),.int .i64 0,.int .i64 (-1),.int .i64 1,.int .i64 (-1),.int .i64 0,.int .i64 1] 3)) _ Y9).mono ?_;rintro e w8 ⟨rfl,oC⟩
 have lg:=aa ((z8.out.trans (Up.alloc w7 (.cells #[.int .i64 (-1),.int .i64 0,.int .i64 (-1),.int .i64 1,.int .i64 (-1),.int .i64 0,.int .i64 1] 3))).trans oC);clear oC y0 y1 y2 Y9;go_wp2;go_ret;exact ⟨rfl,lg.out⟩
end
end Go.Proofs.YtfomhlbhcifgbaaGreatDoor
