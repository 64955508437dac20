/- Reference 34: Great, GreatTrees. .. -/
import Derived.Test.YthgabkgmkolobaaGreatQ39
set_option maxRecDepth 100000
set_option maxHeartbeats 4000000
namespace Go.Proofs.YthgabkgmkolobaaGreat
section
open Go.RowKit Go.Deep
def grN (amd:List ByteArray):Bool:=(List.range amd.length).any fun i=>decide (20<(gs amd i).size)
def tq (n:Nat):Bool:=(decide (6<n)&&decide (n<=4096)) || decide (4098<n)
def U7 (ame:List (List Int)):Bool:=(List.range ame.length).any fun i=>tq (gl ame i).length
def Gn (n m:Nat):Bool:=(decide (5<n)&&decide (n<=7)) || decide (10<n) || decide (10<m)
def rJ (amd:List ByteArray) (ame:List (List Int)):Bool:=grN amd || U7 ame || Gn amd.length ame.length
structure acZ (amd:List ByteArray) (ame:List (List Int)):Prop where
 nm:∀k,(gs amd k).size<=20
 row:∀k,(gl ame k).length<=6\/(4096<(gl ame k).length/\(gl ame k).length<=4098)
 n5:amd.length<=5\/(7<amd.length/\amd.length<=10)
 m10:ame.length<=10
theorem afk {amd:List ByteArray} {ame:List (List Int)} (h:rJ amd ame=false):acZ amd ame:=by
 unfold rJ at h;rw [zW,zW] at h;obtain ⟨⟨h1,h2⟩,h3⟩:=h;refine ⟨fun k=>?_,fun k=>?_,?_,?_⟩
 ·by_cases hk:k<amd.length
  ·have:=of_decide_eq_false (any_false h1 hk)
   omega
  ·have:gs amd k=ByteArray.empty:=by simp [gs,hk]
   rw [this];exact aF _
 ·by_cases hk:k<ame.length
  ·have:=any_false h2 hk
   unfold tq at this;simp at this;omega
  ·have:gl ame k=[]:=by simp [gl,hk]
   rw [this];exact .inl (aF _)
 ·unfold Gn at h3
  simp at h3;omega
 ·unfold Gn at h3
  simp at h3;omega
theorem acZ.akh {amd:List ByteArray} {ame:List (List Int)} (h:acZ amd ame):amd.length<=10/\(∀k,(gl ame k).length<=4098)/\(amd.length<=5\/7<amd.length):=by
 have h1:=h.n5;refine ⟨by omega,fun k=>?_,by omega⟩;have:=h.row k;omega
theorem aab (S T:Nat->Prop) (w:World) (v vs:Value) (amd:List ByteArray) (ame:List (List Int)) (h:aj S w v amd) (hS:aT T w vs ame) (hn:amd.length<=9223372036854775807) (hz:∀k,(gs amd k).size<=9223372036854775807) (hm:ame.length<=9223372036854775807) (hr:∀k,(gl ame k).length<=9223372036854775807) :
  Calls Tryz.prog 59 #[v,vs] w fun e w'=>e=.returned (.bool (rJ amd ame))/\w=w':=by
 obtain ⟨p,cap,rfl,hcap,-⟩:=aq.open h;have h:aj S w (.slice p amd.length cap) amd:=h;obtain ⟨sp,sc,rfl,-,-⟩:=dy hS;have HG:Hid (rJ amd ame=(grN amd || U7 ame || Gn amd.length ame.length)):=rfl;have HGN:Hid (grN amd=(List.range amd.length).any fun i=>decide (20<(gs amd i).size)):=rfl;have Aq:Hid (U7 ame=(List.range ame.length).any fun i=>tq (gl ame i).length):=rfl;have HN:=aa h;have HS:=aa hS;have HZ:=aa hz;have HR:=aa hr;clear h hS hz hr;go_in;go_wp2
 go_loop [5] (fun i=>∃k:Nat,k<=amd.length/\i=.int .i64 k/\Hid (∀j,j<k->decide (20<(gs amd j).size)=false)) (fun i=>amd.length - (intOf i).toNat)
 case atStart=>exact ⟨0,aF _,rfl,fun j hj=>absurd hj (aZ _)⟩
 case round =>
  obtain ⟨k,hk,rfl,hd⟩:=hrel;by_cases hlt:k<amd.length
  ·obtain ⟨b,off,rfl,hc⟩:=cH HN.out hlt
   (have mG:Hid (20<(gs amd k).size->grN amd=true):=fun h1=>by rw [HGN.out];exact wC hlt (decide_eq_true h1));(have HX:Hid (¬20<(gs amd k).size->∀j,j<k+1->decide (20<(gs amd j).size)=false):=fun h1 j hj=>if e:j=k then by subst e;exact decide_eq_false h1 else hd.out j (by omega));have hsz:=HZ.out k;generalize gs amd k=nm at *;by_cases h20:20<nm.size
   ·have HF:Hid (rJ amd ame=true):=by unfold Hid;rw [HG.out,mG.out h20];rfl
    go_wp2;go_ret;exact ⟨aO HF.out.symm,rfl⟩
   ·have uU:=aa (HX.out h20)
    go_wp2
    go_round
    case rel=>exact ⟨k+1,by omega,by go_num,uU.out⟩
    case measure=>simp [intOf];omega
  ·obtain rfl:k=amd.length:=by omega
   (have HNF:Hid (grN amd=false):=by unfold Hid;rw [HGN.out];exact any_none hd.out);clear hd hlt hk;go_wp2
   go_loop [6,7] (fun i _=>∃k:Nat,k<=ame.length/\i=.int .i64 k/\Hid (∀j,j<k->tq (gl ame j).length=false)) (fun i _=>ame.length - (intOf i).toNat)
   case atStart=>exact ⟨0,aF _,rfl,fun j hj=>absurd hj (aZ _)⟩
   case round =>
    obtain ⟨k,hk,rfl,hd⟩:=hrel;by_cases hlt:k<ame.length
    ·obtain ⟨b,off,r0,r1,rfl,hc,-⟩:=eZ HS.out hlt
     (have mG:Hid (tq (gl ame k).length=true->U7 ame=true):=fun h1=>by rw [Aq.out];exact wC hlt h1);(have HX:Hid (tq (gl ame k).length=false->∀j,j<k+1->tq (gl ame j).length=false):=fun h1 j hj=>if e:j=k then by subst e;exact h1 else hd.out j (by omega));have hsz:=HR.out k;have Ub:Hid (tq (gl ame k).length=((decide (6<(gl ame k).length)&&decide ((gl ame k).length<=4096)) || decide (4098<(gl ame k).length))):=rfl;generalize (gl ame k).length=m at *;(have key:(6<m/\m<=4096/\tq m=true)\/(6<m/\4096<m/\4098<m/\tq m=true)\/(6<m/\4096<m/\m<=4098/\tq m=false)\/(m<=6/\tq m=false):=by rw [Ub.out];by_cases q1:6<m<;>by_cases q2:m<=4096<;>by_cases q3:4098<m<;>simp [q1,q2,q3]<;>omega);rcases key with ⟨q1,q2,q⟩ | ⟨q1,q2,q3,q⟩ | ⟨q1,q2,q3,q⟩ | ⟨q1,q⟩
     ·have HF:Hid (rJ amd ame=true):=by unfold Hid;rw [HG.out,mG.out q];simp
      (have d1:decide (6<(m:Int))=true:=by simp;omega);(have d2:decide ((m:Int)<=4096)=true:=by simp;omega);clear mG HX Ub q;go_wp2_with fail
      all_goals (go_ret;exact ⟨aO HF.out.symm,rfl⟩)
     ·have HF:Hid (rJ amd ame=true):=by unfold Hid;rw [HG.out,mG.out q];simp
      (have d1:decide (6<(m:Int))=true:=by simp;omega);(have d2:decide ((m:Int)<=4096)=false:=by simp;omega);(have d3:decide (4098<(m:Int))=true:=by simp;omega);clear mG HX Ub q;go_wp2_with fail
      all_goals (go_ret;exact ⟨aO HF.out.symm,rfl⟩)
     ·have uU:=aa (HX.out q)
      (have d1:decide (6<(m:Int))=true:=by simp;omega);(have d2:decide ((m:Int)<=4096)=false:=by simp;omega);(have d3:decide (4098<(m:Int))=false:=by simp;omega);clear mG HX Ub q;go_wp2
      go_round
      case rel=>exact ⟨k+1,by omega,by go_num,uU.out⟩
      case measure=>simp [intOf];omega
     ·have uU:=aa (HX.out q)
      (have d1:decide (6<(m:Int))=false:=by simp;omega);(have d3:decide (4098<(m:Int))=false:=by simp;omega);clear mG HX Ub q;go_wp2
      go_round
      case rel=>exact ⟨k+1,by omega,by go_num,uU.out⟩
      case measure=>simp [intOf];omega
    ·obtain rfl:k=ame.length:=by omega
     (have R9:Hid (U7 ame=false):=by unfold Hid;rw [Aq.out];exact any_none hd.out);(have HF:Hid (rJ amd ame=Gn amd.length ame.length):=by unfold Hid;rw [HG.out,HNF.out,R9.out];simp);have HT:Hid (Gn amd.length ame.length=((decide (5<amd.length)&&decide (amd.length<=7)) || decide (10<amd.length) || decide (10<ame.length))):=rfl;clear hd hlt hk HG HGN Aq HNF R9 HN HS HZ HR;generalize amd.length=n at *;generalize ame.length=m at *;by_cases q1:5<n
     ·by_cases q2:n<=7
      ·have HB:Hid (rJ amd ame=true):=by unfold Hid;rw [HF.out,HT.out];simp [q1,q2]
       go_wp2_with fail
       all_goals (go_ret;refine ⟨aO ?_,rfl⟩;first | (rw [HB.out];done) | (rw [HB.out];simp;done) | (rw [HB.out];simp;omega))
      ·by_cases q3:10<n
       ·have HB:Hid (rJ amd ame=true):=by unfold Hid;rw [HF.out,HT.out];simp [q3]
        go_wp2_with fail
        all_goals (go_ret;refine ⟨aO ?_,rfl⟩;first | (rw [HB.out];done) | (rw [HB.out];simp;done) | (rw [HB.out];simp;omega))
       ·by_cases q4:10<m
        ·have HB:Hid (rJ amd ame=true):=by unfold Hid;rw [HF.out,HT.out];simp [q4]
         go_wp2_with fail
         all_goals (go_ret;refine ⟨aO ?_,rfl⟩;first | (rw [HB.out];done) | (rw [HB.out];simp;done) | (rw [HB.out];simp;omega))
        ·have HB:Hid (rJ amd ame=false):=by unfold Hid;rw [HF.out,HT.out];simp [q2,q3,q4]
         go_wp2_with fail
         all_goals (go_ret;refine ⟨aO ?_,rfl⟩;first | (rw [HB.out];done) | (rw [HB.out];simp;done) | (rw [HB.out];simp;omega))
     ·have q3:¬10<n:=by omega
      by_cases q4:10<m
      ·have HB:Hid (rJ amd ame=true):=by unfold Hid;rw [HF.out,HT.out];simp [q4]
       go_wp2_with fail
       all_goals (go_ret;refine ⟨aO ?_,rfl⟩;first | (rw [HB.out];done) | (rw [HB.out];simp;done) | (rw [HB.out];simp;omega))
      ·have HB:Hid (rJ amd ame=false):=by unfold Hid;rw [HF.out,HT.out];simp [q1,q3,q4]
       go_wp2_with fail
       all_goals (go_ret;refine ⟨aO ?_,rfl⟩;first | (rw [HB.out];done) | (rw [HB.out];simp;done) | (rw [HB.out];simp;omega))
def DG (ts:List ax):Bool:=((List.range ts.length).any fun k=>uJ (gt ts k) 16) || decide (16<ts.length)
theorem LM (S:Nat->Prop) (w:World) (v:Value) (ts:List ax) (h:fQ S w v ts) (hz:WA ts) :
  Calls Tryz.prog 101 #[v] w fun e w'=>e=.returned (.bool (DG ts))/\Up w w':=by
 obtain ⟨p,cap,rfl,-⟩:=nH h;have HX:=aa h;have HZ:=aa hz;have HG:Hid (DG ts=(((List.range ts.length).any fun k=>uJ (gt ts k) 16) || decide (16<ts.length))):=rfl;have hl:=hz.1;clear h hz;go_in;go_wp2
 go_loopw [3] (fun i wr=>∃k:Nat,k<=ts.length/\i=.int .i64 k/\Hid (Up w wr)/\Hid (∀j,j<k->uJ (gt ts j) 16=false)) (fun i _=>ts.length - (intOf i).toNat)
 case atStart=>exact ⟨0,aF _,rfl,Up.refl _,fun j hj=>absurd hj (aZ _)⟩
 case round =>
  obtain ⟨k,hk,rfl,hU,hd⟩:=hrel;obtain ⟨wo,rfl⟩:=eM wr;by_cases hlt:k<ts.length
  ·obtain ⟨b,off,pp,pc,np,nc,rfl,c0,c1,hT⟩:=oW (HX.out.keep (hU.out.kept S)) hlt
   (have i1:(0:Int)<=(k:Int):=by omega);(have i2:(k:Int)<(ts.length:Int):=by omega);obtain ⟨z1,z2,z3⟩:=HZ.out.2 k;have DY:=aa (YP S wo _ (gt ts k) 16 hT z1 z2 z3);(have HY:Hid (uJ (gt ts k) 16=true->DG ts=true):=fun e=>by rw [HG.out,wC hlt e];rfl);(have HN:Hid (uJ (gt ts k) 16=false->∀j,j<k+1->uJ (gt ts j) 16=false):=fun e j hj=>if ej:j=k then by subst ej;exact e else hd.out j (by omega));have aR:=aa hlt;clear hd hlt hk hT z1 z2 z3;generalize uJ (gt ts k) 16=g at *;generalize gt ts k=t at *;cases g
   ·have oB:=aa (HN.out rfl)
    go_wp2_with fail;refine DY.out.mono ?_;rintro e w' ⟨rfl,hb⟩;have b7:=aa (hU.out.trans hb);clear hb;go_wp2
    go_roundw
    case rel=>exact ⟨k+1,aR.out,by go_num,b7.out,oB.out⟩
    case measure=>have:=aR.out;simp [intOf];omega
   ·have HY2:=aa (HY.out rfl)
    go_wp2_with fail;refine DY.out.mono ?_;rintro e w' ⟨rfl,hb⟩;have b7:=aa (hU.out.trans hb);clear hb;go_wp2;go_ret;exact ⟨aO HY2.out.symm,b7.out⟩
  ·obtain rfl:k=ts.length:=by omega
   (have HF:Hid (DG ts=decide (16<(ts.length:Int))):=by unfold Hid;rw [HG.out,any_none hd.out,Bool.false_or,mW,decide_eq_true_iff,decide_eq_true_iff];omega);clear hd hlt;go_wp2;go_ret;exact ⟨aO (by rw [HF.out]),hU.out⟩
def CK (amd:List ByteArray) (ame:List (List Int)) (ts:List ax):Bool:=rJ amd ame || DG ts
theorem Tu (w:World) (v:Value) (amd:List ByteArray) (ame:List (List Int)) (ts:List ax) (sc:Int) (h:CD w v amd ame ts sc) :
  Calls Tryz.prog 41 #[v] w fun e w'=>e=.returned (.bool (CK amd ame ts))/\Up w w':=by
 obtain ⟨V0,V1,V2,rfl,hN,hS,hT⟩:=h.ex;obtain ⟨p0,c0,rfl,-,-⟩:=aq.open hN;obtain ⟨p1,c1,rfl,-,-⟩:=dy hS;obtain ⟨p2,c2,rfl,-⟩:=nH hT;have hN:aj Any w (.slice p0 amd.length c0) amd:=hN;have hu:=Up.alloc w (.cells #[.slice p0 amd.length c0,.slice p1 ame.length c1,.slice p2 ts.length c2,.int .i64 sc] 69);have q0:=aS w #[.slice p0 amd.length c0,.slice p1 ame.length c1,.slice p2 ts.length c2,.int .i64 sc] 69 0;have q1:=aS w #[.slice p0 amd.length c0,.slice p1 ame.length c1,.slice p2 ts.length c2,.int .i64 sc] 69 1;have q2:=aS w #[.slice p0 amd.length c0,.slice p1 ame.length c1,.slice p2 ts.length c2,.int .i64 sc] 69 2;have DY:=aa (aab Any Any _ _ _ amd ame (aj.keep hN (hu.kept _)) (hS.keep (hu.kept _)) h.n.1 h.n.2 h.s.1 h.s.2);have HGT:=aa (LM Any _ _ ts (hT.keep (hu.kept _)) h.t);have HG:Hid (CK amd ame ts=(rJ amd ame || DG ts)):=rfl;have HU:=aa hu;simp only [List.getElem?_toArray,List.getElem?_cons_zero,F2] at q0 q1 q2;clear hN hS hT hu h;generalize rJ amd ame=a at *;generalize DG ts=b at *;go_in;go_wp2_with fail;generalize w.alloc (.cells #[.slice p0 amd.length c0,.slice p1 ame.length c1,.slice p2 ts.length c2,.int .i64 sc] 69)=w1 at *;refine DY.out.mono ?_;rintro e w2 ⟨rfl,rfl⟩;cases a
 ·go_wp2_with fail
  refine HGT.out.mono ?_;rintro e w3 ⟨rfl,cR⟩;have eW:=aa (HU.out.trans cR);clear cR;go_wp2;go_ret;exact ⟨aO (by rw [HG.out];rfl),eW.out⟩
 ·go_wp2
  go_ret;exact ⟨aO (by rw [HG.out];rfl),HU.out⟩
theorem ahW (S T:Nat->Prop) (w:World) (bx:Nat) (v vs:Value) (x s:List Int) (hb:w.cell? ⟨bx,0,none⟩=some vs) (hs:af S w vs s) (h:af T w v x) (hn:x.length<=1000000) (hm:s.length<=1000000) :
  NJ 111 #[.pointer (some ⟨bx,0,none⟩)] #[v] (.bool (decide (x=s))) w:=by
 intro d;show Calls Tryz.prog 111 #[v,.pointer (some ⟨bx,0,none⟩)] (w.drewN d) _;have hd:=Up.drewN w d;have HC:=aa (Gx T S (w.drewN d) v vs x s (af.keep h (hd.kept _)) (af.keep hs (hd.kept _)) hn hm);have c1:=hd.cell hb;obtain ⟨p,cap,rfl,-,-⟩:=aq.open h;obtain ⟨q,qI,rfl,-,-⟩:=aq.open hs;obtain ⟨W,hW⟩:∃W,W=w.drewN d:=⟨_,rfl⟩;have HW:=aa hW;rw [<- hW] at c1 HC ⊢;clear hd hb h hs hW;go_in;go_wp2_with fail;refine HC.out.mono ?_;rintro e w' ⟨rfl,m,rfl⟩;go_wp2;go_ret;rw [HW.out];exact ⟨rfl,abE ⟨d,rfl⟩ ⟨m,rfl⟩⟩
theorem aac (l:List (List Int)) (s:List Int):((List.range l.length).any fun k=>decide (gl l k=s))=decide (s∈l):=by
 rw [mW,dx,decide_eq_true_eq];constructor
 ·rintro ⟨k,hk,e⟩
  have hk:=bu.1 hk;have e:=of_decide_eq_true e;rw [<- e];simp [gl,hk]
 ·intro h
  obtain ⟨k,hk,e⟩:=rQ h;exact ⟨k,bu.2 hk,decide_eq_true (by simp [gl,hk,e])⟩
theorem afl (S T:Nat->Prop) (w:World) (bl:Nat) (v vl:Value) (s:List Int) (l:List (List Int)) (hb:w.cell? ⟨bl,0,none⟩=some vl) (hL:aT S w vl l) (h:af T w v s) (hn:s.length<=1000000) (hl:l.length<=1000000) (hr:∀k,(gl l k).length<=1000000) :
  Calls Tryz.prog 110 #[v,.pointer (some ⟨bl,0,none⟩)] w fun e w'=>e=.returned (.bool (!decide (s∈l)))/\Up w w':=by
 obtain ⟨p,cap,rfl,-,-⟩:=aq.open h;have h:af T w (.slice p s.length cap) s:=h;obtain ⟨q,qI,rfl,-,-⟩:=dy hL;have hu:=Up.alloc w (.cells #[.slice p s.length cap] 26);have gX:(w.alloc (.cells #[.slice p s.length cap] 26)).cell? ⟨w.heap.size,0,none⟩=some (.slice p s.length cap):=by unfold World.cell?;rw [ng];rfl
 have HAS:Hid (Calls Tryz.prog 22 #[.slice q l.length qI,.func (.func 111) #[] #[.pointer (some ⟨w.heap.size,0,none⟩)]] (w.alloc (.cells #[.slice p s.length cap] 26)) fun e w'=>e=.returned (.bool (decide (s∈l)))/\Up (w.alloc (.cells #[.slice p s.length cap] 26)) w'):=by obtain ⟨f,sQ,hf2⟩:=hL.keep (hu.kept S);rw [<- aac l s];refine (WQ 111 #[.pointer (some ⟨w.heap.size,0,none⟩)] (enters_of Tryz.func111 (by kernel_rfl) rfl) S _ _ l.length f (fun k=>decide (gl l k=s)) sQ hl fun k hk=>ahW T S _ w.heap.size _ _ (gl l k) s gX (af.keep h (hu.kept T)) (hf2 k hk) (hr k) hn).mono ?_;rintro e w' ⟨rfl,m,rfl⟩;exact ⟨rfl,Up.drewN _ m⟩
 have c1:=hu.cell hb;have HU:=aa hu;clear hb hL h hr gX hu;generalize decide (s∈l)=r at *;go_in;go_wp2_with fail;refine HAS.out.mono ?_;rintro e w' ⟨rfl,aI⟩;have b7:=aa (HU.out.trans aI);clear aI;go_wp2;go_ret;exact ⟨aO (by cases r<;>rfl),b7.out⟩
theorem Sm (f:Nat) (lb:Array Value) (eg:∀args w,(callFunc f args).run Tryz.prog w=.ok (.enter f args) w) {base:Nat} {w:World} {v:Value} {ps:List (List Int×Value)} (Q:List Int->Bool) (h:sk base w v ps) (hn:ps.length<=1000000)
  (hf:∀p∈ps,∀W,w.grownBy W v.ownBlock->Calls Tryz.prog f (#[p.2]++lb) W fun e W'=>e=.returned (.bool (Q p.1))/\Up W W') :
  Calls Tryz.prog 109 #[v,.func (.func f) #[] lb] w fun e w'=>w.grownBy w' v.ownBlock/\∃v' ps',e=.returned v'/\ps'.map (·.1)=(ps.map (·.1)).filter (fun s=>!Q s)/\sk base w' v' ps'/\v'.ownBlock=v.ownBlock:=by
 have hown:=h.own;obtain ⟨q,cap,hv,_⟩:=hown.form (n:=ps.length) (by simp);obtain ⟨_,⟨h1,h2⟩ | ⟨g,cap',cur,h1,_⟩⟩:=hown
 ·have hp:ps=[]:=by simpa using h2
  subst hp;subst h1;have qV:=aa (NU f lb eg Any w (.slice none 0 0) 0 (fun _=>undef) (fun _=>false) ⟨none,0,rfl,ah _,.inl rfl⟩ (by omega) fun k _ hk=>absurd hk (aZ _));rw [dZ fun j hj=>rfl] at qV;go_in;go_wp2_with fail;refine qV.out.mono ?_;rintro e w1 ⟨rfl,hu⟩;have HU:=aa hu;clear hu;go_wp2;go_ret;exact ⟨jZ HU.out _,.slice none 0 0,[],rfl,rfl,⟨CI h.own HU.out,by simp,by simp⟩,rfl⟩
 rw [hv] at h1;injection h1 with h1 _ _;subst h1;subst hv;have hown:=h.own;have og:(ps.map (·.2)).length=ps.length:=by simp
 have hat:∀j,j<ps.length->∃p,p∈ps/\mP (ps.map (·.2)) j=p.2/\gl (ps.map (·.1)) j=p.1:=fun j hj=>⟨ps[j],jy hj,by simp [mP,hj],by simp [gl,hj]⟩;have hcon:=ZX (P:=fun j=>Q (gl (ps.map (·.1)) j)) f lb eg (base:=base) (w:=w) (bk:=g) (cap:=cap) (vs:=ps.map (·.2)) (by rw [og];exact hown) (by rw [og];exact hn)
  (fun j hj=>by
   obtain ⟨p,hp,e,_⟩:=hat j (by simpa using hj);obtain ⟨q,c,e2⟩:=h.shape p hp
   exact ⟨q,_,c,by rw [e,e2]⟩)
  (fun j hj W hW=>by
   obtain ⟨p,hp,e1,e2⟩:=hat j (by simpa using hj);rw [e1];simp only [e2]
   exact hf p hp W hW)
 rw [og] at hcon;refine hcon.mono ?_;rintro e w' ⟨m,rfl,ho,hg⟩;obtain ⟨K,hK⟩:∃K,dH (fun j=>Q (gl (ps.map (·.1)) j)) ps.length=K:=⟨_,rfl⟩;have hks:∀j∈K,j<ps.length:=fun j hj=>by rw [<- hK] at hj;exact bu.1 (gP.1 hj).1
 rw [hK] at ho;have hkm:∀p∈K.map (fun j=>ps.getD j ([],undef)),p∈ps:=fun p hp=>by obtain ⟨j,hj,rfl⟩:=bI.1 hp;have hj:j<ps.length:=hks j hj;rw [rP,kQ hj];exact jy hj
 refine ⟨hg,_,K.map (fun j=>ps.getD j ([],undef)),rfl,?_,⟨?_,fun p hp=>h.shape p (hkm p hp),fun p hp=>?_⟩,rfl⟩
 ·have e9:ps.map (·.1)=(List.range ps.length).map (gl (ps.map (·.1))):=by
   apply tY
   ·simp
   ·intro i h1 h2
    simp at h1
    simp [gl,h1]
  rw [jA]
  have e8:K.map ((fun x=>x.1) ∘ fun j=>ps.getD j ([],undef))=K.map (gl (ps.map (·.1))):=by
   refine lz fun j hj=>?_
   have:=hks j hj
   simp [gl,this]
  rw [e8]
  conv=>rhs;rw [e9,List.filter_map]
  rw [<- hK];rfl
 ·rw [jA]
  have e:K.map ((fun x=>x.2) ∘ fun j=>ps.getD j ([],undef))=K.map (mP (ps.map (·.2))):=by refine lz fun j hj=>?_;have:=hks j hj;simp [mP,this]
  rw [e];exact ho
 ·exact aq.keep (h.row p (hkm p hp)) fun b hb hbl=>hg.block b hbl fun e=>hb e.symm
def vO (w:World) (amd:List ByteArray) (ts:List ax) (e:Ending) (w':World):Prop :=
 Up w w'/\∃v,e=.returned (.tuple #[v,.int .i64 (RY amd ts)])/\aG Any w' v (Kz amd ts)
theorem aad {w W:World} {amd:List ByteArray} {ts:List ax} {c:Int} (hu:Up w W) (hb:W.heap[w.heap.size]? = some (Obj.cells #[.slice none 0 0,.slice none 0 0] 39 (0,0))) (hc:nJ amd ts=c) (h0:c≠0) :
  ((
   W.setCell ⟨w.heap.size,0,none⟩ (.slice none 0 0)).setCell ⟨w.heap.size,1,none⟩ (.slice none 0 0)).cell? ⟨w.heap.size,0,none⟩=some (.slice none 0 0)/\((W.setCell ⟨w.heap.size,0,none⟩ (.slice none 0 0)).setCell ⟨w.heap.size,1,none⟩ (.slice none 0 0)).cell? ⟨w.heap.size,1,none⟩=some (.slice none 0 0) /\
   vO w amd ts (.returned (.tuple #[.agg #[.slice none 0 0,.slice none 0 0],.int .i64 c])) ((W.setCell ⟨w.heap.size,0,none⟩ (.slice none 0 0)).setCell ⟨w.heap.size,1,none⟩ (.slice none 0 0)):=by
 obtain ⟨s1,s2,s3,s4⟩:=gz (p:=.slice none 0 0) (q:=.slice none 0 0) hb (ah _) hu;have e1:RY amd ts=c:=by unfold RY;rw [if_pos (by rw [hc];exact h0),hc]
 refine ⟨s2,s3,s1,.agg #[.slice none 0 0,.slice none 0 0],by rw [e1],?_⟩;unfold Kz;rw [if_pos (by rw [hc];exact h0)];exact zj _
theorem aae {w W:World} {amd:List ByteArray} {ts:List ax} {T:ax} {p n:Option Addr} {pc nc:Nat} {c:Int} (hu:Up w W) (hb:W.heap[w.heap.size]? = some (Obj.cells #[.slice none 0 0,.slice none 0 0] 39 (0,0))) (hT:aG Any W (.agg #[.slice p T.ps.length pc,.slice n T.ns.length nc]) T) (he:RY amd ts=c) (ht:Kz amd ts=T) :
  ((
   W.setCell ⟨w.heap.size,0,none⟩ (.slice p T.ps.length pc)).setCell ⟨w.heap.size,1,none⟩ (.slice n T.ns.length nc)).cell? ⟨w.heap.size,0,none⟩=some (.slice p T.ps.length pc)/\((W.setCell ⟨w.heap.size,0,none⟩ (.slice p T.ps.length pc)).setCell ⟨w.heap.size,1,none⟩ (.slice n T.ns.length nc)).cell? ⟨w.heap.size,1,none⟩=some (.slice n T.ns.length nc) /\
   vO w amd ts (.returned (.tuple #[.agg #[.slice p T.ps.length pc,.slice n T.ns.length nc],.int .i64 c])) ((W.setCell ⟨w.heap.size,0,none⟩ (.slice p T.ps.length pc)).setCell ⟨w.heap.size,1,none⟩ (.slice n T.ns.length nc)):=by
 obtain ⟨s1,s2,s3,s4⟩:=gz (p:=.slice p T.ps.length pc) (q:=.slice n T.ns.length nc) hb (ah _) hu;refine ⟨s2,s3,s1,_,by rw [he],?_⟩;rw [ht];exact ((Tq hT hb).keep fun b hb _=>s4 b hb).sub fun _ _ _=>trivial
theorem sk.ahX {base:Nat} {w W:World} {v:Value} {ps:List (List Int×Value)} (h:sk base w v ps) (hu:Up w W):sk base W v ps :=
 ⟨CI h.own hu,h.shape,fun p hp=>af.keep (h.row p hp) (hu.kept _)⟩
structure CsI (w0:World) (amd:List ByteArray) (ts:List ax) (k:Nat) (v:Value) (W:World):Prop where
 up:Up w0 W
 ex:∃ps,sk w0.heap.size W v ps/\ps.map (·.1)=if k=0 then [] else kP ts amd k
theorem CsI.shape {w0 W:World} {amd:List ByteArray} {ts:List ax} {k:Nat} {v:Value} (h:CsI w0 amd ts k v W):∃p n c,v=.slice p n c:=by
 obtain ⟨ps,h1,_⟩:=h.ex;obtain ⟨q,cap,e,_⟩:=h1.own.form (n:=ps.length) (by simp);exact ⟨q,_,cap,e⟩
theorem ac0 (S:Nat->Prop) (w:World) (v vt:Value) (amd:List ByteArray) (ts:List ax) (h:aj S w v amd) (hn:amd.length<=1000000) (hz:∀k,(gs amd k).size<=70000) (h5:amd.length<=5\/7<amd.length) (hT:fQ S w vt ts) (htn:ts.length<=64)
  (htr:∀k,(gt ts k).ps.length<=1000000/\(gt ts k).ns.length<=1000000/\∀j,(gs (gt ts k).ns j).size<=70000) :
  Calls Tryz.prog 49 #[v,vt] w (vO w amd ts):=by
 obtain ⟨mp,mc,rfl,-,-⟩:=aq.open h;have h:aj S w (.slice mp amd.length mc) amd:=h;obtain ⟨tp,tc,rfl,-⟩:=nH hT;have uZ:Up w (w.alloc (.cells #[.slice none 0 0,.slice none 0 0] 39)):=Up.alloc _ _;have hrb:(w.alloc (.cells #[.slice none 0 0,.slice none 0 0] 39)).heap[w.heap.size]? = some (.cells #[.slice none 0 0,.slice none 0 0] 39 (0,0)):=iN;have hsz:w.heap.size<(w.alloc (.cells #[.slice none 0 0,.slice none 0 0] 39)).heap.size:=by simp
 obtain ⟨w0,hw0⟩:∃x,w.alloc (.cells #[.slice none 0 0,.slice none 0 0] 39)=x:=⟨_,rfl⟩;have Yg:=aa hw0;rw [hw0] at uZ hrb hsz;clear hw0;have Ef:=aa uZ;have gY:Hid (∀W,Up w0 W->W.heap[w.heap.size]? = some (.cells #[.slice none 0 0,.slice none 0 0] 39 (0,0))):=fun W hW=>(bH hW _ hsz).trans hrb;have BP:Hid (∀W c,Up w0 W->nJ amd ts=c->c≠0->_):=fun W c hW h1 h2=>And.intro (boxed (gY.out W hW)) (aad (c:=c) (Ef.out.trans hW) (gY.out W hW) h1 h2);have HN:=aa (aj.keep h (uZ.kept S));have HT:=aa (hT.keep (uZ.kept S));have wD:=aa htr;have jD:=aa (CE S w0 _ amd HN.out hn hz);have Ec:Hid (nJ amd ts=if eL amd≠0 then eL amd else if ts.length=0 then 5 else bf (o6 ts amd) ts.length):=rfl;have ij:Hid (eL amd=0->nQ amd):=fun e=>(Dy (LH h5 e)).1 e;have HBZ:=aa hz;clear h hT hz htr uZ hrb hsz;go_in;go_wp2_with fail;rw [Yg.out];refine jD.out.mono ?_;rintro e w1 ⟨rfl,bK⟩;have cB:=aa bK;by_cases e1:eL amd=0
 ·have HM:=aa (ij.out e1)
  have lZ:Hid (nJ amd ts=if ts.length=0 then 5 else bf (o6 ts amd) ts.length):=by unfold Hid;rw [Ec.out,if_neg (fun h=>h e1)]
  rw [e1];clear e1 ij Ec bK jD;by_cases e2:ts.length=0
  ·have hst:=BP.out w1 5 cB.out (by rw [lZ.out,if_pos e2]) (by decide)
   obtain ⟨⟨q0,q1,q2,q3⟩,s2,s3,hp⟩:=hst;have HP:=aa hp;(have d1:((ts.length:Int)==0)=true:=by simp [e2]);clear hp e2;go_wp2_with fail;exact ⟨rfl,.tuple #[.agg #[.slice none 0 0,.slice none 0 0],.int .i64 5],by simp [results,Tryz.results49,go_sem,s2,s3],HP.out⟩
  ·have d1:((ts.length:Int)==0)=false:=beq_eq_false_iff_ne.2 (by omega)
   (have AQ:Hid (nJ amd ts=bf (o6 ts amd) ts.length):=by unfold Hid;rw [lZ.out,if_neg e2]);(have zg:Hid (0<ts.length):=by unfold Hid;omega);clear e2 lZ;go_wp2_with fail;clear d1
   go_loopw [8,9,10,28] (fun _ _ _ i wr=>∃k:Nat,k<=ts.length/\i=.int .i64 k/\Hid (Up w0 wr)/\Hid (∀j,j<k->o6 ts amd j=0)) (fun _ _ _ i _=>ts.length - (intOf i).toNat)
   case atStart=>exact ⟨0,aF _,rfl,cB.out,fun j hj=>absurd hj (aZ _)⟩
   case round =>
    obtain ⟨k,hk,rfl,hU,hd⟩:=hrel;obtain ⟨wo,rfl⟩:=eM wr;by_cases hlt:k<ts.length
    ·obtain ⟨tb,ac1,pp,pc,np,nc,rfl,c0,c1,NX⟩:=oW (HT.out.keep (hU.out.kept S)) hlt
     (have i1:(0:Int)<=(k:Int):=by omega);(have i2:(k:Int)<(ts.length:Int):=by omega);have nY:=Up.alloc wo (.cells #[.slice pp (gt ts k).ps.length pc,.slice np (gt ts k).ns.length nc] 39);obtain ⟨q0,q1,-,-⟩:=boxed (iN (w:=wo) (P:=.slice pp (gt ts k).ps.length pc) (N:=.slice np (gt ts k).ns.length nc) (T:=39));obtain ⟨z1,z2,z3⟩:=wD.out k;have HTA:=aa (NX.keep (nY.kept S));have gw:=aa (yj S _ _ (gt ts k) HTA.out z1 z2 z3);have eC:Hid (∀W,Up (wo.alloc (.cells #[.slice pp (gt ts k).ps.length pc,.slice np (gt ts k).ns.length nc] 39)) W->Calls Tryz.prog 108 #[.agg #[.slice pp (gt ts k).ps.length pc,.slice np (gt ts k).ns.length nc],.slice mp amd.length mc] W (FP W (gt ts k) amd)):=fun W hW=>R2 S W _ _ (gt ts k) amd (HTA.out.keep (hW.kept S)) z1 z2 z3 (aj.keep HN.out (((hU.out.trans nY).trans hW).kept S)) hn;have nX:=aa (hU.out.trans nY);(have G3:Hid (o6 ts amd k≠0->nJ amd ts=o6 ts amd k):=fun h0=>by rw [AQ.out];exact eX hlt hd.out h0);have Al:Hid (o6 ts amd k=if aA (gt ts k)≠0 then 1 else if mV (gt ts k) amd then 0 else 9):=rfl;(have xA:Hid (o6 ts amd k=0->∀j,j<k+1->o6 ts amd j=0):=fun h0 j hj=>if e:j=k then by subst e;exact h0 else hd.out j (by omega));have zb:Hid (A9 (gt ts k) amd=(decide (aA (gt ts k)=0)&&mV (gt ts k) amd)):=rfl;clear NX nY hU hd z1 z2 z3;generalize gt ts k=t at *;by_cases g1:aA t=0
     ·have uI:Hid (o6 ts amd k=if mV t amd then 0 else 9):=by unfold Hid;rw [Al.out,if_neg (fun h=>h g1)]
      (have ahY:Hid (A9 t amd=mV t amd):=by unfold Hid;rw [zb.out,decide_eq_true g1];rfl);rw [g1] at gw;clear g1 Al zb;unfold FP at eC;rw [ahY.out] at eC;clear ahY;go_wp2_with fail;generalize wo.alloc (.cells #[.slice pp t.ps.length pc,.slice np t.ns.length nc] 39)=wa at *;refine gw.out.mono ?_;rintro e w2 ⟨rfl,hb2⟩;have aI:Up wa w2:=hb2;have ahZ:=aa (eC.out w2 aI);have PY:=aa (nX.out.trans aI);replace q0:=aI.cell q0;replace q1:=aI.cell q1;clear hb2 aI eC gw;go_wp2_with fail;refine ahZ.out.mono ?_;rintro e w3 ⟨cR,pv,rfl,-⟩;have HUC:=aa (PY.out.trans cR);clear cR ahZ;cases hf:mV t amd
      ·have HE9:Hid (o6 ts amd k=9):=by unfold Hid;rw [uI.out,hf];rfl
       have hst:=BP.out w3 9 HUC.out ((G3.out (by rw [HE9.out];decide)).trans HE9.out) (by decide);obtain ⟨⟨r0,r1,r2,r3⟩,s2,s3,hp⟩:=hst;have HP:=aa hp;clear hp hf uI G3 xA;go_wp2_with fail;exact ⟨rfl,.tuple #[.agg #[.slice none 0 0,.slice none 0 0],.int .i64 9],by simp [results,Tryz.results49,go_sem,s2,s3],HP.out⟩
      ·have nB:=aa (xA.out (by rw [uI.out,hf];rfl))
       clear hf uI G3 xA;go_wp2
       go_roundw
       case rel=>exact ⟨k+1,by omega,by go_num,HUC.out,nB.out⟩
       case measure=>simp [intOf];omega
     ·have d1:(aA t != 0)=true:=by simpa using g1
      (have Ji:Hid (o6 ts amd k=1):=by unfold Hid;rw [Al.out,if_pos g1]);clear zb Al eC xA;go_wp2_with fail;generalize wo.alloc (.cells #[.slice pp t.ps.length pc,.slice np t.ns.length nc] 39)=wa at *;refine gw.out.mono ?_;rintro e w2 ⟨rfl,hb2⟩;have aI:Up wa w2:=hb2;have hst:=BP.out w2 1 (nX.out.trans aI) ((G3.out (by rw [Ji.out];decide)).trans Ji.out) (by decide);obtain ⟨⟨r0,r1,r2,r3⟩,s2,s3,hp⟩:=hst;have HP:=aa hp;generalize aA t=te at *;clear hp hb2 aI gw g1;go_wp2_with fail;exact ⟨rfl,.tuple #[.agg #[.slice none 0 0,.slice none 0 0],.int .i64 1],by simp [results,Tryz.results49,go_sem,s2,s3],HP.out⟩
    ·obtain rfl:k=ts.length:=by omega
     have HZ:Hid (bf (o6 ts amd) ts.length=0):=cG hd.out;have jk:=aa (ad2 HM.out HZ.out);have NG:Hid (nJ amd ts=0):=AQ.out.trans HZ.out;have kZ:=aa hU.out;clear hU hd hlt hk BP AQ HZ;go_wp2
     go_loopw [11,12,13,14,15,48] (fun u _ _ _ _ i wr=>∃k:Nat,k<=ts.length/\i=.int .i64 k/\Hid (CsI w0 amd ts k u wr)) (fun _ _ _ _ _ i _=>ts.length - (intOf i).toNat)
     case atStart=>exact ⟨0,aF _,rfl,kZ.out,[],⟨au.nil _ _ _,by simp,by simp⟩,rfl⟩
     case round =>
      obtain ⟨k,hk,rfl,hI⟩:=hrel;obtain ⟨wo,rfl⟩:=eM wr;obtain ⟨up,un,uc,rfl⟩:=hI.out.shape;by_cases hlt:k<ts.length
      ·obtain ⟨tb,ac1,pp,pc,np,nc,rfl,c0,c1,NX⟩:=oW (HT.out.keep (hI.out.up.kept S)) hlt
       (have i1:(0:Int)<=(k:Int):=by omega);(have i2:(k:Int)<(ts.length:Int):=by omega);have nY:=Up.alloc wo (.cells #[.slice pp (gt ts k).ps.length pc,.slice np (gt ts k).ns.length nc] 39);obtain ⟨q0,q1,-,-⟩:=boxed (iN (w:=wo) (P:=.slice pp (gt ts k).ps.length pc) (N:=.slice np (gt ts k).ns.length nc) (T:=39));obtain ⟨z1,z2,z3⟩:=wD.out k;have rB:=jk.out k hlt;have kJ:=aa (acH S _ _ (.slice mp amd.length mc) (gt ts k) amd (NX.keep (nY.kept S)) (aj.keep HN.out ((hI.out.up.trans nY).kept S)) z1 z2 z3 hn);unfold LC at kJ;rw [oD.2 rB] at kJ;have dG:Hid ((dP (gt ts k) amd).length<=1000000/\∀j,(gl (dP (gt ts k) amd) j).length<=1000000):=⟨aB (vK _ amd) z1,fun j=>aB (zO _ amd j) (by decide)⟩;have nX:=aa nY;have nB:Hid (kP ts amd (k+1)=(kP ts amd k).filter fun s=>decide (s∈dP (gt ts k) amd)):=NN ts amd k;(have o5:Hid (k=0->kP ts amd (k+1)=dP (gt ts k) amd):=fun e=>by subst e;exact RX ts amd);have oZ:Hid ((kP ts amd k).length<=1000000):=aB (vM ts amd k).length_le (aB (vK _ amd) (wD.out 0).1);(have HCR:Hid (∀s∈kP ts amd k,s.length<=1000000):=fun s hs=>by obtain ⟨j,hj,e⟩:=rQ ((vM ts amd k).mem hs);have:=zO (gt ts 0) amd j;rw [show gl (dP (gt ts 0) amd) j=s by simp [gl,hj,e]] at this;omega);clear NX nY z1 z2 z3 rB;generalize gt ts k=t at *;go_wp2_with fail;refine kJ.out.mono ?_;rintro e w2 ⟨aI,lv,rfl,lf,jC,hl2⟩;obtain ⟨lp,lc,rfl,-,-⟩:=aq.open jC;generalize hL:dP t amd=L at *;have hb3:=Up.alloc w2 (.cells #[.slice lp L.length lc] 23);(have gX:(w2.alloc (.cells #[.slice lp L.length lc] 23)).cell? ⟨w2.heap.size,0,none⟩=some (.slice lp L.length lc):=by unfold World.cell?;rw [ng];rfl);have hs3:(w2.alloc (.cells #[.slice lp L.length lc] 23)).heap.size=w2.heap.size+1:=aQ _ _;have Sn:=(nX.out.trans aI).trans hb3;have Eb:=aa Sn;have zm:wo.heap.size<=w2.heap.size:=(nX.out.trans aI).size;have Rh:Hid (∃f,aq (fun b=>wo.heap.size<=b) (w2.alloc (.cells #[.slice lp L.length lc] 23)) (.slice lp L.length lc) L.length f/\∀j,j<L.length->af (uL w2) (w2.alloc (.cells #[.slice lp L.length lc] 23)) (f j) (gl L j)) :=
        ⟨lf,(jC.keep (hb3.kept _)).sub fun b hb _=>aB nX.out.size hb,fun j hj=>(hl2 j hj).keep (hb3.kept _)⟩
       by_cases k0:k=0
       ·have d1:((k:Int)==0)=true:=by simp [k0]
        (have JQ:Hid (aT (fun b=>b<(w2.alloc (.cells #[.slice lp L.length lc] 23)).heap.size) (w2.alloc (.cells #[.slice lp L.length lc] 23)) (.slice lp L.length lc) L):=by obtain ⟨f,h1,h2⟩:=Rh.out;exact ⟨f,h1.sub fun b _ hl=>hl,fun j hj=>(h2 j hj).sub fun b _ hl=>hl⟩);have ac2:=aa (Fx _ _ _ L JQ.out dG.out.1);unfold UG at ac2;have eW:=aa (hI.out.up.trans Sn);have gA:=aa (o5.out k0);clear hb3 Sn jC hl2 aI kJ Rh JQ o5 nB k0 hI;go_wp2_with fail;generalize w2.alloc (.cells #[.slice lp L.length lc] 23)=w3 at *;refine ac2.out.mono ?_;rintro e w4 ⟨gU,cv,vals,rfl,hvl,hco,KE⟩;(have HNI:Hid (CsI w0 amd ts (k+1) cv w4):=by obtain ⟨ps,hrw,hpe,_⟩:=Zr hco hvl KE (ah _);exact ⟨eW.out.trans gU,ps,⟨hrw.own.tK eW.out.size,hrw.shape,hrw.row⟩,by rw [if_neg (by omega),gA.out];exact hpe⟩);obtain ⟨xp,xn,xc,rfl⟩:=HNI.out.shape;clear gU hvl hco KE ac2;go_wp2
        go_roundw
        case rel=>exact ⟨k+1,by omega,by go_num,HNI.out⟩
        case measure=>simp [intOf];omega
       ·have d1:((k:Int)==0)=false:=beq_eq_false_iff_ne.2 (by omega)
        obtain ⟨ps,hrw,hpe⟩:=hI.out.ex;rw [if_neg k0] at hpe;(have hpl:ps.length<=1000000:=by rw [<- aD (f:=fun x:List Int×Value=>x.1),hpe];exact oZ.out);have hw3:=hrw.ahX Sn;have hlt2:∀b,(Value.slice up un uc).ownBlock=some b->b<w2.heap.size/\b<wo.heap.size/\¬uL w2 b:=fun b hb=>by
         have h1:=(av hrw.own hb).2;refine ⟨by omega,h1,fun ⟨c,z,hc⟩=>?_⟩;have h2:=bH (nX.out.trans aI) b h1;obtain ⟨_,⟨h3,_⟩ | ⟨g,cap,cur,h3,_,h4,_⟩⟩:=hrw.own
         ·rw [h3] at hb;cases hb
         ·rw [h3] at hb
          injection hb with hb;subst hb;rw [h2,h4] at hc;injection hc with hc;injection hc with _ hc;exact absurd hc (by decide)
        have hrows:aT (fun b=>(Value.slice up un uc).ownBlock≠some b) (w2.alloc (.cells #[.slice lp L.length lc] 23)) (.slice lp L.length lc) L:=by obtain ⟨f,h1,h2⟩:=Rh.out;exact ⟨f,h1.sub fun b hb _ e=>by have:=(hlt2 b e).2.1;omega,fun j hj=>(h2 j hj).sub fun b hb _ e=>(hlt2 b e).2.2 hb⟩
        have ah0:=aa (Sm 110 #[.pointer (some ⟨w2.heap.size,0,none⟩)] (enters_of Tryz.func110 (by kernel_rfl) rfl) (fun s=>!decide (s∈L)) hw3 hpl fun p hp W hW=>by
         refine afl (fun b=>(Value.slice up un uc).ownBlock≠some b) (fun b=>(Value.slice up un uc).ownBlock≠some b) W w2.heap.size p.2 (.slice lp L.length lc) p.1 L ?_ (hrows.keep fun b hb hl=>hW.block b hl fun e=>hb e.symm) (af.keep (hw3.row p hp) fun b hb hl=>hW.block b hl fun e=>hb e.symm) (HCR.out _ ?_) dG.out.1 dG.out.2
         ·unfold World.cell? at gX ⊢
          rw [hW.block w2.heap.size (by omega) fun e=>by have:=(hlt2 _ e.symm).1;omega];exact gX
         ·rw [<- hpe];exact bI.2 ⟨p,hp,rfl⟩)
        (have CB:Hid (∀w4 v' ps',(w2.alloc (.cells #[.slice lp L.length lc] 23)).grownBy w4 (Value.slice up un uc).ownBlock->ps'.map (·.1)=(ps.map (·.1)).filter (fun s=>!!decide (s∈L))->sk w0.heap.size w4 v' ps'->CsI w0 amd ts (k+1) v' w4):=fun w4 v' ps' hg hp hr=>by refine ⟨iz (hI.out.up.trans Sn) (au.fF hw3.own hg (hI.out.up.trans Sn).size),ps',hr,?_⟩;rw [if_neg (by omega),nB.out,hp,hpe];simp);clear hb3 Sn jC hl2 aI kJ Rh o5 nB k0 hI hrw hpe hpl hw3 hlt2 hrows;go_wp2_with fail;generalize w2.alloc (.cells #[.slice lp L.length lc] 23)=w3 at *;refine ah0.out.mono ?_;rintro e w4 ⟨hg,v',ps',rfl,hp,hr,-⟩;have HNI:=aa (CB.out w4 v' ps' hg hp hr);obtain ⟨xp,xn,xc,rfl⟩:=HNI.out.shape;clear hg hp hr ah0 CB;go_wp2
        go_roundw
        case rel=>exact ⟨k+1,by omega,by go_num,HNI.out⟩
        case measure=>simp [intOf];omega
      ·obtain rfl:k=ts.length:=by omega
       obtain ⟨ps,hrw,hpe⟩:=hI.out.ex;rw [if_neg (by have:=zg.out;omega)] at hpe;have hrows:=hrw.rows;rw [hpe] at hrows
       have lQ:=aa (ae3 Any wo (.slice mp amd.length mc) (.slice up un uc) amd (rI ts amd) ((aj.keep HN.out (hI.out.up.kept S)).sub fun _ _ _=>trivial) hrows hn HBZ.out (aB (vM ts amd ts.length).length_le (aB (vK _ amd) (wD.out 0).1)) fun j=>by
        by_cases hj:j<(rI ts amd).length
        ·obtain ⟨i,hi,e⟩:=rQ ((vM ts amd ts.length).mem (lI hj))
         have:=zO (gt ts 0) amd i;rw [show gl (dP (gt ts 0) amd) i=gl (rI ts amd) j by rw [<- e];simp [gl,hi]] at this;omega
        ·simp [gl,show (rI ts amd).length<=j by omega])
       have Sq:=aa hI.out.up;clear hI hrw hpe hrows hlt hk;go_wp2_with fail;refine lQ.out.mono ?_;rintro e w5 ⟨gJ,tv,rfl,P5,N5,rfl,FQ,FR⟩;obtain ⟨p5,c5,rfl,-,-⟩:=aq.open FQ;obtain ⟨n5,d5,rfl,-,-⟩:=aq.open FR;have BD:=gY.out w5 (Sq.out.trans gJ);obtain ⟨r0,r1,r2,r3⟩:=boxed BD;have iy:=aa (aae (amd:=amd) (ts:=ts) (T:=jN amd (rI ts amd)) (c:=eR amd (rI ts amd)) (Ef.out.trans (Sq.out.trans gJ)) BD ⟨_,_,rfl,FQ,FR⟩ (by unfold RY;rw [if_neg fun h=>h NG.out]) (by unfold Kz;rw [if_neg fun h=>h NG.out]));clear BD gJ FQ FR lQ;generalize eR amd (rI ts amd)=be at *;generalize jN amd (rI ts amd)=T at *;go_wp2_with fail;obtain ⟨s2,s3,hp⟩:=iy.out;exact ⟨rfl,.tuple #[.agg #[.slice p5 T.ps.length c5,.slice n5 T.ns.length d5],.int .i64 be],by simp [results,Tryz.results49,go_sem,s2,s3],hp⟩
 ·have d1:(eL amd != 0)=true:=by simpa using e1
  have hst:=BP.out w1 (eL amd) bK (by rw [Ec.out,if_pos e1]) e1;obtain ⟨⟨q0,q1,q2,q3⟩,s2,s3,hp⟩:=hst;have HP:=aa hp;generalize eL amd=ne at d1 s2 s3 HP ⊢;clear hp bK e1 jD Ec ij;go_wp2_with fail;exact ⟨rfl,.tuple #[.agg #[.slice none 0 0,.slice none 0 0],.int .i64 ne],by simp [results,Tryz.results49,go_sem,s2,s3],HP.out⟩
end
end Go.Proofs.YthgabkgmkolobaaGreat
