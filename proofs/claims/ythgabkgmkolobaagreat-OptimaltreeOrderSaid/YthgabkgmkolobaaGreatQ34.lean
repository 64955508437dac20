/- optimaltree: Count, leaf, checkNames, check. optimaltree.places. The contracts of the .. -/
import Derived.Deep.RegionWith
import Derived.Shelf.Bits.Mul64
import Derived.Laws.CopyOwn
import Derived.Deep.RegionLaw
import Derived.RegionTactic
import Derived.Test.YthgabkgmkolobaaGreatQ33
set_option maxRecDepth 100000
set_option maxHeartbeats 4000000
namespace Go.Proofs.YthgabkgmkolobaaGreat
section
open Go.RowKit Go.Deep
def qd:Nat->Int
 | 0=>1
 | m+1=>qd m*(2*(m:Int)+3)
def Mq (n:Int):Int:=if n<2\/7<n then 2 else 0
def Mr (n:Int):Int:=if n<2\/7<n then 0 else qd (n - 3).toNat
theorem O1 (n:Int) (hn:-9223372036854775808<=n/\n<=9223372036854775807) (w:World):Calls Tryz.prog 28 #[.int .i64 n] w fun e w'=>e=.returned (.tuple #[.int .i64 (Mr n),.int .i64 (Mq n)])/\w=w':=by
 have HC:Hid (Mq n=if n<2\/7<n then 2 else 0):=rfl;have HR:Hid (Mr n=if n<2\/7<n then 0 else qd (n - 3).toNat):=rfl;by_cases h1:n<2
 ·go_enter Tryz.func28,Tryz.ntmps28
  go_wp2_with fail;go_ret2;rw [HC.out,HR.out,if_pos (.inl h1),if_pos (.inl h1)];exact ⟨rfl,rfl⟩
 by_cases h2:7<n
 ·go_enter Tryz.func28,Tryz.ntmps28
  go_wp2_with fail;go_ret2;rw [HC.out,HR.out,if_pos (.inr h2),if_pos (.inr h2)];exact ⟨rfl,rfl⟩
 obtain ⟨k,rfl⟩:∃k:Nat,n=k:=⟨n.toNat,by omega⟩;have HF:Hid (Mq (k:Int)=0/\Mr (k:Int)=qd (k - 3)):=by unfold Hid;rw [HC.out,HR.out,if_neg (by omega),if_neg (by omega),show ((k:Int) - 3).toNat=k - 3 by omega];exact ⟨rfl,rfl⟩
 clear HC HR hn;have hk:k=2\/k=3\/k=4\/k=5\/k=6\/k=7:=by omega
 have e0:=HF.out.1;have e1:=HF.out.2;rw [e0,e1];clear HF e0 e1
 go_enter Tryz.func28,Tryz.ntmps28
 go_wp2_with fail
 go_loop [4,5] (fun o i=>∃m:Nat,m<=k - 3/\i=.int .i64 (2*(m:Int)+3)/\o=.int .i64 (qd m)) (fun _ i=>20 - (intOf i).toNat)
 case atStart=>exact ⟨0,aI _,rfl,rfl⟩
 case round =>
  obtain ⟨m,hm,rfl,rfl⟩:=hrel;have hm4:m<=4:=by omega
  by_cases hlt:m<k - 3
  ·have hb:qd (m+1)=qd m*(2*(m:Int)+3)/\1<=qd m/\qd m<=105/\1<=qd (m+1)/\qd (m+1)<=945:=by
    have:m=0\/m=1\/m=2\/m=3:=by omega
    rcases this with rfl | rfl | rfl | rfl<;>refine ⟨rfl,by decide,by decide,by decide,by decide⟩
   obtain ⟨b0,b1,b2,b3,b4⟩:=hb
   have hc:2*(m:Int)+3<=2*(k:Int) - 5:=by omega
   generalize hcm:qd (m+1)=c' at *
   generalize qd m=c at *
   go_wp2_with fail
   go_round
   case rel=>exact ⟨m+1,hlt,by go_num,by rw [hcm,b0]⟩
   case measure=>simp [intOf];omega
  ·obtain rfl:m=k - 3:=by omega
   (have hc:¬2*((k - 3:Nat):Int)+3<=2*(k:Int) - 5:=by omega);go_wp2_with fail;go_ret2;exact ⟨rfl,rfl⟩
theorem RL (w:World) (s:ByteArray) (hz:s.size<=70000) :
  Calls Tryz.prog 139 #[.string s] w fun e w'=>e=.returned (.bool (bu s.data.toList))/\Up w w':=by
 have hu:=(Up.alloc w (.cells #[.int .i64 (-1)] 3)).trans (Up.alloc _ (.cells #[.string s] 9));have HU:=aa hu
 have HC:=aa (vq Any _ _ (kT s) (XB w s) (by simp [kT]) (by simp [kT]) (fun k=>by
  unfold kT gs;cases k<;>simp;exact hz))
 have HX:=aa (Uo s);clear hu
 go_enter Tryz.func139,Tryz.ntmps139
 go_wp2_with fail;generalize (w.alloc (.cells #[.int .i64 (-1)] 3)).alloc (.cells #[.string s] 9)=w1 at *;refine HC.out.mono ?_;rintro e w2 ⟨rfl,hb⟩;have bY:=aa (HU.out.trans (show Up w1 w2 from hb));clear hb HC HU;go_wp2_with fail;go_ret;exact ⟨bA HX.out,bY.out⟩
theorem Du (S:Nat->Prop) (w:World) (v:Value) (acw:List ByteArray) (h:av S w v acw) (hn:acw.length<=1000000) (hz:∀k,(gs acw k).size<=70000) :
  Calls Tryz.prog 89 #[v] w fun e w'=>e=.returned (.int .i64 (dK acw))/\Up w w':=by
 obtain ⟨p,cap,rfl,hcap,_⟩:=aA.open h;have h:av S w (.slice p acw.length cap) acw:=h;have HC:Hid (dK acw=if acw.length<2\/7<acw.length then 4 else dF (eE acw) acw.length):=rfl;have HN:=aa h;have HZ:=aa hz;clear h hz;by_cases h1:acw.length<2
 ·go_enter Tryz.func89,Tryz.ntmps89
  go_wp2_with fail;go_ret;exact ⟨aN (by rw [HC.out,if_pos (.inl h1)]),Up.refl _⟩
 by_cases h2:7<acw.length
 ·go_enter Tryz.func89,Tryz.ntmps89
  go_wp2_with fail;go_ret;exact ⟨aN (by rw [HC.out,if_pos (.inr h2)]),Up.refl _⟩
 have HF:Hid (dK acw=dF (eE acw) acw.length):=by unfold Hid;rw [HC.out,if_neg (by omega)]
 clear HC;have CA:Hid (∀k,k<acw.length->(∀j,j<k->eE acw j=0)->eE acw k≠0->dK acw=eE acw k):=fun k hk hj h0=>by rw [HF.out,gA hk hj h0]
 go_enter Tryz.func89,Tryz.ntmps89
 go_wp2_with fail
 go_loopw [3,4,15] (fun _ _ i wr=>∃k:Nat,k<=acw.length/\i=.int .i64 k/\Hid (Up w wr/\∀j,j<k->eE acw j=0)) (fun _ _ i _=>acw.length - (intOf i).toNat)
 case atStart=>exact ⟨0,aI _,rfl,Up.refl _,fun j hj=>absurd hj (bS _)⟩
 case round =>
  obtain ⟨k,hk,rfl,hd⟩:=hrel;obtain ⟨wo,rfl⟩:∃wo:World,wo=wr:=⟨_,rfl⟩;by_cases hlt:k<acw.length
  ·have IA:=av.keep HN.out (hd.out.1.kept S)
   obtain ⟨Tj,no,rfl,hc⟩:=cA IA hlt;have jY:=aa (RL wo (gs acw k) (HZ.out k));have Ku:Hid (∀W,Up wo W->Calls Tryz.prog 32 #[.slice (some ⟨Tj,no,none⟩) k cap,.string (gs acw k)] W fun e w'=>e=.returned (.bool (dW acw k))/\W=w'):=fun W hW=>by
    have h:=iI S W _ k (fun j=>gs acw j) (gs acw k) (Ez (av.keep IA (hW.kept S)) hk) (by omega)
    rwa [RJ] at h
   have IB:=aa (CA.out k hlt hd.out.2);have IC:Hid (eE acw k=if bu (gs acw k).data.toList then (if dW acw k then 7 else 0) else 14):=rfl;generalize gs acw k=nm at *;generalize dW acw k=bs at *;generalize bu nm.data.toList=bn at *;clear IA;cases bn
   ·have HE:Hid (eE acw k=14):=IC.out
    go_wp2_with fail;refine jY.out.mono ?_;rintro e w1 ⟨rfl,bw⟩;have b9:=aa (hd.out.1.trans bw);clear bw;go_wp2_with fail;go_ret;exact ⟨aN ((IB.out (by rw [HE.out];decide)).trans HE.out).symm,b9.out⟩
   ·cases bs
    ·have HE:Hid (eE acw k=0):=IC.out
     go_wp2_with fail;refine jY.out.mono ?_;rintro e w1 ⟨rfl,bw⟩;have b9:=aa (hd.out.1.trans bw);have Bp:=aa (Ku.out w1 bw);clear bw;go_wp2_with (go_at_call 32;refine Bp.out.mono ?_;rintro e w' ⟨rfl,rfl⟩)
     go_roundw
     case rel=>exact ⟨k+1,by omega,by go_num,b9.out,fun j hj=>if e:j=k then by subst e;exact HE.out else hd.out.2 j (by omega)⟩
     case measure=>simp [intOf];omega
    ·have HE:Hid (eE acw k=7):=IC.out
     go_wp2_with fail;refine jY.out.mono ?_;rintro e w1 ⟨rfl,bw⟩;have b9:=aa (hd.out.1.trans bw);have Bp:=aa (Ku.out w1 bw);clear bw;go_wp2_with (go_at_call 32;refine Bp.out.mono ?_;rintro e w' ⟨rfl,rfl⟩);go_ret;exact ⟨aN ((IB.out (by rw [HE.out];decide)).trans HE.out).symm,b9.out⟩
  ·obtain rfl:k=acw.length:=by omega
   (have rC:Hid (dK acw=0):=by unfold Hid;rw [HF.out,ey hd.out.2]);go_wp2_with fail;go_ret;exact ⟨aN rC.out.symm,hd.out.1⟩
theorem O2 (S:Nat->Prop) (w:World) (v vs:Value) (acw:List ByteArray) (acy:List (List Int)) (h:av S w v acw) (hn:acw.length<=1000000) (hz:∀k,(gs acw k).size<=70000) (hS:bh S w vs acy) (vu:acy.length<=1000000) (hr:∀k,(gl acy k).length<=1000000) :
  Calls Tryz.prog 67 #[v,vs] w fun e w'=>e=.returned (.int .i64 (iY acw acy))/\Up w w':=by
 have HC:Hid (iY acw acy=if dK acw≠0 then dK acw else if cB acy≠0 then 1 else if acy.length≠acw.length then 9 else 0):=rfl;have jY:=aa (Du S w v acw h hn hz);obtain ⟨p,cap,rfl,hcap,_⟩:=aA.open h;obtain ⟨q,d,rfl,hd,_⟩:=gM hS;have vW:Hid (∀W,Up w W->Calls Tryz.prog 70 #[.slice q acy.length d] W fun e w'=>e=.returned (.int .i64 (cB acy))/\W=w'):=fun W hW=>DZ S W _ acy (bh.keep hS (hW.kept S)) vu hr;clear h hS hz hr
 go_enter Tryz.func67,Tryz.ntmps67
 go_wp2_with fail;refine jY.out.mono ?_;rintro e w1 ⟨rfl,bw⟩;have b9:=aa bw;have aaP:=aa (vW.out w1 bw);clear bw;by_cases c1:dK acw=0
 ·have Ig:Hid (iY acw acy=if cB acy≠0 then 1 else if acy.length≠acw.length then 9 else 0):=by unfold Hid;rw [HC.out,if_neg (by omega)]
  rw [c1];clear HC c1 jY vW;go_wp2_with fail;refine aaP.out.mono ?_;rintro e w' ⟨rfl,rfl⟩;generalize cB acy=a at *;by_cases c2:a=0
  ·subst c2
   by_cases c3:acy.length=acw.length
   ·have d3:(acy.length:Int)=(acw.length:Int):=by omega
    go_wp2_with fail;go_ret;exact ⟨aN (by rw [Ig.out,if_neg (by omega),if_neg (by omega)]),b9.out⟩
   ·have d3:¬(acy.length:Int)=(acw.length:Int):=by omega
    go_wp2_with fail;go_ret;exact ⟨aN (by rw [Ig.out,if_neg (by omega),if_pos c3]),b9.out⟩
  ·go_wp2_with fail
   go_ret;exact ⟨aN (by rw [Ig.out,if_pos c2]),b9.out⟩
 ·generalize dK acw=a at *
  go_wp2_with fail;go_ret;exact ⟨aN (by rw [HC.out,if_pos c1]),b9.out⟩
def uC (t:aF) (acw:List ByteArray) (n:Nat):List Int:=(List.range n).map fun j=>iW acw (gs t.ns (gi (az t.ns) j).toNat)
theorem vX (t:aF) (acw:List ByteArray) (n:Nat):(uC t acw n).length=n:=by simp [uC]
theorem RM (t:aF) (acw:List ByteArray) (n:Nat):uC t acw (n+1)=uC t acw n++[iW acw (gs t.ns (gi (az t.ns) n).toNat)]:=by simp [uC,List.range_succ]
theorem O3 {t:aF} {acw:List ByteArray} {n j:Nat} (h:j<n):gi (uC t acw n) j=iW acw (gs t.ns (gi (az t.ns) j).toNat):=by simp [uC,gi,h]
def xU (t:aF) (acw:List ByteArray):Bool:=decide (aB t=0)&&ri t acw
def ID (w:World) (t:aF) (acw:List ByteArray) (e:Ending) (w':World):Prop :=
 Up w w'/\∃v,e=.returned (.tuple #[v,.bool (xU t acw)])/\(xU t acw=true->ay (fun b=>w.heap.size<=b) w' v (uC t acw (az t.ns).length))
theorem Ms {w W:World} {t:aF} {acw:List ByteArray} {v:Value} (h:xU t acw=false) (hu:Up w W):ID w t acw (.returned (.tuple #[v,.bool false])) W :=
 ⟨hu,v,by rw [h],fun e=>by rw [h] at e;cases e⟩
theorem RN (S:Nat->Prop) (w:World) (v vn:Value) (t:aF) (acw:List ByteArray) (hT:aC S w v t) (hp:t.ps.length<=1000000) (hn:t.ns.length<=1000000) (hz:∀k,(gs t.ns k).size<=70000) (h:av S w vn acw) (hnn:acw.length<=1000000) :
  Calls Tryz.prog 108 #[v,vn] w (ID w t acw):=by
 obtain ⟨P,N,rfl,hP,hN⟩:=hT;obtain ⟨np,nc,rfl,abO,-⟩:=aA.open hN;have hN:av S w (.slice np t.ns.length nc) t.ns:=hN;obtain ⟨pp,pc,rfl,abP,-⟩:=aA.open hP;have hP:ay S w (.slice pp t.ps.length pc) t.ps:=hP;obtain ⟨mp,mc,rfl,abQ,-⟩:=aA.open h;have h:av S w (.slice mp acw.length mc) acw:=h;have bw:Up w (w.alloc (.cells #[.slice pp t.ps.length pc,.slice np t.ns.length nc] 39)):=Up.alloc _ _;have hrb:=jv (w:=w) (P:=.slice pp t.ps.length pc) (N:=.slice np t.ns.length nc) (T:=39)
 have hsz:w.heap.size<(w.alloc (.cells #[.slice pp t.ps.length pc,.slice np t.ns.length nc] 39)).heap.size:=by simp
 obtain ⟨q0,q1,-,-⟩:=boxed hrb;have IE:=aa (AP S (w.alloc (.cells #[.slice pp t.ps.length pc,.slice np t.ns.length nc] 39)) (.agg #[.slice pp t.ps.length pc,.slice np t.ns.length nc]) t ⟨_,_,rfl,ay.keep hP (bw.kept S),av.keep hN (bw.kept S)⟩ hp hn hz);have HN:=aa (av.keep hN (bw.kept S));have HM:=aa (av.keep h (bw.kept S));have b9:=aa bw;have dm:=aa hsz;have HB:Hid (xU t acw=(decide (aB t=0)&&(decide ((az t.ns).length=acw.length)&&!Dl t acw))):=rfl
 have fQ:Hid (∀n,n<(az t.ns).length->∃k:Nat,gi (az t.ns) n=k/\k<t.ns.length):=fun n hn=>by obtain ⟨k,h1,h2,_⟩:=wM hn;exact ⟨k,h1,h2⟩
 have fN:Hid ((az t.ns).length<=1000000):=aR (uP _) hn;have HOF:Hid (∀n,n<(az t.ns).length->iW acw (gs t.ns (gi (az t.ns) n).toNat)<0->Dl t acw=true):=fun n hn h0=>eF.2 ⟨n,cU.2 hn,decide_eq_true h0⟩;have HON:Hid ((∀n,n<(az t.ns).length->¬iW acw (gs t.ns (gi (az t.ns) n).toNat)<0)->Dl t acw=false):=fun hh=>any_none fun j hj=>decide_eq_false (hh j hj);clear hP hN h bw hrb hsz hz
 go_enter Tryz.func108,Tryz.ntmps108
 go_wp2_with fail;generalize w.alloc (.cells #[.slice pp t.ps.length pc,.slice np t.ns.length nc] 39)=w1 at *;refine IE.out.mono ?_;rintro e w2 ⟨hb,⟨h1,rfl⟩ | ⟨h1,lv,rfl,hlv⟩⟩
 ·have iZ:Hid (xU t acw=false):=by unfold Hid;rw [HB.out,decide_eq_false h1];rfl
  have bY:=aa (b9.out.trans (show Up w1 w2 from hb));have CB:=aa (Ms (v:=.slice none 0 0) iZ.out bY.out);clear hb h1 IE;go_wp2_with fail;go_ret2;exact CB.out
 obtain ⟨lp,lc,rfl,-,-⟩:=aA.open hlv;replace hlv:ay (fun b=>w1.heap.size<=b) w2 (.slice lp (az t.ns).length lc) (az t.ns):=hlv;have aJ:Up w1 w2:=hb;have bY:=aa (b9.out.trans aJ);have mN:Hid (xU t acw=(decide ((az t.ns).length=acw.length)&&!Dl t acw)):=by unfold Hid;rw [HB.out,decide_eq_true h1];rfl
 by_cases hl:(az t.ns).length=acw.length
 ·have aaQ:=aa hlv
  have Ho:=aa (av.keep HN.out (aJ.kept _));have Kt:=aa (av.keep HM.out (aJ.kept _));have AD:Hid (xU t acw=!Dl t acw):=by unfold Hid;rw [mN.out,decide_eq_true hl];rfl
  have HQ:=aa (And.intro (aJ.cell q0) (aJ.cell q1));have d1:(((az t.ns).length:Int) != (acw.length:Int))=false:=by simp [hl]
  have HL:=aa hl;clear hb h1 hlv aJ IE q0 q1 b9 HB mN hl;go_wp2_with fail;have vw:Hid (w.heap.size<=w2.heap.size):=bY.out.size;clear d1
  go_loopw [8,10,11,28] (fun a _ _ i wr=>∃k:Nat,k<=(az t.ns).length/\i=.int .i64 k/\Hid (ax w2.heap.size 3 wr a ((uC t acw k).map (Value.int .i64))/\Up w2 wr/\∀n,n<k->¬iW acw (gs t.ns (gi (az t.ns) n).toNat)<0)) (fun _ _ _ i _=>(az t.ns).length - (intOf i).toNat)
  case atStart=>exact ⟨0,aI _,rfl,ax.nil _ _ _,Up.refl _,fun n hn=>absurd hn (bS _)⟩
  case round =>
   obtain ⟨k,hk,rfl,hI⟩:=hrel;obtain ⟨wo,rfl⟩:∃wo:World,wo=wr:=⟨_,rfl⟩;obtain ⟨hA,gu,hd⟩:=hI.out;by_cases hlt:k<(az t.ns).length
   ·obtain ⟨xb,xo,rfl,sA⟩:=gp (ay.keep aaQ.out (gu.kept _)) hlt
    obtain ⟨x,hx1,hx2⟩:=fQ.out k hlt;obtain ⟨nb,no,rfl,eY⟩:=cA (av.keep Ho.out (gu.kept _)) hx2;have DT:Hid (Calls Tryz.prog 95 #[.slice mp acw.length mc,.string (gs t.ns x)] wo fun e w'=>e=.returned (.int .i64 (iW acw (gs t.ns x)))/\wo=w'):=Ac _ wo _ acw.length (fun j=>gs acw j) (gs t.ns x) (av.keep Kt.out (gu.kept _)) hnn;have lK:Hid ((uC t acw (k+1)).map (Value.int .i64)=(uC t acw k).map (Value.int .i64)++[.int .i64 (iW acw (gs t.ns x))]):=by unfold Hid;rw [RM,cm,hx1,jd];rfl
    (have iu:Hid (((uC t acw k).map (Value.int .i64)).length=k):=by unfold Hid;rw [aD,vX]);have RO:=aa (HOF.out k hlt);have q0:=gu.cell HQ.out.1;have q1:=gu.cell HQ.out.2;rw [hx1] at sA;have lM:=aa hx1;have HA:=aa hA;have Tk:=aa gu;have HD:=aa hd;(have i1:(0:Int)<=(k:Int):=by omega);(have i2:(k:Int)<((az t.ns).length:Int):=by omega);(have i3:(k:Int)<1000000:=by have:=fN.out;omega);(have i4:(0:Int)<=(x:Int):=by omega);(have i5:(x:Int)<(t.ns.length:Int):=by omega);have hsz:=gu.size;clear hI hA gu hd hx1;by_cases hf:iW acw (gs t.ns x)<0
    ·have iZ:Hid (xU t acw=false):=by unfold Hid;rw [AD.out,RO.out (by rw [lM.out,jd];exact hf)];rfl
     have CB:=aa (Ms (v:=.slice none 0 0) iZ.out (bY.out.trans Tk.out));generalize iW acw (gs t.ns x)=fx at *;generalize gs t.ns x=nm at *;clear lK RO lM;go_wp2_with fail;refine DT.out.mono ?_;rintro e w' ⟨rfl,rfl⟩;go_wp2_with fail;go_ret2;exact CB.out
    ·have HF:=aa hf
     (have HFG:Hid (iW acw (gs t.ns (gi (az t.ns) k).toNat)=iW acw (gs t.ns x)):=by unfold Hid;rw [lM.out,jd]);generalize iW acw (gs t.ns x)=fx at *;generalize gs t.ns x=nm at *;have h9:(0:Int)<=fx:=Int.not_lt.1 hf;obtain ⟨y,rfl⟩:∃y:Nat,fx=y:=⟨fx.toNat,by omega⟩;clear RO lM hf h9;obtain ⟨ap,ac,rfl,-⟩:=HA.out.form iu.out;(have d9:decide ((y:Int)<0)=false:=by simp);go_wp2_with fail;refine DT.out.mono ?_;rintro e w' ⟨rfl,rfl⟩
     go_wp2_with (at_builtin;refine uS wo rfl _ _ 26 rfl w2.heap.size 3 _ 8 Tryz.underlying26 Tryz.mA rfl (by decide) HA.out rfl _ rfl rfl k iu.out (by omega) hsz ?_;intro g cap w8 hown1 hg1 oK);(have y8:Hid (ax w2.heap.size 3 w8 (.slice (some ⟨g,0,none⟩) (k+1) cap) ((uC t acw (k+1)).map (Value.int .i64))):=by unfold Hid;rw [lK.out];exact hown1);have nj:Hid (Up w2 w8):=fc Tk.out oK;clear hown1 hg1 oK
     go_roundw
     case rel=>exact ⟨k+1,by omega,by go_num,y8.out,nj.out,fun n hn=>if e:n=k then by subst e;rw [HFG.out];exact Int.not_lt.2 HF.out else Int.not_lt.2 (HD.out n (by omega))⟩
     case measure=>simp [intOf];omega
   ·obtain rfl:k=(az t.ns).length:=by omega
    (have iZ:Hid (xU t acw=true):=by unfold Hid;rw [AD.out,HON.out fun n hn=>Int.not_lt.1 (hd n hn)];rfl);obtain ⟨ap,ac,rfl,-⟩:=hA.form (n:=(az t.ns).length) (by rw [aD,vX]);have hi:=hA.ints;have rF:Hid (ID w t acw (.returned (.tuple #[.slice ap (az t.ns).length ac,.bool true])) wo):=⟨bY.out.trans gu,_,by rw [iZ.out],fun _=>hi.sub fun b hb _=>aR vw.out hb⟩;clear hI hA gu hd hi;go_wp2_with fail;go_ret2;exact rF.out
 ·have iZ:Hid (xU t acw=false):=by unfold Hid;rw [mN.out,decide_eq_false hl];rfl
  have d1:¬((az t.ns).length:Int)=(acw.length:Int):=by omega
  have CB:=aa (Ms (v:=.slice none 0 0) iZ.out bY.out);clear hb h1 IE;go_wp2_with fail;go_ret2;exact CB.out
def KQ (w:World) (t:aF) (st:List Int) (cs:List (List Int)) (e:Ending) (w':World):Prop :=
 ∃tb XC XD rq rc,e=.returned (.slice (some ⟨tb,XC,none⟩) t.ps.length XD)/\w'.cell? ⟨tb,XC,none⟩=some (.slice rq cs.length rc)/\ay Any w' (.slice rq cs.length rc) (aW t st cs 0)/\Up w w'
theorem tb1 {w w':World} {t:aF} {st:List Int} {cs:List (List Int)} {e:Ending} (hv:Valid t st cs) (h:BX w (oF t st cs) e w'):KQ w t st cs e w':=by
 obtain ⟨hb,v,rfl,hr⟩:=h;have hp:=(aM hv.tree).1;obtain ⟨p,cap,rfl,_,H⟩:=gM hr;obtain ⟨b,off,q,c,rfl,hc,hi⟩:=H 0 (by rw [FZ];exact hp);rw [TU _ _ _ hp] at hc hi;rw [gD] at hc hi;rw [FZ];exact ⟨b,off,cap,q,c,rfl,by rw [nA] at hc;exact hc,hi,hb⟩
end
end Go.Proofs.YthgabkgmkolobaaGreat
namespace Go.Proofs
open Go.Shelf
def Tryz.lays212_ren:Go.Shelf.Ren:=⟨fun | 212=>269 | 263=>279 | 264=>280 | n=>n,fun | 46=>154 | 51=>191 | 53=>193 | 146=>275 | 148=>277 | n=>n,fun | n=>n⟩
theorem Tryz.lays212:Go.Proofs.Lays.n212 Tryz.prog Tryz.lays212_ren:={
 mixed:=by kernel_rfl
 f212:=Tryz.func269.trans (congrArg some (by kernel_rfl))
 f263:=Tryz.func279.trans (congrArg some (by kernel_rfl))
 f264:=Tryz.func280.trans (congrArg some (by kernel_rfl))
 t46:=Tryz.underlying154
 a46:=Tryz.isAgg154
 z46:=Tryz.sizeOf154
 v46:=Tryz.zeroValue154
 t51:=Tryz.underlying191
 a51:=Tryz.isAgg191
 z51:=Tryz.sizeOf191
 v51:=Tryz.zeroValue191
 t53:=Tryz.underlying193
 a53:=Tryz.isAgg193
 z53:=Tryz.sizeOf193
 v53:=Tryz.zeroValue193
 t146:=Tryz.underlying275
 a146:=Tryz.isAgg275
 z146:=Tryz.sizeOf275
 v146:=Tryz.zeroValue275
 t148:=Tryz.underlying277
 a148:=Tryz.isAgg277
 z148:=Tryz.sizeOf277
 v148:=Tryz.zeroValue277 }
theorem Tryz.bits_Mul (x y:Nat) (hx:x<18446744073709551616) (hy:y<18446744073709551616) (w:World) :
  Calls Tryz.prog 269 #[.int .u64 x,.int .u64 y] w fun e w'=>e=.returned (.tuple #[.int .u64 ((x*y / 18446744073709551616:Nat):Int),.int .u64 ((x*y % 18446744073709551616:Nat):Int)])/\w'=w:=Any.bits_Mul Tryz.lays212 x y hx hy w
end Go.Proofs
namespace Go.Proofs.YthgabkgmkolobaaGreat
open Go.RowKit Go.Deep
theorem mul_one (N:Nat) (hN:N<=1000) (w:World):Calls Tryz.prog 269 #[.int .u64 1,.int .u64 N] w fun e w'=>e=.returned (.tuple #[.int .u64 0,.int .u64 N])/\w=w':=by
 have h:=Tryz.bits_Mul 1 N (by decide) (by omega) w;rw [Nat.one_mul,Nat.div_eq_of_lt (by omega),Nat.mod_eq_of_lt (by omega)] at h;exact h.mono fun _ _ ⟨a,b⟩=>⟨a,b.symm⟩
def Mt (n i:Nat):Value:=if i<n then .int .i64 1 else .int .i64 0
def fA (N n:Nat):List Value:=(List.range N).map (Mt n)
theorem qO (N n:Nat):(fA N n).length=N:=by simp [fA]
theorem uD {N n i:Nat} (h:i<N):(fA N n)[i]? = some (if i<n then .int .i64 1 else .int .i64 0):=by simp [fA,h,Mt]
theorem RP {N n m:Nat} (h:n+m<=N):((fA N n).toArray.toList.take n++List.replicate m (.int .i64 1)++(fA N n).toArray.toList.drop (n+(List.replicate m (Value.int .i64 1)).length))=fA N (n+m):=by
 apply zv;intro i;by_cases hi:i<N
 ·rw [uD hi,bZ,List.getElem?_append]
  simp only [dD,qO,BG];by_cases h1:i<n
  ·rw [if_pos (by omega),List.getElem?_take,if_pos h1,uD hi,if_pos h1,if_pos (by omega)]
  ·rw [if_neg (by omega),List.getElem?_append]
   by_cases h2:i<n+m
   ·rw [if_pos (by rw [BG];omega),if_pos h2,List.getElem?_replicate,if_pos (by omega)]
   ·rw [if_neg (by rw [BG];omega),if_neg h2,Fq]
    simp only [BG];(have e:n+m+(i - min n N - m)=i:=by omega);rw [e,uD hi,if_neg (by omega)]
 ·rw [Fs (by simp [qO];omega),Fs (by simp [qO];omega)]
theorem EZ (W:World) (g N n m dCap:Nat) (ad:Addr) (sLen sCap dLen:Nat) (hg:W.heap[g]? = some (.cells (fA N n).toArray 3 (0,0))) (hm:m=Nat.min sLen dLen) (Nh:n+m<=N)
  (hs:∀j,j<m->W.cell? (ad.add j)=some (.int .i64 1)) :
  Sem.run Tryz.prog (Builtin.copy_ #[26,26] 3 #[.slice (some ⟨g,n,none⟩) dLen dCap,.slice (some ad) sLen sCap]) W=.ok (.int .i64 m) (W.setRow g (fA N (n+m)).toArray):=by
 have h:=run_copy_row (P:=Tryz.prog) W 26 26 3 3 g n dLen dCap ad sLen sCap (fA N n).toArray 3 (List.replicate m (.int .i64 1)) Tryz.underlying26 (by kernel_rfl) hg (by simpa using hm)
  (fun j v hj=>by
   rw [List.getElem?_replicate] at hj;split at hj
   ·injection hj with hj;subst hj;exact hs j (by assumption)
   ·cases hj) (by simpa [qO] using Nh) (fun v hv=>by rw [List.eq_of_mem_replicate hv];rfl)
 rw [RP Nh,BG] at h;exact h
theorem O4 (N:Nat):madeCells #[.int .i64 0] N=(fA N 0).toArray:=by
 apply Array.ext
 ·simp [qO,madeCells]
 ·intro i h1 h2
  simp [madeCells,fA,Nat.mod_one,Mt]
theorem uE {W:World} {g N k:Nat} {T:TypeId} (h:W.heap[g]? = some (.cells (fA N k).toArray T (0,0))) {j:Nat} (hj:j<N):W.cell? ⟨g,j,none⟩=some (if j<k then .int .i64 1 else .int .i64 0):=by
 have h2:=uD (n:=k) hj;rw [<- h2];simp [World.cell?,h]
def XE (w:World) (N:Nat) (e:Ending) (w':World):Prop:=∃g,e=.returned (.slice (some ⟨g,0,none⟩) N N)/\w.heap.size<=g/\Up w w'/\w'.heap[g]? = some (.cells (fA N N).toArray 3 (0,0))
theorem IG (w:World) (b off:Nat) (N:Nat) (J9:1<=N) (hN:N<=1000) (hc:w.cell? ⟨b,off,none⟩=some (.int .i64 1)) :
  Calls Tryz.prog 233 #[.slice (some ⟨b,off,none⟩) 1 1,.int .i64 N] w (XE w N):=by
 have hmk:=fun W=>run_make_row' (P:=Tryz.prog) 26 3 (.int .i64 0) 8 Tryz.underlying26 Tryz.mA rfl .i64 .i64 N (by omega) (by omega) W;have d1:decide ((N:Int)<0)=false:=by simp
 have d2:decide ((9223372036854775807:Int)<(N:Int))=false:=by simp;omega
 have lG:(w.alloc (.cells (madeCells #[.int .i64 0] N) 3)).heap[w.heap.size]? = some (.cells (fA N 0).toArray 3 (0,0)):=by rw [blk_alloc_new,O4]
 have E0:=Up.alloc w (.cells (madeCells #[.int .i64 0] N) 3);have hc0:=E0.cell hc;have CC:=aa lG;have Tl:=aa E0;clear lG E0
 have nN:=EZ (w.alloc (.cells (madeCells #[.int .i64 0] N) 3)) w.heap.size N 0 1 N ⟨b,off,none⟩ 1 1 N CC.out (by show 1=min 1 N;omega) (by omega) (fun j hj=>by
  obtain rfl:j=0:=by omega
  exact hc0)
 have BU:Hid (((w.alloc (.cells (madeCells #[.int .i64 0] N) 3)).setRow w.heap.size (fA N (0+1)).toArray).heap[w.heap.size]? = some (.cells (fA N (0+1)).toArray 3 (0,0))):=setRow_heap _ _ _ _ _ _ CC.out;have b9:Hid (Up w ((w.alloc (.cells (madeCells #[.int .i64 0] N) 3)).setRow w.heap.size (fA N (0+1)).toArray)):=below_setRow Tl.out (ah _) _;clear CC Tl
 go_enter Tryz.func233,Tryz.ntmps233
 go_wp2_with (go_at_call 269;refine (mul_one N hN _).mono ?_;rintro e w' ⟨rfl,rfl⟩);generalize (w.alloc (.cells (madeCells #[.int .i64 0] N) 3)).setRow w.heap.size (fA N (0+1)).toArray=w1 at *
 go_loopw [8] (fun n wr=>∃k:Nat,1<=k/\k<=N/\n=.int .i64 k/\Hid (wr.heap[w.heap.size]? = some (.cells (fA N k).toArray 3 (0,0)))/\Hid (Up w wr)) (fun n _=>N - (intOf n).toNat)
 case atStart=>exact ⟨1,ah _,J9,rfl,BU,b9⟩
 case round =>
  obtain ⟨k,hk1,hk2,rfl,HR,HU⟩:=hrel;obtain ⟨wo,rfl⟩:∃wo:World,wo=wr:=⟨_,rfl⟩;by_cases hlt:k<N
  ·obtain ⟨m,hm⟩:∃m:Nat,m=Nat.min k (N - k):=⟨_,rfl⟩
   have hm2:m=min k (N - k):=hm;have Wv:Sem.run Tryz.prog (Builtin.copy_ #[26,26] 3 #[.slice (some ⟨w.heap.size,k,none⟩) (N - k) (N - k),.slice (some ⟨w.heap.size,0,none⟩) k N]) wo.drew=.ok (.int .i64 m) (wo.drew.setRow w.heap.size (fA N (k+m)).toArray) :=
    EZ wo.drew w.heap.size N k m (N - k) ⟨w.heap.size,0,none⟩ k N (N - k) HR.out hm (by omega) (fun j hj=>by
     have h:=uE HR.out (j:=j) (by omega);rw [if_pos (by omega)] at h;have e:(⟨w.heap.size,0,none⟩:Addr).add j=⟨w.heap.size,j,none⟩:=by simp [Addr.add];omega
     rw [e];exact h)
   (have hmk:1<=m:=by omega);(have hmN:k+m<=N:=by omega);have E1:Hid ((wo.drew.setRow w.heap.size (fA N (k+m)).toArray).heap[w.heap.size]? = some (.cells (fA N (k+m)).toArray 3 (0,0))):=setRow_heap _ _ _ _ _ _ (show wo.drew.heap[w.heap.size]? = _ from HR.out);have bY:Hid (Up w (wo.drew.setRow w.heap.size (fA N (k+m)).toArray)):=below_setRow (show Up w wo.drew from below_drewN HU.out 1) (ah _) _;clear hm hm2 HR HU;go_wp2_with fail
   go_region
   all_goals
    go_wp2_with fail
    go_roundw
    case rel=>exact ⟨k+m,by omega,by omega,by go_num,E1,bY⟩
    case measure=>simp [intOf];omega
  ·obtain rfl:k=N:=by omega
   go_wp2_with fail;go_ret;exact ⟨_,rfl,ah _,HU.out,HR.out⟩
end Go.Proofs.YthgabkgmkolobaaGreat
