/- The contracts of layer 4's reference's .. -/
import Derived.Test.YthgabkgmkolobaaGreatQ35
set_option maxRecDepth 100000
set_option maxHeartbeats 2000000
namespace Go.Proofs.YthgabkgmkolobaaGreat
section
open Go.RowKit Go.Deep
def A6 (a:List Int) (k:Nat):List Int:=iT (fun x=>!a.contains x) k
theorem U0 (a:List Int) (k:Nat):(A6 a k).length<=k:=nR _ _
theorem acO (a:List Int) (k:Nat):A6 a (k+1)=A6 a k++if a.contains (k:Int)=true then [] else [(k:Int)]:=by
 unfold A6;rw [wJ];cases a.contains (k:Int)<;>rfl
theorem ZJ (N:Nat) (a:List Int):bG (N:Int) a=A6 a N:=by unfold bG A6;rw [fc]
theorem NM (S:Nat->Prop) (w:World) (v:Value) (N:Nat) (a:List Int) (h:af S w v a) (hn:a.length<=64) (hN:N<=32) (ha:eD a) (hb:∀x∈a,x<(N:Int)) :
  Calls Tryz.prog 154 #[.int .i64 (N:Int),v] w fun e w'=>Up w w'/\∃x,e=.returned (.tuple #[x,.int .i64 0])/\au w.heap.size 3 w' x ((bG N a).map (Value.int .i64)):=by
 have H1:=aa (Gj S w v a h (by omega));obtain ⟨p,cap,rfl,-,-⟩:=aq.open h;have HA:Hid (af S w (.slice p a.length cap) a):=h;have HH:Hid (∀W (x:Int),Up w W->Calls Tryz.prog 153 #[.slice p a.length cap,.int .i64 x] W fun e w'=>e=.returned (.bool (a.contains x))/\W=w'):=fun W x hW=>CF S W _ a x (af.keep h (hW.kept _)) (by omega);have ZK:Hid (gM a=0):=jx.2 ha;have oZ:=aa (ZJ N a);have HBB:=aa hb;rw [ZK.out] at H1;have k1:decide ((N:Int)<0)=false:=decide_eq_false (by omega);have k2:decide ((64:Int)<(N:Int))=false:=decide_eq_false (by omega);have HN:=aa hN;have iQ:=aa hn;clear h ha hb hN hn;go_in;go_wp2_with fail;refine H1.out.mono ?_;rintro e w1 ⟨rfl,hq1⟩;have cB:=aa hq1.up;have FN:=aa (af.keep HA.out (cB.out.kept S));clear hq1 H1 k1 k2;by_cases hm:a.length=0
 case' pos =>
  have d0:decide ((0:Int)<(a.length:Int))=false:=decide_eq_false (by omega);have d1:¬0<a.length:=by omega
  clear hm;go_wp2_with fail
 case' neg =>
  obtain ⟨m,hm⟩:∃m,a.length=m+1:=⟨a.length - 1,by omega⟩;have hc:decide ((N:Int)<=gi a m)=false:=decide_eq_false (by have:=HBB.out _ (gi_in (show m<a.length by omega));omega);have hq:(a.length:Int) - 1=(m:Int):=by omega
  obtain ⟨b,off,rfl,hcell⟩:=bU FN.out (show m<a.length by omega);have j1:(0:Int)<=(m:Int):=by omega
  have j2:(m:Int)<(a.length:Int):=by omega
  have j3:(m:Int)<64:=by have:=iQ.out;omega
  have d0:decide ((0:Int)<(a.length:Int))=true:=decide_eq_true (by omega);have d1:0<a.length:=by omega
  have hw:wrap64 ((a.length:Int) - 1)=(m:Int):=by rw [hq];unfold wrap64;omega
  clear hm;go_wp2_with fail;clear hw hq
 all_goals
  have HM:=aa (au.made w1 3);clear FN
  go_loopw [6,7] (fun o i wr=>∃k:Nat,k<=N/\i=.int .i64 k/\Hid (au w1.heap.size 3 wr o ((A6 a k).map (Value.int .i64)))/\Hid (Up w1 wr)) (fun _ i _=>N - (intOf i).toNat)
  case atStart=>exact ⟨0,aF _,rfl,HM.out,Up.alloc _ _⟩
  case round =>
   obtain ⟨k,hk,rfl,hO,cz⟩:=hrel;obtain ⟨wo,rfl⟩:=eM wr;by_cases hlt:k<N
   ·have su:=aa (acO a k)
    have wQ:=aa (HH.out wo (k:Int) (cB.out.trans cz.out));(have i2:(k:Int)<(N:Int):=by omega);(have i3:(k:Int)<1000000:=by have:=HN.out;omega);have aR:=aa hlt;have hsz:=cz.out.size;have dG:Hid (((A6 a k).map (Value.int .i64)).length=(A6 a k).length):=aD _;(have eO:Hid ((A6 a k).length<=1000000):=by have h1:=U0 a k;have:=HN.out;unfold Hid;omega);have nX:=aa cz.out;cases hcc:a.contains (k:Int)
    ·rw [hcc] at wQ
     (have HS:Hid (A6 a (k+1)=A6 a k++[(k:Int)]):=by unfold Hid;rw [su.out,hcc];simp);clear hlt hk cz hcc su;go_wp2_with fail;refine wQ.out.mono ?_;rintro e w' ⟨rfl,rfl⟩;go_wp2_with (at_builtin;refine qg wo rfl _ _ 26 rfl w1.heap.size 3 (.int .i64 0) 8 Tryz.underlying26 Tryz.iD rfl (by decide) hO.out rfl (.int .i64 (k:Int)) _ rfl rfl rfl _ dG.out eO.out hsz ?_;intro g8 kM w8 hown1 acG gC)
     go_roundw
     case rel=>exact ⟨k+1,aR.out,by go_num,by unfold Hid;rw [HS.out,cg];exact hown1,iz nX.out gC⟩
     case measure=>have:=aR.out;simp [intOf];omega
    ·rw [hcc] at wQ
     (have HS:Hid (A6 a (k+1)=A6 a k):=by unfold Hid;rw [su.out,hcc];simp);clear hlt hk cz hcc su;go_wp2_with fail;refine wQ.out.mono ?_;rintro e w' ⟨rfl,rfl⟩;go_wp2
     go_roundw
     case rel=>exact ⟨k+1,aR.out,by go_num,by unfold Hid;rw [HS.out];exact hO.out,nX.out⟩
     case measure=>have:=aR.out;simp [intOf];omega
   ·obtain rfl:k=N:=by omega
    have lu:=aa (cB.out.trans cz.out);have hR:=hO.out.tK cB.out.size;rw [<- oZ.out] at hR;have HR:=aa hR;clear hR;(have i2:¬(k:Int)<(k:Int):=by omega);clear hlt hk hO cz;go_wp2_with fail;exact ⟨rfl,.tuple #[_,.int .i64 0],by simp [results,Tryz.results154,go_sem],lu.out,_,rfl,HR.out⟩
def vL (a b:List Int) (k:Nat):List Int:=(a.take k).filter fun x=>!b.contains x
theorem ZL {a b:List Int} {k:Nat} (hk:k<a.length):vL a b (k+1)=vL a b k++(if b.contains (gi a k)=true then [] else [gi a k]):=by
 unfold vL;rw [BU,rO];congr 1;have e:a[k]? = some (gi a k):=by simp [gi,hk]
 rw [e];show List.filter _ [gi a k]=_;cases h:b.contains (gi a k)
 ·rw [if_neg (by decide)];simpa using h
 ·rw [if_pos rfl];simpa using h
theorem ZM (S T:Nat->Prop) (w:World) (v u:Value) (a b:List Int) (h:af S w v a) (h2:af T w u b) (hn:a.length<=1000000) (hm:b.length<=1000000) (ha:eD a) (hb:eD b) :
  Calls Tryz.prog 212 #[v,u] w fun e w'=>Up w w'/\∃x,e=.returned (.tuple #[x,.int .i64 0])/\au w.heap.size 3 w' x ((a.filter fun x=>!b.contains x).map (Value.int .i64)):=by
 have H1:=aa (LB S T w v u a b h h2 hn hm ha hb);obtain ⟨p,cap,rfl,-,-⟩:=aq.open h;obtain ⟨q,qI,rfl,-,-⟩:=aq.open h2;have HA:Hid (af S w (.slice p a.length cap) a):=h;have HH:Hid (∀W (x:Int),Up w W->Calls Tryz.prog 153 #[.slice q b.length qI,.int .i64 x] W fun e w'=>e=.returned (.bool (b.contains x))/\W=w'):=fun W x hW=>CF T W _ b x (af.keep h2 (hW.kept _)) hm;clear h h2 ha hb;go_in;go_wp2_with fail;refine H1.out.mono ?_;rintro e w1 ⟨rfl,hq1⟩;have cB:=aa hq1.up;have HM:=aa (au.made w1 3);clear hq1 H1;go_wp2
 go_loopw [6,7] (fun o i wr=>∃k:Nat,k<=a.length/\i=.int .i64 k/\Hid (au w1.heap.size 3 wr o ((vL a b k).map (Value.int .i64)))/\Hid (Up w1 wr)) (fun _ i _=>a.length - (intOf i).toNat)
 case atStart=>exact ⟨0,aF _,rfl,HM.out,Up.alloc _ _⟩
 case round =>
  obtain ⟨k,hk,rfl,hO,cz⟩:=hrel;obtain ⟨wo,rfl⟩:=eM wr;by_cases hlt:k<a.length
  ·obtain ⟨b1,off,rfl,hc⟩:=bU (af.keep HA.out ((cB.out.trans cz.out).kept S)) hlt
   have su:=aa (ZL (b:=b) hlt);have wQ:=aa (HH.out wo (gi a k) (cB.out.trans cz.out));(have i1:(0:Int)<=(k:Int):=by omega);(have i2:(k:Int)<(a.length:Int):=by omega);(have i3:(k:Int)<1000000:=by omega);have aR:=aa hlt;have hsz:=cz.out.size;have dG:Hid (((vL a b k).map (Value.int .i64)).length=(vL a b k).length):=aD _;(have eO:Hid ((vL a b k).length<=1000000):=by have h1:(vL a b k).length<=(a.take k).length:=mN _ _;rw [jl] at h1;unfold Hid;omega);have nX:=aa cz.out;cases hcc:b.contains (gi a k)
   ·rw [hcc] at wQ
    (have HS:Hid (vL a b (k+1)=vL a b k++[gi a k]):=by unfold Hid;rw [su.out,hcc];simp);clear hlt hk cz hcc su;generalize gi a k=x at *;go_wp2_with fail;refine wQ.out.mono ?_;rintro e w' ⟨rfl,rfl⟩;go_wp2_with (at_builtin;refine qg wo rfl _ _ 26 rfl w1.heap.size 3 (.int .i64 0) 8 Tryz.underlying26 Tryz.iD rfl (by decide) hO.out rfl (.int .i64 x) _ rfl rfl rfl _ dG.out eO.out hsz ?_;intro g8 kM w8 hown1 acG gC)
    go_roundw
    case rel=>exact ⟨k+1,aR.out,by go_num,by unfold Hid;rw [HS.out,cg];exact hown1,iz nX.out gC⟩
    case measure=>have:=aR.out;simp [intOf];omega
   ·rw [hcc] at wQ
    (have HS:Hid (vL a b (k+1)=vL a b k):=by unfold Hid;rw [su.out,hcc];simp);clear hlt hk cz hcc su;generalize gi a k=x at *;go_wp2_with fail;refine wQ.out.mono ?_;rintro e w' ⟨rfl,rfl⟩;go_wp2
    go_roundw
    case rel=>exact ⟨k+1,aR.out,by go_num,by unfold Hid;rw [HS.out];exact hO.out,nX.out⟩
    case measure=>have:=aR.out;simp [intOf];omega
  ·obtain rfl:k=a.length:=by omega
   have Ku:=hO.out;unfold vL at Ku;rw [fT] at Ku;have HR:=aa (Ku.tK cB.out.size);have lu:=aa (cB.out.trans cz.out);clear hlt hk hO Ku cz;go_wp2_with fail;exact ⟨rfl,.tuple #[_,.int .i64 0],by simp [results,Tryz.results212,go_sem],lu.out,_,rfl,HR.out⟩
theorem Oo {l:List (List Int)} {s:List Int} {k:Nat} (hk:k<l.length) (e:gl l k=s):l.contains s=true:=by
 rw [dU,<- e];exact YF hk
theorem Ek (s:ByteArray) (h:s.size - 1<s.size) (Yk:16<s.size) (DX:((s[s.size - 1].toNat:Int)==42)=true):bq s.data.toList=false:=by
 have hl:=size_data s;have h2:s[s.size - 1]=42:=by
  have h3:(s[s.size - 1].toNat:Int)=42:=by simpa using DX
  have h4:s[s.size - 1].toNat=42:=by omega
  exact UInt8.toNat_inj.1 h4
 unfold bq;rw [Dg s h,h2,if_pos rfl,hl,decide_eq_false (by omega),Bool.and_false]
theorem ZN (s:ByteArray) (hs:s.size<=70000) (w:World):Calls Tryz.prog 159 #[.string s] w fun e w'=>e=.returned (.bool (bq s.data.toList))/\Below w.heap.size w w':=by
 go_in;go_wp2_with fail
 ·have hf:=aa (xX s (by omega) (by omega) ‹_›)
  refine (lW _ (by simp;omega) _).mono ?_;rintro e w1 ⟨rfl,hb⟩;rw [<- hf.out];go_wp2;go_ret;exact ⟨rfl,hb⟩
 ·have hf:=aa (Ek s (by omega) (by omega) ‹_›)
  go_ret;exact ⟨aO (by rw [hf.out]),cM _ _⟩
 ·have hf:=aa (vV s (by omega) ‹_›)
  refine (lW _ hs _).mono ?_;rintro e w1 ⟨rfl,hb⟩;rw [<- hf.out];go_wp2;go_ret;exact ⟨rfl,hb⟩
 ·have hf:=aa (Ay s (by omega))
  refine (lW _ hs _).mono ?_;rintro e w1 ⟨rfl,hb⟩;rw [<- hf.out];go_wp2;go_ret;exact ⟨rfl,hb⟩
theorem ZO (s:ByteArray) (hs:s.size<=70000) (w:World):Calls Tryz.prog 150 #[.string s] w fun e w'=>e=.returned (.bool (bq s.data.toList))/\Below w.heap.size w w':=by
 go_in;go_wp2_with fail
 ·have hf:=aa (xX s (by omega) (by omega) ‹_›)
  refine (lW _ (by simp;omega) _).mono ?_;rintro e w1 ⟨rfl,hb⟩;rw [<- hf.out];go_wp2;go_ret;exact ⟨rfl,hb⟩
 ·have hf:=aa (Ek s (by omega) (by omega) ‹_›)
  go_ret;exact ⟨aO (by rw [hf.out]),cM _ _⟩
 ·have hf:=aa (vV s (by omega) ‹_›)
  refine (lW _ hs _).mono ?_;rintro e w1 ⟨rfl,hb⟩;rw [<- hf.out];go_wp2;go_ret;exact ⟨rfl,hb⟩
 ·have hf:=aa (Ay s (by omega))
  refine (lW _ hs _).mono ?_;rintro e w1 ⟨rfl,hb⟩;rw [<- hf.out];go_wp2;go_ret;exact ⟨rfl,hb⟩
theorem Ky (S:Nat->Prop) (w:World) (v:Value) (amd:List ByteArray) (s:ByteArray) (h:aj S w v amd) (hn:amd.length<=1000000) :
  Calls Tryz.prog 143 #[v,.string s] w fun e w'=>e=.returned (.int .i64 (dD amd s))/\w=w':=by
 obtain ⟨p,cap,rfl,hcap,-⟩:=aq.open h;have h:aj S w (.slice p amd.length cap) amd:=h;have HF:Hid (dD amd s=dr (fun j=>decide (s=gs amd j)) amd.length):=rfl;have HN:=aa h;clear h;go_in;go_wp2
 go_loop [4,5] (fun _ i=>∃k:Nat,k<=amd.length/\i=.int .i64 k/\Hid (∀j,j<k->decide (s=gs amd j)=false)) (fun _ i=>amd.length - (intOf i).toNat)
 case atStart=>exact ⟨0,aF _,rfl,fun j hj=>absurd hj (aZ _)⟩
 case round =>
  obtain ⟨k,hk,rfl,hd⟩:=hrel;by_cases hlt:k<amd.length
  ·obtain ⟨b,off,rfl,hc⟩:=cH HN.out hlt
   (have mG:Hid (decide (s=gs amd k)=true->(k:Int)=dD amd s):=fun h1=>by rw [HF.out];exact (gG (p:=fun j=>decide (s=gs amd j)) hlt hd.out h1).symm);have HX:Hid (∀j,j<k+1->¬j=k->decide (s=gs amd j)=false):=fun j hj h1=>hd.out j (by omega);(have HK:Hid (∀j,j<k+1->decide (s=gs amd k)=false->decide (s=gs amd j)=false):=fun j hj h1=>if e:j=k then by subst e;exact h1 else HX.out j hj e);generalize gs amd k=nm at *;go_wp2_with fail
   ·have hx:=KV ‹(nm.toList==s.toList)=true›
    go_ret;exact ⟨aC (mG.out (by simpa using hx.symm)),rfl⟩
   ·have hx:=OT ‹(nm.toList==s.toList)=false›
    go_round
    case rel=>exact ⟨k+1,by omega,by go_num,fun j hj=>HK.out j hj (by simpa using fun e=>hx e.symm)⟩
    case measure=>simp [intOf];omega
  ·obtain rfl:k=amd.length:=by omega
   (have HE:Hid (dD amd s = -1):=by unfold Hid;rw [HF.out];exact dZ hd.out);go_wp2;go_ret;exact ⟨aC HE.out.symm,rfl⟩
end
section
def ddP (ame:List (List Int)) (p:Nat):Nat:=(dd (fP (fW ame p))).length
def uO (ame:List (List Int)) (p:Nat):Int:=if ddP ame p=0 then 0 else (ddP ame p:Int) - 1
def RV (ame:List (List Int)):Int:=eA (uO ame) (gl ame 0).length
def WT (ame:List (List Int)):Int:=if kz ame=0 then 0 else 1
def WU (ame:List (List Int)):Int:=if kz ame=0 then RV ame else 0
theorem DD (ame:List (List Int)) (p:Nat):(fW ame p).length=ame.length:=by unfold fW;rw [aD]
theorem ahH (ame:List (List Int)) (p:Nat):ddP ame p<=ame.length:=by
 unfold ddP;have h1:(dd (fP (fW ame p))).length<=(fP (fW ame p)).length:=(zH _).length_le_of_subset fun x hx=>CC.1 hx;have h2:(fP (fW ame p)).length<=(fW ame p).length:=mN _ _;rw [DD] at h2;omega
theorem U1 (ame:List (List Int)) (p:Nat):0<=uO ame p/\uO ame p<=ame.length:=by
 have:=ahH ame p;unfold uO;split<;>omega
end
section
def kP (ts:List ax) (amd:List ByteArray) (n:Nat):List (List Int):=(dP (gt ts 0) amd).filter fun s=>(List.range n).all fun k=>decide (s∈dP (gt ts k) amd)
def rI (ts:List ax) (amd:List ByteArray):List (List Int):=kP ts amd ts.length
theorem RX (ts:List ax) (amd:List ByteArray):kP ts amd 1=dP (gt ts 0) amd:=by
 unfold kP;rw [List.filter_eq_self];intro s hs;simp [hs]
theorem NN (ts:List ax) (amd:List ByteArray) (n:Nat):kP ts amd (n+1)=(kP ts amd n).filter fun s=>decide (s∈dP (gt ts n) amd):=by
 unfold kP;rw [List.filter_filter];refine List.filter_congr fun s _=>?_;rw [pU,List.all_append];simp [Bool.and_comm]
theorem vM (ts:List ax) (amd:List ByteArray) (n:Nat):(kP ts amd n).Sublist (dP (gt ts 0) amd):=List.filter_sublist
def o6 (ts:List ax) (amd:List ByteArray) (k:Nat):Int:=if aA (gt ts k)≠0 then 1 else if mV (gt ts k) amd then 0 else 9
def nJ (amd:List ByteArray) (ts:List ax):Int:=if eL amd≠0 then eL amd else if ts.length=0 then 5 else bf (o6 ts amd) ts.length
def RY (amd:List ByteArray) (ts:List ax):Int:=if nJ amd ts≠0 then nJ amd ts else eR amd (rI ts amd)
def Kz (amd:List ByteArray) (ts:List ax):ax:=if nJ amd ts≠0 then ⟨[],[]⟩ else jN amd (rI ts amd)
section
variable {ts:List ax} {amd:List ByteArray}
theorem ad2 (hn:nQ amd) (h:bf (o6 ts amd) ts.length=0):∀k,k<ts.length->jG (gt ts k) amd:=fun k hk=>by
 have h1:=iC h k hk
 unfold o6 at h1
 split at h1
 ·cases h1
 ·rename_i h2
  have h2:=FW.1 h2
  split at h1
  ·rename_i h3;exact (Kn hn h2).1 h3
  ·cases h1
end
end
section
open Go.RowKit Go.Deep
theorem Tm (S:Nat->Prop) (w:World) (v:Value) (t:ax) (h:aG S w v t) (hp:t.ps.length<=1000000) (hn:t.ns.length<=1000000) (hz:∀k,(gs t.ns k).size<=70000) :
  Calls Tryz.prog 142 #[v] w (OV w t):=by
 obtain ⟨P,N,rfl,hP,hN⟩:=h;have Ad:aG S (w.alloc (.cells #[P,N] 39)) (.agg #[P,N]) t:=aG.keep ⟨P,N,rfl,hP,hN⟩ (Kept.below ((cM _ w).alloc (ah _) _));have hb0:Below w.heap.size w (w.alloc (.cells #[P,N] 39)):=(cM _ _).alloc (ah _) _;have tI:(w.alloc (.cells #[P,N] 39)).cell? ⟨w.heap.size,1,none⟩=some N:=by simp [World.cell?_alloc_new]
 have qw:=iq w P N 39;have Es:=Im S (w.alloc (.cells #[P,N] 39)) _ t Ad hp hn hz;have gw:=aa Es;have Jk:=aa tI;have mz:=aa hb0;have HN:=aa hN;clear Es hb0 Ad hP hN;by_cases he:aA t=0
 ·go_in
  go_wp2_with fail;refine gw.out.mono ?_;rintro e w1 ⟨rfl,hb1⟩;rw [aQ] at hb1;clear qw tI;have iE:Below w.heap.size w w1:=mz.out.trans (hb1.mono (by omega));have Jm:=HN.out.keep (Kept.below iE);have tI:w1.cell? ⟨w.heap.size,1,none⟩=some N:=(hb1.cell (p:=⟨w.heap.size,1,none⟩) (by simp)).trans Jk.out;obtain ⟨q,dF,rfl,xP,OW⟩:=aq.open Jm;have OX:=aa OW;have akb:=aa tI;have Xu:w.heap.size<=w1.heap.size:=iE.size;have ahI:w.heap.size<w1.heap.size:=by have:=hb1.size;rw [aQ] at this;omega
  have akc:=aa ahI;have HE:=aa he;rw [he];clear OW Jm gw Jk mz HN hb1 he ahI;go_wp2_with fail;clear tI
  go_loopw [4,5] (fun v i wr=>∃k:Nat,k<=t.ns.length/\i=.int .i64 k/\au w1.heap.size 3 wr v ((jI t.ns k).map (Value.int .i64))/\Below w1.heap.size w1 wr) (fun _ i _=>t.ns.length - (intOf i).toNat)
  case atStart=>exact ⟨0,aF _,rfl,au.nil _ _ _,cM _ _⟩
  case round =>
   obtain ⟨k,hk,rfl,hown,hbr⟩:=hrel;obtain ⟨wo,rfl⟩:=eM wr;have tI:wo.cell? ⟨w.heap.size,1,none⟩=some (.slice q t.ns.length dF):=(hbr.cell (p:=⟨w.heap.size,1,none⟩) akc.out).trans akb.out;by_cases hlt:k<t.ns.length
   ·obtain ⟨b,off,rfl,hc0⟩:=OX.out k hlt
    (have hc:wo.cell? ⟨b,off+k,none⟩=some (.string (gs t.ns k)):=by rw [hbr.cell (p:=⟨b,off+k,none⟩) (dL _ _ hc0)];exact hc0);have hsz:=hbr.size;have ni:=yE t.ns k;have uQ:=Bi t.ns k;have hnil:=toList_nil (gs t.ns k);have tu:=aa hnil;have sM:=aa ni;(have dG:Hid (((jI t.ns k).map (Value.int .i64)).length<=1000000):=by unfold Hid;rw [aD];omega);(have i1:(0:Int)<=(k:Int):=by omega);(have i2:(k:Int)<(t.ns.length:Int):=by omega);clear hc0 hnil ni uQ OX hz;generalize Gu:gs t.ns k=g at *;clear Gu;by_cases hg0:g.size=0
    ·have hg1:g.toList=[]:=tu.out.2 hg0
     have ue:=aa hg0;clear hg0;go_wp2
     go_roundw
     case rel=>exact ⟨k+1,by omega,by go_num,by rw [sM.out,if_pos ue.out,eG];exact hown,hbr⟩
     case measure=>simp [intOf];omega
    ·have hg1:(g.toList==[])=false:=by
      rw [rN];intro e;exact hg0 (tu.out.1 (by simpa using e))
     have hg2:(g.toList != [])=true:=by
      rw [bne_iff_ne];intro e;exact hg0 (tu.out.1 (by simpa using e))
     have ue:=aa hg0
     clear hg0
     go_wp2_with (at_builtin;refine nK wo rfl _ _ 26 rfl w1.heap.size 3 _ 8 Tryz.underlying26 Tryz.iD rfl (by decide) hown rfl _ rfl rfl dG.out hsz ?_;intro g cap w2 hown1 hg1 hb1)
     go_roundw
     case rel=>exact ⟨k+1,by omega,by go_num,by rw [sM.out,if_neg ue.out,cg];rw [aD] at hown1;exact hown1,hbr.trans hb1⟩
     case measure=>simp [intOf];omega
   ·obtain rfl:k=t.ns.length:=by omega
    clear hlt hk OX;go_wp2;go_ret2;exact ⟨iE.trans (hbr.mono Xu),.inr ⟨HE.out,_,rfl,hown.ints.sub fun b hb _=>aB Xu hb⟩⟩
 ·have he':(aA t != 0)=true:=by simpa using he
  have HE:=aa he;clear he;go_in;go_wp2_with fail;refine gw.out.mono ?_;rintro e w1 ⟨rfl,hb1⟩;rw [aQ] at hb1;go_wp2;go_ret2;exact ⟨mz.out.trans (hb1.mono (by omega)),.inl ⟨HE.out,rfl⟩⟩
theorem acP (S T:Nat->Prop) (w:World) (v u:Value) (xs ys:List (List Int)) (h:aT S w v xs) (h2:aT T w u ys) (hn:xs.length<=1000000) (hn2:ys.length<=1000000) (hr:∀k,(gl xs k).length<=1000000) (hr2:∀k,(gl ys k).length<=1000000) :
  Calls Tryz.prog 158 #[v,u] w (Pb w (decide (xs=ys))):=by
 obtain ⟨p,cap,rfl,hcap,_⟩:=dy h;obtain ⟨q,dF,rfl,xP,_⟩:=dy h2;have HX:=aa h;have HY:=aa h2;have HR:=aa hr;have G2:=aa hr2;clear h h2 hr hr2;by_cases hl:xs.length=ys.length
 ·have jC:((xs.length:Int) != ys.length)=false:=by simp [hl]
  have HL:=aa hl;clear hl;go_in;go_wp2
  go_loopw [5,6] (fun i _ wr=>∃k:Nat,k<=xs.length/\i=.int .i64 k/\Hid (QD w wr)/\Hid (∀j,j<k->gl xs j=gl ys j)) (fun i _ _=>xs.length - (intOf i).toNat)
  case atStart=>exact ⟨0,aF _,rfl,QD.refl _,fun j hj=>absurd hj (aZ _)⟩
  case round =>
   obtain ⟨k,hk,rfl,hQ,hd⟩:=hrel;obtain ⟨wo,rfl⟩:=eM wr;by_cases hlt:k<xs.length
   ·have hlt2:k<ys.length:=by rw [<- HL.out];exact hlt
    obtain ⟨b,off,rq,rc,rfl,hc0,NP⟩:=eZ HX.out hlt;obtain ⟨b2,off2,rq2,rc2,rfl,Fl,ahJ⟩:=eZ HY.out hlt2;have hc:=hQ.out.up.cell hc0;have hc2:=hQ.out.up.cell Fl;have lV:=aa (And.intro hc0 Fl);(have i1:(0:Int)<=(k:Int):=by omega);(have i2:(k:Int)<(xs.length:Int):=by omega);(have i3:(k:Int)<(ys.length:Int):=by omega);have RZ:=aa NP;have akd:=aa ahJ;have aR:=aa hlt;(have KA:Hid (gl xs k=gl ys k->∀j,j<k+1->gl xs j=gl ys j):=fun e j hj=>if ej:j=k then by subst ej;exact e else hd.out j (by omega));have ve:Hid (gl xs k≠gl ys k->xs≠ys):=fun h e=>h (by rw [e]);have HRK:=aa (And.intro (HR.out k) (G2.out k));clear NP ahJ hlt2 hd hc0 Fl;generalize gl xs k=a at *;generalize gl ys k=c at *;by_cases hab:a.length=c.length
    ·have d1:((a.length:Int) != c.length)=false:=by simp [hab]
     have KB:=aa hab;clear hab hlt;go_wp2;(go_quiet (fail));clear hc hc2;go_wp2_with fail;clear d1
     go_loopw [6] (fun i wi=>∃m:Nat,m<=a.length/\i=.int .i64 m/\Hid (QD w wi)/\Hid (∀j,j<m->gi a j=gi c j)) (fun i _=>a.length - (intOf i).toNat)
     case atStart=>exact ⟨0,aF _,rfl,hQ.out.drewN _,fun j hj=>absurd hj (aZ _)⟩
     case round =>
      obtain ⟨m,hm,rfl,R1,hd2⟩:=hrel;obtain ⟨wi,rfl⟩:=eM wr;have hc:=R1.out.up.cell lV.out.1;have hc2:=R1.out.up.cell lV.out.2;by_cases hlm:m<a.length
      ·have ahK:m<c.length:=by rw [<- KB.out];exact hlm
       obtain ⟨xb,xo,rfl,hx⟩:=bU RZ.out hlm;obtain ⟨yb,yo,rfl,hy⟩:=bU akd.out ahK;replace hx:=R1.out.up.cell hx;replace hy:=R1.out.up.cell hy;(have j1:(0:Int)<=(m:Int):=by omega);(have j2:(m:Int)<(a.length:Int):=by omega);(have j3:(m:Int)<(c.length:Int):=by omega);(have j4:(m:Int)<1000000:=by have:=HRK.out.1;omega);(have mG:Hid (gi a m=gi c m->∀j,j<m+1->gi a j=gi c j):=fun e j hj=>if ej:j=m then by subst ej;exact e else hd2.out j (by omega));have ij:Hid (gi a m≠gi c m->decide (xs=ys)=false):=fun h=>decide_eq_false (ve.out fun e=>h (by rw [e]));have Y8:=aa hlm;clear hd2 hlm ahK hm;generalize gi a m=x at *;generalize gi c m=y at *;by_cases hxy:x=y
       ·have d2:(x != y)=false:=by simp [hxy]
        have yI:=aa (mG.out hxy);clear hxy mG ij;go_wp2;(go_quiet (fail));go_wp2
        go_roundw
        case rel=>exact ⟨m+1,Y8.out,by go_num,R1.out.drewN _,yI.out⟩
        case measure=>have:=Y8.out;simp [intOf];omega
       ·have d2:(x != y)=true:=by simpa using hxy
        have yI:=aa (ij.out hxy);clear hxy mG ij;go_wp2;(go_quiet (fail));go_wp2;go_ret;exact ⟨aO yI.out.symm,R1.out.drewN _⟩
      ·obtain rfl:m=a.length:=by omega
       have Y0:Hid (∀j,j<k+1->gl xs j=gl ys j):=KA.out (Ht KB.out hd2.out);(have j2:¬(a.length:Int)<(a.length:Int):=by omega);clear hd2 hlm;go_wp2
       go_roundw
       case rel=>exact ⟨k+1,aR.out,by go_num,R1.out,Y0.out⟩
       case measure=>have:=aR.out;simp [intOf];omega
    ·have d1:((a.length:Int) != c.length)=true:=by simp;omega
     have HF:Hid (decide (xs=ys)=false):=decide_eq_false (ve.out fun e=>hab (by rw [e]));clear hab hlt;go_wp2;(go_quiet (fail));go_wp2;go_ret;exact ⟨aO HF.out.symm,hQ.out.drewN _⟩
   ·obtain rfl:k=xs.length:=by omega
    clear hlt hk;have hex:xs=ys:=aaK HL.out hd.out;have XH:Hid (decide (xs=ys)=true):=decide_eq_true hex;clear hex;go_wp2;go_ret;exact ⟨aO (by rw [XH.out]),hQ.out⟩
 ·have jC:((xs.length:Int) != ys.length)=true:=by simp;omega
  have HL:=aa hl;clear hl;go_in;go_wp2;go_ret;refine ⟨aO ?_,0,rfl⟩;rw [eq_comm,decide_eq_false_iff_not];rintro rfl;exact HL.out rfl
theorem afa (S T:Nat->Prop) (w:World) (v u:Value) (l:List (List Int)) (s:List Int) (h:aT S w v l) (h2:af T w u s) (hn:l.length<=1000000) (hr:∀k,(gl l k).length<=1000000) (hm:s.length<=1000000) :
  Calls Tryz.prog 114 #[v,u] w fun e w'=>e=.returned (.bool (l.contains s))/\Up w w':=by
 obtain ⟨p,cap,rfl,-,-⟩:=dy h;obtain ⟨uq,uc,rfl,-,-⟩:=aq.open h2;have HX:=aa h;have uU:Hid (af T w (.slice uq s.length uc) s):=h2;have HR:=aa hr;have HM:=aa hm;clear h h2 hr hm;go_in;go_wp2
 go_loopw [5] (fun i wr=>∃k:Nat,k<=l.length/\i=.int .i64 k/\Hid (Up w wr)/\Hid (∀j,j<k->gl l j≠s)) (fun i _=>l.length - (intOf i).toNat)
 case atStart=>exact ⟨0,aF _,rfl,Up.refl _,fun j hj=>absurd hj (aZ _)⟩
 case round =>
  obtain ⟨k,hk,rfl,hQ,hd⟩:=hrel;obtain ⟨wo,rfl⟩:=eM wr;by_cases hlt:k<l.length
  ·obtain ⟨b,off,q,qI,rfl,hc,hx⟩:=eZ (HX.out.keep (hQ.out.kept S)) hlt
   have bK:=Up.alloc wo (.cells #[.slice q (gl l k).length qI] 26);have aI:=bK.trans (Up.alloc _ (.cells #[.slice uq s.length uc] 26));have hs1:(wo.alloc (.cells #[.slice q (gl l k).length qI] 26)).heap.size=wo.heap.size+1:=aQ _ _;(have hb1:(wo.alloc (.cells #[.slice q (gl l k).length qI] 26)).cell? ⟨wo.heap.size,0,none⟩=some (.slice q (gl l k).length qI):=by unfold World.cell?;rw [ng];rfl);have hb2:((wo.alloc (.cells #[.slice q (gl l k).length qI] 26)).alloc (.cells #[.slice uq s.length uc] 26)).cell? ⟨wo.heap.size+1,0,none⟩=some (.slice uq s.length uc):=by rw [<- hs1];unfold World.cell?;rw [ng];rfl
   have xy:=aa (acP Any Any ((wo.alloc (.cells #[.slice q (gl l k).length qI] 26)).alloc (.cells #[.slice uq s.length uc] 26)) (.slice (some ⟨wo.heap.size,0,none⟩) 1 1) (.slice (some ⟨wo.heap.size+1,0,none⟩) 1 1) [gl l k] [s]
    ⟨fun _=>.slice q (gl l k).length qI,⟨some ⟨wo.heap.size,0,none⟩,1,rfl,ah _,.inr ⟨_,_,rfl,trivial,fun i hi=>by
     obtain rfl:i=0:=by simpa using hi
     exact (Up.alloc _ _).cell hb1⟩⟩,fun i hi=>by
     obtain rfl:i=0:=by simpa using hi
     exact (hx.keep (aI.kept _)).sub fun _ _ _=>trivial⟩
    ⟨fun _=>.slice uq s.length uc,⟨some ⟨wo.heap.size+1,0,none⟩,1,rfl,ah _,.inr ⟨_,_,rfl,trivial,fun i hi=>by
     obtain rfl:i=0:=by simpa using hi
     exact hb2⟩⟩,fun i hi=>by
     obtain rfl:i=0:=by simpa using hi
     exact (af.keep uU.out ((hQ.out.trans aI).kept _)).sub fun _ _ _=>trivial⟩
    (by simp) (by simp) (fun i=>by rcases i with _ | i<;>simp [gl]<;>exact HR.out k) (fun i=>by rcases i with _ | i<;>simp [gl]<;>exact HM.out))
   have b7:=aa (hQ.out.trans aI);(have i1:(0:Int)<=(k:Int):=by omega);(have i2:(k:Int)<(l.length:Int):=by omega);(have i3:(k:Int)<1000000:=by omega);have aR:=aa hlt;have HY:Hid (gl l k=s->l.contains s=true):=fun e=>Oo hlt e;(have KA:Hid (gl l k≠s->∀j,j<k+1->gl l j≠s):=fun e j hj=>if q:j=k then by subst q;exact e else hd.out j (by omega));(have HE:Hid (decide ([gl l k]=[s])=decide (gl l k=s)):=by unfold Hid;simp);rw [HE.out] at xy;clear bK aI hb1 hb2 hx hd hlt hk;generalize gl l k=g at *;by_cases e:g=s
   ·rw [decide_eq_true e] at xy
    have HF:=aa (HY.out e);clear e HY KA HE;go_wp2_with fail;generalize (wo.alloc (.cells #[.slice q g.length qI] 26)).alloc (.cells #[.slice uq s.length uc] 26)=w2 at *;refine xy.out.mono ?_;rintro e w' ⟨rfl,nq,rfl⟩;go_wp2;go_ret;exact ⟨aO (by rw [HF.out]),b7.out.trans (Up.drewN _ _)⟩
   ·rw [decide_eq_false e] at xy
    have HF:=aa (KA.out e);clear e HY KA HE;go_wp2_with fail;generalize (wo.alloc (.cells #[.slice q g.length qI] 26)).alloc (.cells #[.slice uq s.length uc] 26)=w2 at *;refine xy.out.mono ?_;rintro e w' ⟨rfl,nq,rfl⟩;go_wp2
    go_roundw
    case rel=>exact ⟨k+1,aR.out,by go_num,b7.out.trans (Up.drewN _ _),HF.out⟩
    case measure=>have:=aR.out;simp [intOf];omega
  ·obtain rfl:k=l.length:=by omega
   (have HF:Hid (l.contains s=false):=by unfold Hid;rw [<- Bool.not_eq_true];intro hc;obtain ⟨j,hj,e⟩:=rQ (dU.1 hc);exact hd.out j hj (by simp [gl,hj,e]));clear hd hlt;go_wp2;go_ret;exact ⟨aO (by rw [HF.out]),hQ.out⟩
def FO (t:ax) (amd:List ByteArray):Int:=if aA t≠0 then 1 else if mV t amd then 0 else 9
theorem ZP (S T:Nat->Prop) (w:World) (v vn:Value) (t:ax) (amd:List ByteArray) (hT:aG S w v t) (hp:t.ps.length<=1000000) (hn:t.ns.length<=1000000) (hz:∀k,(gs t.ns k).size<=70000) (h:aj T w vn amd) (hnn:amd.length<=1000000) :
  Calls Tryz.prog 103 #[v,vn] w fun e w'=>e=.returned (.int .i64 (FO t amd))/\Up w w':=by
 obtain ⟨P,N,rfl,hP,hN⟩:=hT;obtain ⟨np,nc,rfl,-,-⟩:=aq.open hN;have hN:aj S w (.slice np t.ns.length nc) t.ns:=hN;obtain ⟨pp,pc,rfl,-,-⟩:=aq.open hP;have hP:af S w (.slice pp t.ps.length pc) t.ps:=hP;obtain ⟨mp,mc,rfl,-,-⟩:=aq.open h;have h:aj T w (.slice mp amd.length mc) amd:=h;have bK:Up w (w.alloc (.cells #[.slice pp t.ps.length pc,.slice np t.ns.length nc] 39)):=Up.alloc _ _;obtain ⟨q0,q1,-,-⟩:=boxed (iN (w:=w) (P:=.slice pp t.ps.length pc) (N:=.slice np t.ns.length nc) (T:=39));have nt:aG S (w.alloc (.cells #[.slice pp t.ps.length pc,.slice np t.ns.length nc] 39)) (.agg #[.slice pp t.ps.length pc,.slice np t.ns.length nc]) t:=⟨_,_,rfl,af.keep hP (bK.kept S),aj.keep hN (bK.kept S)⟩;have A5:=aa (Tm S _ _ t nt hp hn hz);have o5:=aa (aj.keep hN (bK.kept S));have Yh:=aa (aj.keep h (bK.kept T));have cB:=aa bK;have HF:Hid (FO t amd=if aA t≠0 then 1 else if mV t amd then 0 else 9):=rfl;have HFB:Hid (mV t amd=(decide ((ay t.ns).length=amd.length)&&!kN t amd)):=rfl;have jk:Hid (kN t amd=(List.range (ay t.ns).length).any fun j=>decide (dD amd (gs t.ns (gi (ay t.ns) j).toNat)<0)):=rfl;have dG:Hid ((ay t.ns).length<=1000000):=aB (sK t.ns) hn;have OW:=aa hnn;clear hP hN h nt bK hz;go_in;go_wp2_with fail;generalize w.alloc (.cells #[.slice pp t.ps.length pc,.slice np t.ns.length nc] 39)=w1 at *;refine A5.out.mono ?_;rintro e w2 ⟨hb,⟨h0,rfl⟩ | ⟨h0,lv,rfl,hl⟩⟩
 ·have s6:Hid (FO t amd=1):=by unfold Hid;rw [HF.out,if_pos h0]
  have b7:=aa (cB.out.trans hb);clear hb h0 A5;go_wp2;go_ret;exact ⟨aC s6.out.symm,b7.out⟩
 ·obtain ⟨lp,lc,rfl,-,-⟩:=aq.open hl
  have hl:af _ w2 (.slice lp (ay t.ns).length lc) (ay t.ns):=hl;have HL:=aa hl;have qA:Hid (FO t amd=if mV t amd then 0 else 9):=by unfold Hid;rw [HF.out,if_neg (by omega)]
  have aI:Up w1 w2:=hb;have HQ:=aa (aI.cell q1);have b7:=aa (cB.out.trans aI);have oB:=aa (aj.keep o5.out (aI.kept S));have ML:=aa (aj.keep Yh.out (aI.kept T));clear hl hb aI h0 A5 q0 q1 HF o5 Yh cB;by_cases hlen:(ay t.ns).length=amd.length
  ·have d1:(((ay t.ns).length:Int) != amd.length)=false:=by simp [hlen]
   (have NQ:Hid (FO t amd=if kN t amd then 9 else 0):=by unfold Hid;rw [qA.out,HFB.out,decide_eq_true hlen];cases kN t amd<;>rfl);clear hlen HFB qA;go_wp2_with fail;clear d1
   go_loopw [7] (fun i wr=>∃k:Nat,k<=(ay t.ns).length/\i=.int .i64 k/\Hid (QD w2 wr)/\Hid (∀j,j<k->decide (dD amd (gs t.ns (gi (ay t.ns) j).toNat)<0)=false)) (fun i _=>(ay t.ns).length - (intOf i).toNat)
   case atStart=>exact ⟨0,aF _,rfl,QD.refl _,fun j hj=>absurd hj (aZ _)⟩
   case round =>
    obtain ⟨k,hk,rfl,hQ,hd⟩:=hrel;obtain ⟨wo,rfl⟩:=eM wr;by_cases hlt:k<(ay t.ns).length
    ·obtain ⟨n,EE,hn2,hn0⟩:=vg hlt
     obtain ⟨xb,xo,rfl,qx⟩:=bU HL.out hlt;obtain ⟨sb,so,rfl,hcs⟩:=cH oB.out hn2;have hq:=hQ.out.up.cell HQ.out;replace qx:=hQ.out.up.cell qx;replace hcs:=hQ.out.up.cell hcs;rw [EE] at qx;have qV:Hid (∀m,Calls Tryz.prog 143 #[.slice mp amd.length mc,.string (gs t.ns n)] (wo.drewN m) fun e w''=>e=.returned (.int .i64 (dD amd (gs t.ns n)))/\∃m',w''=wo.drewN m'):=fun m =>
      (Ky T (wo.drewN m) _ amd (gs t.ns n) (aj.keep ML.out ((hQ.out.up.trans (Up.drewN _ m)).kept T)) OW.out).mono fun e w' ⟨h4,h5⟩=>⟨h4,m,h5.symm⟩
     (have mG:Hid (dD amd (gs t.ns n)<0->kN t amd=true):=fun h=>by rw [jk.out];exact wC hlt (by rw [EE];exact decide_eq_true h));(have nB:Hid (¬dD amd (gs t.ns n)<0->∀j,j<k+1->decide (dD amd (gs t.ns (gi (ay t.ns) j).toNat)<0)=false):=fun h j hj=>if e:j=k then by subst e;rw [EE];exact decide_eq_false h else hd.out j (by omega));(have i1:(0:Int)<=(k:Int):=by omega);(have i2:(k:Int)<((ay t.ns).length:Int):=by omega);(have i3:(0:Int)<=(n:Int):=by omega);(have i4:(n:Int)<(t.ns.length:Int):=by omega);(have i5:(k:Int)<1000000:=by have:=dG.out;omega);have aR:=aa hlt;clear hd EE hn2 hn0 hlt hk;generalize dD amd (gs t.ns n)=f at *;by_cases hf:f<0
     ·have d2:decide (f<0)=true:=decide_eq_true hf
      have HX:=aa (mG.out hf);clear mG nB hf;go_wp2;(go_quiet (with_reducible exact qV.out _));go_wp2;go_ret;exact ⟨aC (by rw [NQ.out,HX.out];rfl),b7.out.trans (hQ.out.drewN _).up⟩
     ·have d2:decide (f<0)=false:=decide_eq_false hf
      have HX:=aa (nB.out hf);clear mG nB hf;go_wp2;(go_quiet (with_reducible exact qV.out _));go_wp2
      go_roundw
      case rel=>exact ⟨k+1,aR.out,by go_num,hQ.out.drewN _,HX.out⟩
      case measure=>have:=aR.out;simp [intOf];omega
    ·obtain rfl:k=(ay t.ns).length:=by omega
     (have HX:Hid (kN t amd=false):=by unfold Hid;rw [jk.out];exact any_none hd.out);clear hd hlt;go_wp2;go_ret;exact ⟨aC (by rw [NQ.out,HX.out];rfl),b7.out.trans hQ.out.up⟩
  ·have d1:(((ay t.ns).length:Int) != amd.length)=true:=by simp;omega
   (have NQ:Hid (FO t amd=9):=by unfold Hid;rw [qA.out,HFB.out,decide_eq_false hlen];rfl);clear hlen HFB qA;go_wp2;go_ret;exact ⟨aC NQ.out.symm,b7.out⟩
end
end Go.Proofs.YthgabkgmkolobaaGreat
