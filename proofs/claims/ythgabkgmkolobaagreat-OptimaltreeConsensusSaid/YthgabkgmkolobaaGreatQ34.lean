/- optimaltree: Count, leaf, checkNames, .. -/
import Derived.Test.YthgabkgmkolobaaGreatQ33
set_option maxRecDepth 100000
set_option maxHeartbeats 2000000
namespace Go.Proofs.YthgabkgmkolobaaGreat
section
open Go.RowKit Go.Deep
def vI:Nat->Int
 | 0=>1
 | m+1=>vI m*(2*(m:Int)+3)
def WK (n:Int):Int:=if n<2\/7<n then 2 else 0
def WL (n:Int):Int:=if n<2\/7<n then 0 else vI (n - 3).toNat
theorem Zy (n:Int) (hn:-9223372036854775808<=n/\n<=9223372036854775807) (w:World):Calls Tryz.prog 28 #[.int .i64 n] w fun e w'=>e=.returned (.tuple #[.int .i64 (WL n),.int .i64 (WK n)])/\w=w':=by
 have HC:Hid (WK n=if n<2\/7<n then 2 else 0):=rfl;have HR:Hid (WL n=if n<2\/7<n then 0 else vI (n - 3).toNat):=rfl;by_cases h1:n<2
 ·go_in
  go_wp2;go_ret2;rw [HC.out,HR.out,if_pos (.inl h1),if_pos (.inl h1)];exact ⟨rfl,rfl⟩
 by_cases h2:7<n
 ·go_in
  go_wp2;go_ret2;rw [HC.out,HR.out,if_pos (.inr h2),if_pos (.inr h2)];exact ⟨rfl,rfl⟩
 obtain ⟨k,rfl⟩:∃k:Nat,n=k:=⟨n.toNat,by omega⟩;have HF:Hid (WK (k:Int)=0/\WL (k:Int)=vI (k - 3)):=by unfold Hid;rw [HC.out,HR.out,if_neg (by omega),if_neg (by omega),show ((k:Int) - 3).toNat=k - 3 by omega];exact ⟨rfl,rfl⟩
 clear HC HR hn;have hk:k=2\/k=3\/k=4\/k=5\/k=6\/k=7:=by omega
 have e0:=HF.out.1;have e1:=HF.out.2;rw [e0,e1];clear HF e0 e1;go_in;go_wp2
 go_loop [4,5] (fun o i=>∃m:Nat,m<=k - 3/\i=.int .i64 (2*(m:Int)+3)/\o=.int .i64 (vI m)) (fun _ i=>20 - (intOf i).toNat)
 case atStart=>exact ⟨0,aF _,rfl,rfl⟩
 case round =>
  obtain ⟨m,hm,rfl,rfl⟩:=hrel;have RN:m<=4:=by omega
  by_cases hlt:m<k - 3
  ·have hb:vI (m+1)=vI m*(2*(m:Int)+3)/\1<=vI m/\vI m<=105/\1<=vI (m+1)/\vI (m+1)<=945:=by
    have:m=0\/m=1\/m=2\/m=3:=by omega
    rcases this with rfl | rfl | rfl | rfl<;>refine ⟨rfl,by decide,by decide,by decide,by decide⟩
   obtain ⟨b0,b1,b2,b3,b4⟩:=hb
   have hc:2*(m:Int)+3<=2*(k:Int) - 5:=by omega
   generalize hcm:vI (m+1)=c' at *
   generalize vI m=c at *
   go_wp2
   go_round
   case rel=>exact ⟨m+1,hlt,by go_num,by rw [hcm,b0]⟩
   case measure=>simp [intOf];omega
  ·obtain rfl:m=k - 3:=by omega
   (have hc:¬2*((k - 3:Nat):Int)+3<=2*(k:Int) - 5:=by omega);go_wp2;go_ret2;exact ⟨rfl,rfl⟩
theorem acE (w:World) (s:ByteArray) (hz:s.size<=70000) :
  Calls Tryz.prog 139 #[.string s] w fun e w'=>e=.returned (.bool (bq s.data.toList))/\Up w w':=by
 have hu:=(Up.alloc w (.cells #[.int .i64 (-1)] 3)).trans (Up.alloc _ (.cells #[.string s] 9));have HU:=aa hu
 have HC:=aa (yj Any _ _ (pQ s) (ahc w s) (by simp [pQ]) (by simp [pQ]) (fun k=>by
  unfold pQ gs;cases k<;>simp;exact hz))
 have HX:=aa (ae0 s);clear hu;go_in;go_wp2_with fail;generalize (w.alloc (.cells #[.int .i64 (-1)] 3)).alloc (.cells #[.string s] 9)=w1 at *;refine HC.out.mono ?_;rintro e w2 ⟨rfl,hb⟩;have b7:=aa (HU.out.trans (show Up w1 w2 from hb));clear hb HC HU;go_wp2;go_ret;exact ⟨aO HX.out,b7.out⟩
theorem CE (S:Nat->Prop) (w:World) (v:Value) (amd:List ByteArray) (h:aj S w v amd) (hn:amd.length<=1000000) (hz:∀k,(gs amd k).size<=70000) :
  Calls Tryz.prog 89 #[v] w fun e w'=>e=.returned (.int .i64 (eL amd))/\Up w w':=by
 obtain ⟨p,cap,rfl,hcap,_⟩:=aq.open h;have h:aj S w (.slice p amd.length cap) amd:=h;have HC:Hid (eL amd=if amd.length<2\/7<amd.length then 4 else bf (gW amd) amd.length):=rfl;have HN:=aa h;have HZ:=aa hz;clear h hz;by_cases h1:amd.length<2
 ·go_in
  go_wp2;go_ret;exact ⟨aC (by rw [HC.out,if_pos (.inl h1)]),Up.refl _⟩
 by_cases h2:7<amd.length
 ·go_in
  go_wp2;go_ret;exact ⟨aC (by rw [HC.out,if_pos (.inr h2)]),Up.refl _⟩
 have HF:Hid (eL amd=bf (gW amd) amd.length):=by unfold Hid;rw [HC.out,if_neg (by omega)]
 clear HC;have ve:Hid (∀k,k<amd.length->(∀j,j<k->gW amd j=0)->gW amd k≠0->eL amd=gW amd k):=fun k hk hj h0=>by rw [HF.out,eX hk hj h0]
 go_in;go_wp2
 go_loopw [3,4,15] (fun _ _ i wr=>∃k:Nat,k<=amd.length/\i=.int .i64 k/\Hid (Up w wr/\∀j,j<k->gW amd j=0)) (fun _ _ i _=>amd.length - (intOf i).toNat)
 case atStart=>exact ⟨0,aF _,rfl,Up.refl _,fun j hj=>absurd hj (aZ _)⟩
 case round =>
  obtain ⟨k,hk,rfl,hd⟩:=hrel;obtain ⟨wo,rfl⟩:=eM wr;by_cases hlt:k<amd.length
  ·have RO:=aj.keep HN.out (hd.out.1.kept S)
   obtain ⟨Ei,no,rfl,hc⟩:=cH RO hlt;have ij:=aa (acE wo (gs amd k) (HZ.out k));have zh:Hid (∀W,Up wo W->Calls Tryz.prog 32 #[.slice (some ⟨Ei,no,none⟩) k cap,.string (gs amd k)] W fun e w'=>e=.returned (.bool (cW amd k))/\W=w'):=fun W hW=>by
    have h:=jU S W _ k (fun j=>gs amd j) (gs amd k) (E3 (aj.keep RO (hW.kept S)) hk) (by omega)
    rwa [Rx] at h
   have zJ:=aa (ve.out k hlt hd.out.2);have zK:Hid (gW amd k=if bq (gs amd k).data.toList then (if cW amd k then 7 else 0) else 14):=rfl;generalize gs amd k=nm at *;generalize cW amd k=bs at *;generalize bq nm.data.toList=bn at *;clear RO;cases bn
   ·have HE:Hid (gW amd k=14):=zK.out
    go_wp2_with fail;refine ij.out.mono ?_;rintro e w1 ⟨rfl,bK⟩;have cB:=aa (hd.out.1.trans bK);clear bK;go_wp2;go_ret;exact ⟨aC ((zJ.out (by rw [HE.out];decide)).trans HE.out).symm,cB.out⟩
   ·cases bs
    ·have HE:Hid (gW amd k=0):=zK.out
     go_wp2_with fail;refine ij.out.mono ?_;rintro e w1 ⟨rfl,bK⟩;have cB:=aa (hd.out.1.trans bK);have IV:=aa (zh.out w1 bK);clear bK;go_wp2_with (go_at_call 32;refine IV.out.mono ?_;rintro e w' ⟨rfl,rfl⟩)
     go_roundw
     case rel=>exact ⟨k+1,by omega,by go_num,cB.out,fun j hj=>if e:j=k then by subst e;exact HE.out else hd.out.2 j (by omega)⟩
     case measure=>simp [intOf];omega
    ·have HE:Hid (gW amd k=7):=zK.out
     go_wp2_with fail;refine ij.out.mono ?_;rintro e w1 ⟨rfl,bK⟩;have cB:=aa (hd.out.1.trans bK);have IV:=aa (zh.out w1 bK);clear bK;go_wp2_with (go_at_call 32;refine IV.out.mono ?_;rintro e w' ⟨rfl,rfl⟩);go_ret;exact ⟨aC ((zJ.out (by rw [HE.out];decide)).trans HE.out).symm,cB.out⟩
  ·obtain rfl:k=amd.length:=by omega
   (have EH:Hid (eL amd=0):=by unfold Hid;rw [HF.out,cG hd.out.2]);go_wp2;go_ret;exact ⟨aC EH.out.symm,hd.out.1⟩
theorem Zz (S:Nat->Prop) (w:World) (v vs:Value) (amd:List ByteArray) (ame:List (List Int)) (h:aj S w v amd) (hn:amd.length<=1000000) (hz:∀k,(gs amd k).size<=70000) (hS:aT S w vs ame) (B6:ame.length<=1000000) (hr:∀k,(gl ame k).length<=1000000) :
  Calls Tryz.prog 67 #[v,vs] w fun e w'=>e=.returned (.int .i64 (mJ amd ame))/\Up w w':=by
 have HC:Hid (mJ amd ame=if eL amd≠0 then eL amd else if kz ame≠0 then 1 else if ame.length≠amd.length then 9 else 0):=rfl;have ij:=aa (CE S w v amd h hn hz);obtain ⟨p,cap,rfl,hcap,_⟩:=aq.open h;obtain ⟨q,d,rfl,hd,_⟩:=dy hS;have Kt:Hid (∀W,Up w W->Calls Tryz.prog 70 #[.slice q ame.length d] W fun e w'=>e=.returned (.int .i64 (kz ame))/\W=w'):=fun W hW=>Mg S W _ ame (aT.keep hS (hW.kept S)) B6 hr;clear h hS hz hr;go_in;go_wp2_with fail;refine ij.out.mono ?_;rintro e w1 ⟨rfl,bK⟩;have cB:=aa bK;have aj2:=aa (Kt.out w1 bK);clear bK;by_cases c1:eL amd=0
 ·have lZ:Hid (mJ amd ame=if kz ame≠0 then 1 else if ame.length≠amd.length then 9 else 0):=by unfold Hid;rw [HC.out,if_neg (by omega)]
  rw [c1];clear HC c1 ij Kt;go_wp2_with fail;refine aj2.out.mono ?_;rintro e w' ⟨rfl,rfl⟩;generalize kz ame=a at *;by_cases c2:a=0
  ·subst c2
   by_cases c3:ame.length=amd.length
   ·have d3:(ame.length:Int)=(amd.length:Int):=by omega
    go_wp2;go_ret;exact ⟨aC (by rw [lZ.out,if_neg (by omega),if_neg (by omega)]),cB.out⟩
   ·have d3:¬(ame.length:Int)=(amd.length:Int):=by omega
    go_wp2;go_ret;exact ⟨aC (by rw [lZ.out,if_neg (by omega),if_pos c3]),cB.out⟩
  ·go_wp2
   go_ret;exact ⟨aC (by rw [lZ.out,if_pos c2]),cB.out⟩
 ·generalize eL amd=a at *
  go_wp2;go_ret;exact ⟨aC (by rw [HC.out,if_pos c1]),cB.out⟩
end
section
def uN (n:Int) (s:List Int) (i:Nat):Bool:=decide (gi s i=0) || decide (n<=gi s i)
theorem WM (n:Int) (s:List Int):aV n s=if n<1\/32<n then 2 else if gM s≠0 then gM s else if (List.range s.length).any (uN n s) then 2 else if (s.length:Int)<2\/n - 2<s.length then 8 else 0:=by
 unfold aV;by_cases c1:n<1\/32<n
 ·rw [if_pos c1,if_pos c1]
 rw [if_neg c1,if_neg c1];by_cases c2:gM s=0
 ·have hs:=jx.1 c2
  have hc:¬(gM s≠0):=fun e=>e c2;rw [if_neg hc,if_neg hc];have key:(0<s.length/\(gi s 0=0\/n<=gi s (s.length - 1)))↔(List.range s.length).any (uN n s)=true:=by
   rw [dx];constructor
   ·rintro ⟨h0,h | h⟩
    ·exact ⟨0,bu.2 h0,by unfold uN;rw [decide_eq_true h];rfl⟩
    ·exact ⟨s.length - 1,bu.2 (by omega),by unfold uN;rw [decide_eq_true h];simp⟩
   ·rintro ⟨i,hi,e⟩
    have hi:=bu.1 hi;have hb:=QS hs (gi_in hi);have h63:=hs.bd _ (gi_in (show 0<s.length by omega));unfold uN at e;rw [s7,decide_eq_true_eq,decide_eq_true_eq] at e;refine ⟨by omega,?_⟩;rcases e with e | e
    ·exact .inl (by omega)
    ·exact .inr (by omega)
  by_cases c3:0<s.length/\(gi s 0=0\/n<=gi s (s.length - 1))
  ·rw [if_pos c3,if_pos (key.1 c3)]
  ·rw [if_neg c3,if_neg (fun e=>c3 (key.2 e))]
 ·rw [if_pos c2,if_pos c2]
def iV (a b:List Int):Bool:=a.all fun x=>b.contains x
theorem pR {a b:List Int}:iV a b=true↔∀x∈a,x∈b:=by
 unfold iV;rw [s8];exact ⟨fun h x hx=>dU.1 (h x hx),fun h x hx=>dU.2 (h x hx)⟩
theorem acF {a b:List Int} (ha:eD a) (hb:eD b):(decide ((a.filter (fun x=>b.contains x)).length=0) || (iV a b || iV b a))=jo a b:=by
 rw [mW,AG ha hb,s7,s7,decide_eq_true_eq,pR,pR];have:(a.filter (fun x=>b.contains x)).length=0↔∀x∈a,x∉b:=by rw [xO,List.filter_eq_nil_iff];exact ⟨fun h x hx hy=>h x hx (dU.2 hy),fun h x hx e=>h x hx (dU.1 e)⟩
 rw [this]
end
section
open Go.RowKit Go.Deep
theorem Gj (S:Nat->Prop) (w:World) (v:Value) (l:List Int) (h:af S w v l) (hn:l.length<=1000000) :
  Calls Tryz.prog 209 #[v] w fun e w'=>e=.returned (.int .i64 (gM l))/\QD w w':=by
 have HF:Hid (gM l=bf (k9 l) l.length):=rfl;have HB:Hid (∀i,k9 l i=if gi l i<0\/63<gi l i then 2 else if 0<i/\gi l i<=gi l (i - 1) then 10 else 0):=fun _=>rfl;obtain ⟨p,cap,rfl,-,-⟩:=aq.open h;have H:Hid (af S w (.slice p l.length cap) l):=h;clear h;go_in;go_wp2
 go_loopw [3] (fun i wr=>∃k:Nat,k<=l.length/\i=.int .i64 k/\Hid (QD w wr)/\Hid (∀j,j<k->k9 l j=0)) (fun i _=>l.length - (intOf i).toNat)
 case atStart=>exact ⟨0,aF _,rfl,QD.refl _,fun j hj=>absurd hj (aZ _)⟩
 case round =>
  obtain ⟨k,hk,rfl,hQ,hd⟩:=hrel;obtain ⟨wo,rfl⟩:=eM wr;by_cases hlt:k<l.length
  ·obtain ⟨b,off,rfl,hc⟩:=bU (af.keep H.out (hQ.out.kept S)) hlt
   have HK:=aa (HB.out k);(have HP:Hid (0<k->wo.cell? ⟨b,off+(k - 1),none⟩=some (.int .i64 (gi l (k - 1)))):=fun h0=>by obtain ⟨b2,off2,e,hc2⟩:=bU (af.keep H.out (hQ.out.kept S)) (k:=k - 1) (by omega);cases e;exact hc2);(have mG:Hid (∀r,k9 l k=r->r≠0->gM l=r):=fun r e h0=>by rw [HF.out,eX hlt hd.out (by rw [e];exact h0),e]);(have Ej:Hid (k9 l k=0->∀j,j<k+1->k9 l j=0):=fun e j hj=>if ej:j=k then by subst ej;exact e else hd.out j (by omega));have aR:=aa hlt;(have i1:(0:Int)<=(k:Int):=by omega);(have i2:(k:Int)<(l.length:Int):=by omega);(have i3:(k:Int)<1000000:=by omega);generalize gi l k=x at *;generalize gi l (k - 1)=y at *;by_cases h1:x<0
   ·have e1:decide (x<0)=true:=decide_eq_true h1
    have HR:=aa (mG.out 2 (by rw [HK.out,if_pos (.inl h1)]) (by decide));clear h1;go_wp2;go_ret;exact ⟨aC (by rw [HR.out]),hQ.out⟩
   have e1:decide (x<0)=false:=decide_eq_false h1;by_cases h2:63<x
   ·have e2:decide (63<x)=true:=decide_eq_true h2
    have HR:=aa (mG.out 2 (by rw [HK.out,if_pos (.inr h2)]) (by decide));clear h1 h2;go_wp2;go_ret;exact ⟨aC (by rw [HR.out]),hQ.out⟩
   have e2:decide (63<x)=false:=decide_eq_false h2;(have HX:Hid (¬(x<0\/63<x)):=by unfold Hid;omega);clear h1 h2 hlt hk;by_cases h0:k=0
   ·have d0:decide ((0:Int)<(k:Int))=false:=decide_eq_false (by omega)
    have d1:decide (0<k)=false:=decide_eq_false (by omega);have HR:=aa (Ej.out (by rw [HK.out,if_neg HX.out,if_neg (by omega)]));clear h0;go_wp2_with fail;(go_big_quiet (fail));go_wp2
    go_roundw
    case rel=>exact ⟨k+1,aR.out,by go_num,hQ.out.drewN nq,HR.out⟩
    case measure=>have:=aR.out;simp [intOf];omega
   ·have qw:=HP.out (by omega)
    have d0:decide ((0:Int)<(k:Int))=true:=decide_eq_true (by omega);have d1:decide (0<k)=true:=decide_eq_true (by omega);(have k1:(k:Int) - 1=((k - 1:Nat):Int):=by omega);(have k2:(0:Int)<=((k - 1:Nat):Int):=by omega);(have k3:((k - 1:Nat):Int)<(l.length:Int):=by omega);by_cases h3:x<=y
    ·have e3:decide (x<=y)=true:=decide_eq_true h3
     have HR:=aa (mG.out 10 (by rw [HK.out,if_neg HX.out,if_pos ⟨by omega,h3⟩]) (by decide));clear h0 h3;go_wp2_with fail;(go_big_quiet (fail));go_wp2;go_ret;exact ⟨aC (by rw [HR.out]),hQ.out.drewN nq⟩
    ·have e3:decide (x<=y)=false:=decide_eq_false h3
     have HR:=aa (Ej.out (by rw [HK.out,if_neg HX.out,if_neg (fun q=>h3 q.2)]));clear h0 h3;go_wp2_with fail;(go_big_quiet (fail));go_wp2
     go_roundw
     case rel=>exact ⟨k+1,aR.out,by clear k1;go_num,hQ.out.drewN nq,HR.out⟩
     case measure=>have:=aR.out;clear k1;simp [intOf];omega
  ·obtain rfl:k=l.length:=by omega
   (have HR:Hid (gM l=0):=by unfold Hid;rw [HF.out,cG hd.out]);clear hlt hk;go_wp2;go_ret;exact ⟨aC (by rw [HR.out]),hQ.out⟩
theorem aiO {a b c:World} (h:QD a b) (k:QD b c):QD a c:=by
 obtain ⟨m,rfl⟩:=h;obtain ⟨n,rfl⟩:=k;exact ⟨m+n,by rw [kY]⟩
theorem ae4 {l:List Int} {x:Int} {k:Nat} (hk:k<l.length) (e:gi l k=x):l.contains x=true:=dU.2 (by rw [<- e];exact gi_in hk)
theorem ae5 {l:List Int} {x:Int} (h:∀j,j<l.length->gi l j≠x):l.contains x=false:=by
 rw [rN];intro e;obtain ⟨k,hk,e2⟩:=Dm (dU.1 e);exact h k hk e2
theorem CF (S:Nat->Prop) (w:World) (v:Value) (l:List Int) (x:Int) (h:af S w v l) (hn:l.length<=1000000) :
  Calls Tryz.prog 153 #[v,.int .i64 x] w fun e w'=>e=.returned (.bool (l.contains x))/\w=w':=by
 obtain ⟨p,cap,rfl,-,-⟩:=aq.open h;have H:Hid (af S w (.slice p l.length cap) l):=h;have HT:Hid (∀k,k<l.length->gi l k=x->l.contains x=true):=fun k hk e=>ae4 hk e;have HF:Hid ((∀j,j<l.length->gi l j≠x)->l.contains x=false):=fun h=>ae5 h;clear h;generalize l.contains x=r at *;go_in;go_wp2
 go_loop [5] (fun i=>∃k:Nat,k<=l.length/\i=.int .i64 k/\Hid (∀j,j<k->gi l j≠x)) (fun i=>l.length - (intOf i).toNat)
 case atStart=>exact ⟨0,aF _,rfl,fun j hj=>absurd hj (aZ _)⟩
 case round =>
  obtain ⟨k,hk,rfl,hd⟩:=hrel;by_cases hlt:k<l.length
  ·obtain ⟨b,off,rfl,hc⟩:=bU H.out hlt
   (have i1:(0:Int)<=(k:Int):=by omega);(have i2:(k:Int)<(l.length:Int):=by omega);have sV:=aa (HT.out k hlt);(have Ej:Hid (gi l k≠x->∀j,j<k+1->gi l j≠x):=fun e j hj=>if ej:j=k then by subst ej;exact e else hd.out j (by omega));generalize gi l k=y at *;by_cases h1:y=x
   ·have e1:(y==x)=true:=by simpa using h1
    have HR:=aa (sV.out h1);clear h1;go_wp2;go_ret;exact ⟨aO HR.out.symm,rfl⟩
   ·have e1:(y==x)=false:=by simpa using h1
    have HR:=aa (Ej.out h1);clear h1;go_wp2
    go_round
    case rel=>exact ⟨k+1,by omega,by go_num,HR.out⟩
    case measure=>simp [intOf];omega
  ·obtain rfl:k=l.length:=by omega
   have HR:=aa (HF.out hd.out);clear hlt hk;go_wp2;go_ret;exact ⟨aO HR.out.symm,rfl⟩
theorem LB (S T:Nat->Prop) (w:World) (v u:Value) (a b:List Int) (h:af S w v a) (h2:af T w u b) (hn:a.length<=1000000) (hm:b.length<=1000000) (ha:eD a) (hb:eD b) :
  Calls Tryz.prog 257 #[v,u] w fun e w'=>e=.returned (.bool false)/\QD w w':=by
 have H1:=aa (Gj S w v a h hn);have H2:Hid (∀W,QD w W->Calls Tryz.prog 209 #[u] W fun e w'=>e=.returned (.int .i64 (gM b))/\QD W w'):=fun W hW=>Gj T W u b (af.keep h2 (hW.kept _)) hm;rw [jx.2 ha] at H1;rw [jx.2 hb] at H2;obtain ⟨p,cap,rfl,-,-⟩:=aq.open h;obtain ⟨q,qI,rfl,-,-⟩:=aq.open h2;clear h h2;go_in;go_wp2_with fail;refine H1.out.mono ?_;rintro e w1 ⟨rfl,hq1⟩;have tS:=aa hq1;clear hq1;go_wp2_with fail;refine (H2.out w1 tS.out).mono ?_;rintro e w2 ⟨rfl,j8⟩;have Zn:Hid (QD w w2):=aiO tS.out j8;clear j8;go_wp2;go_ret;exact ⟨rfl,Zn.out⟩
def vJ (a b:List Int) (k:Nat):List Int:=(a.take k).filter fun x=>b.contains x
theorem ZA {a b:List Int} {k:Nat} (hk:k<a.length):vJ a b (k+1)=vJ a b k++if b.contains (gi a k) then [gi a k] else []:=by
 unfold vJ;have hg:gi a k=a[k]:=by simp [gi,hk]
 rw [jQ hk,rO,<- hg];congr 1;cases h:b.contains (gi a k)
 ·rw [FY (by rw [h];decide)];rfl
 ·rw [FZ h];rfl
theorem ZB (S T:Nat->Prop) (w:World) (v u:Value) (a b:List Int) (h:af S w v a) (h2:af T w u b) (hn:a.length<=1000000) (hm:b.length<=1000000) (ha:eD a) (hb:eD b) :
  Calls Tryz.prog 255 #[v,u] w fun e w'=>Up w w'/\∃x,e=.returned (.tuple #[x,.int .i64 0])/\af Any w' x (a.filter fun x=>b.contains x):=by
 have H1:=aa (LB S T w v u a b h h2 hn hm ha hb);obtain ⟨p,cap,rfl,-,-⟩:=aq.open h;obtain ⟨q,qI,rfl,-,-⟩:=aq.open h2;have HA:Hid (af S w (.slice p a.length cap) a):=h;have HH:Hid (∀W (x:Int),Up w W->Calls Tryz.prog 153 #[.slice q b.length qI,.int .i64 x] W fun e w'=>e=.returned (.bool (b.contains x))/\W=w'):=fun W x hW=>CF T W _ b x (af.keep h2 (hW.kept _)) hm;clear h h2 ha hb;go_in;go_wp2_with fail;refine H1.out.mono ?_;rintro e w1 ⟨rfl,hq1⟩;have cB:=aa hq1.up;have HM:=aa (au.made w1 3);clear hq1 H1;go_wp2
 go_loopw [6,7] (fun o i wr=>∃k:Nat,k<=a.length/\i=.int .i64 k/\Hid (au w1.heap.size 3 wr o ((vJ a b k).map (Value.int .i64)))/\Hid (Up w1 wr)) (fun _ i _=>a.length - (intOf i).toNat)
 case atStart=>exact ⟨0,aF _,rfl,HM.out,Up.alloc _ _⟩
 case round =>
  obtain ⟨k,hk,rfl,hO,cz⟩:=hrel;obtain ⟨wo,rfl⟩:=eM wr;by_cases hlt:k<a.length
  ·obtain ⟨b1,off,rfl,hc⟩:=bU (af.keep HA.out ((cB.out.trans cz.out).kept S)) hlt
   have su:=aa (ZA (b:=b) hlt);have wQ:=aa (HH.out wo (gi a k) (cB.out.trans cz.out));(have i1:(0:Int)<=(k:Int):=by omega);(have i2:(k:Int)<(a.length:Int):=by omega);(have i3:(k:Int)<1000000:=by omega);have aR:=aa hlt;have hsz:=cz.out.size;have dG:Hid (((vJ a b k).map (Value.int .i64)).length=(vJ a b k).length):=aD _;(have eO:Hid ((vJ a b k).length<=1000000):=by have h1:(vJ a b k).length<=(a.take k).length:=mN _ _;rw [jl] at h1;unfold Hid;omega);have nX:=aa cz.out;cases hcc:b.contains (gi a k)
   ·rw [hcc] at wQ
    (have HS:Hid (vJ a b (k+1)=vJ a b k):=by unfold Hid;rw [su.out,hcc];simp);clear hlt hk cz hcc su;generalize gi a k=x at *;go_wp2_with fail;refine wQ.out.mono ?_;rintro e w' ⟨rfl,rfl⟩;go_wp2
    go_roundw
    case rel=>exact ⟨k+1,aR.out,by go_num,by unfold Hid;rw [HS.out];exact hO.out,nX.out⟩
    case measure=>have:=aR.out;simp [intOf];omega
   ·rw [hcc] at wQ
    (have HS:Hid (vJ a b (k+1)=vJ a b k++[gi a k]):=by unfold Hid;rw [su.out,hcc];simp);clear hlt hk cz hcc su;generalize gi a k=x at *;go_wp2_with fail;refine wQ.out.mono ?_;rintro e w' ⟨rfl,rfl⟩;go_wp2_with (at_builtin;refine qg wo rfl _ _ 26 rfl w1.heap.size 3 (.int .i64 0) 8 Tryz.underlying26 Tryz.iD rfl (by decide) hO.out rfl (.int .i64 x) _ rfl rfl rfl _ dG.out eO.out hsz ?_;intro g8 kM w8 hown1 acG gC)
    go_roundw
    case rel=>exact ⟨k+1,aR.out,by go_num,by unfold Hid;rw [HS.out,cg];exact hown1,iz nX.out gC⟩
    case measure=>have:=aR.out;simp [intOf];omega
  ·obtain rfl:k=a.length:=by omega
   have Ku:=hO.out;unfold vJ at Ku;rw [fT] at Ku;have HR:=aa (af.sub (au.ints Ku) (T:=Any) fun _ _ _=>trivial);have lu:=aa (cB.out.trans cz.out);clear hlt hk hO Ku cz;go_wp2_with fail;exact ⟨rfl,.tuple #[_,.int .i64 0],by simp [results,Tryz.results255,go_sem],lu.out,_,rfl,HR.out⟩
theorem ahw {a b:List Int} {k:Nat} (hk:k<a.length) (e:b.contains (gi a k)=false):iV a b=false:=by
 rw [rN];intro h;rw [dU.2 (pR.1 h _ (gi_in hk))] at e;cases e
theorem ae6 {a b:List Int} (h:∀j,j<a.length->b.contains (gi a j)=true):iV a b=true:=pR.2 fun x hx=>by
 obtain ⟨k,hk,rfl⟩:=Dm hx
 exact dU.1 (h k hk)
theorem WN (S T:Nat->Prop) (w:World) (v u:Value) (a b:List Int) (h:af S w v a) (h2:af T w u b) (hn:a.length<=1000000) (hm:b.length<=1000000) (ha:eD a) (hb:eD b) :
  Calls Tryz.prog 256 #[v,u] w fun e w'=>e=.returned (.tuple #[.bool (iV a b),.int .i64 0])/\QD w w':=by
 have H1:=aa (LB S T w v u a b h h2 hn hm ha hb);obtain ⟨p,cap,rfl,-,-⟩:=aq.open h;obtain ⟨q,qI,rfl,-,-⟩:=aq.open h2;have HA:Hid (af S w (.slice p a.length cap) a):=h;have HH:Hid (∀W (x:Int),QD w W->Calls Tryz.prog 153 #[.slice q b.length qI,.int .i64 x] W fun e w'=>e=.returned (.bool (b.contains x))/\W=w'):=fun W x hW=>CF T W _ b x (af.keep h2 (hW.kept _)) hm;have HT:Hid (∀k,k<a.length->b.contains (gi a k)=false->iV a b=false):=fun k hk e=>ahw hk e;have HF:Hid ((∀j,j<a.length->b.contains (gi a j)=true)->iV a b=true):=fun h=>ae6 h;clear h h2 ha hb;generalize iV a b=r at *;go_in;go_wp2_with fail;refine H1.out.mono ?_;rintro e w1 ⟨rfl,hq1⟩;have tS:=aa hq1;clear hq1 H1;go_wp2
 go_loop [6] (fun i=>∃k:Nat,k<=a.length/\i=.int .i64 k/\Hid (∀j,j<k->b.contains (gi a j)=true)) (fun i=>a.length - (intOf i).toNat)
 case atStart=>exact ⟨0,aF _,rfl,fun j hj=>absurd hj (aZ _)⟩
 case round =>
  obtain ⟨k,hk,rfl,hd⟩:=hrel;by_cases hlt:k<a.length
  ·obtain ⟨b1,off,rfl,hc⟩:=bU (af.keep HA.out (tS.out.kept S)) hlt
   have wQ:=aa (HH.out w1 (gi a k) tS.out);have sV:=aa (HT.out k hlt);(have Ej:Hid (b.contains (gi a k)=true->∀j,j<k+1->b.contains (gi a j)=true):=fun e j hj=>if ej:j=k then by subst ej;exact e else hd.out j (by omega));(have i1:(0:Int)<=(k:Int):=by omega);(have i2:(k:Int)<(a.length:Int):=by omega);(have i3:(k:Int)<1000000:=by omega);generalize gi a k=x at *;generalize b.contains x=c at *;cases c
   ·have HR:=aa (sV.out rfl)
    go_wp2_with fail;refine wQ.out.mono ?_;rintro e w' ⟨rfl,rfl⟩;go_wp2_with fail;exact ⟨rfl,.tuple #[.bool false,.int .i64 0],by simp [results,Tryz.results256,go_sem],by rw [HR.out],tS.out⟩
   ·have HR:=aa (Ej.out rfl)
    go_wp2_with fail;refine wQ.out.mono ?_;rintro e w' ⟨rfl,rfl⟩;go_wp2
    go_round
    case rel=>exact ⟨k+1,by omega,by go_num,HR.out⟩
    case measure=>simp [intOf];omega
  ·obtain rfl:k=a.length:=by omega
   have HR:=aa (HF.out hd.out);clear hlt hk;go_wp2_with fail;exact ⟨rfl,.tuple #[.bool true,.int .i64 0],by simp [results,Tryz.results256,go_sem],by rw [HR.out],tS.out⟩
theorem zN (S T:Nat->Prop) (w:World) (v u:Value) (xs ys:List Int) (h:af S w v xs) (h2:af T w u ys) (hn:xs.length<=1000000) (hn2:ys.length<=1000000) :
  Calls Tryz.prog 157 #[v,u] w (Pb w (decide (xs=ys))):=by
 obtain ⟨p,cap,rfl,hcap,_⟩:=aq.open h;obtain ⟨q,dF,rfl,xP,_⟩:=aq.open h2;have HX:Hid (af S w (.slice p xs.length cap) xs):=h;have HY:Hid (af T w (.slice q ys.length dF) ys):=h2;clear h h2;by_cases hl:xs.length=ys.length
 ·have jC:((xs.length:Int) != ys.length)=false:=by simp [hl]
  have HL:=aa hl;clear hl;go_in;go_wp2
  go_loopw [5] (fun i wr=>∃k n:Nat,k<=xs.length/\i=.int .i64 k/\wr=w.drewN n/\Hid (∀j,j<k->gi xs j=gi ys j)) (fun i _=>xs.length - (intOf i).toNat)
  case atStart=>exact ⟨0,0,aF _,rfl,rfl,fun j hj=>absurd hj (aZ _)⟩
  case round =>
   obtain ⟨k,n,hk,rfl,rfl,hd⟩:=hrel;by_cases hlt:k<xs.length
   ·have hlt2:k<ys.length:=by rw [<- HL.out];exact hlt
    obtain ⟨b,off,rfl,hc⟩:=bU HX.out hlt;obtain ⟨b2,off2,rfl,hc2⟩:=bU HY.out hlt2;(have i1:(0:Int)<=(k:Int):=by omega);(have i2:(k:Int)<(xs.length:Int):=by omega);(have i3:(k:Int)<(ys.length:Int):=by omega);generalize hx:gi xs k=x at *;generalize hy:gi ys k=y at *;have EG:=aa hx;have XG:=aa hy;clear hx hy;by_cases hxy:x=y
    ·have aaJ:(x != y)=false:=by simp [hxy]
     have yI:=aa hxy;clear hxy;go_wp2;(go_quiet (fail));go_wp2
     go_roundw
     case rel=>exact ⟨k+1,n+nq,by omega,by go_num,rfl,fun j hj=>if e:j=k then by subst e;rw [EG.out,XG.out,yI.out] else hd.out j (by omega)⟩
     case measure=>simp [intOf];omega
    ·have aaJ:(x != y)=true:=by simpa using hxy
     have yI:=aa hxy;clear hxy;go_wp2;(go_quiet (fail));go_wp2;go_ret;refine ⟨aO ?_,n+nq,by rw [kY]⟩;rw [eq_comm,decide_eq_false_iff_not];rintro rfl;exact yI.out (by rw [<- EG.out,<- XG.out])
   ·obtain rfl:k=xs.length:=by omega
    clear hlt hk;have hex:xs=ys:=Ht HL.out hd.out;have XH:Hid (decide (xs=ys)=true):=decide_eq_true hex;clear hex;go_wp2;go_ret;exact ⟨aO (by rw [XH.out]),n,rfl⟩
 ·have jC:((xs.length:Int) != ys.length)=true:=by simp;omega
  have HL:=aa hl;clear hl;go_in;go_wp2;go_ret;refine ⟨aO ?_,0,rfl⟩;rw [eq_comm,decide_eq_false_iff_not];rintro rfl;exact HL.out rfl

def NJ (g:Nat) (lb args:Array Value) (res:Value) (w:World):Prop:=∀m,Calls Tryz.prog g (args++lb) (w.drewN m) fun e w'=>e=.returned res/\∃q,w'=w.drewN q
theorem ZC (g:Nat) (lb:Array Value) (eg:∀args w,(callFunc g args).run Tryz.prog w=.ok (.enter g args) w) (S:Nat->Prop) (w:World) (v:Value) (n:Nat) (f:Nat->Value) (p:Nat->Bool)
  (h:aq S w v n f) (hn:n<=1000000) (hp:∀k,k<n->NJ g lb #[f k] (.bool (p k)) w) :
  Calls Tryz.prog 117 #[v,.func (.func g) #[] lb] w fun e w'=>e=.returned (.int .i64 (dr p n))/\∃q,w'=w.drewN q:=by
 obtain ⟨q,cap,rfl,hcap,H⟩:=h.open;have HP:=aa hp;clear h hp;go_in;go_wp2
 go_loopw [5,8] (fun _ i wr=>∃k:Nat,k<=n/\i=.int .i64 k/\Hid (∀j,j<k->p j=false)/\Hid (∃m,wr=w.drewN m)) (fun _ i _=>n - (intOf i).toNat)
 case atStart=>exact ⟨0,aF _,rfl,fun j hj=>absurd hj (aZ _),0,rfl⟩
 case round =>
  obtain ⟨k,hk,rfl,hd,hm⟩:=hrel;obtain ⟨m,rfl⟩:=hm.out;clear hm;by_cases hlt:k<n
  ·obtain ⟨b,off,rfl,hc⟩:=H k hlt
   have hc:=(Up.drewN w m).cell hc;clear H;have hpk:=HP.out k hlt;unfold NJ at hpk;have r8:=aa (hpk m);clear hpk HP;generalize hv:p k=pk at *;have HV:=aa hv;clear hv;cases pk
   ·go_wp2_with fail
    refine r8.out.mono ?_;rintro e w' ⟨rfl,m2,rfl⟩;go_wp2
    go_roundw
    case rel=>exact ⟨k+1,by omega,by go_num,fun j hj=>if e:j=k then by subst e;exact HV.out else hd.out j (by omega),m2,rfl⟩
    case measure=>simp [intOf];omega
   ·go_wp2_with fail
    refine r8.out.mono ?_;rintro e w' ⟨rfl,m2,rfl⟩;go_wp2;go_ret;exact ⟨aC (gG hlt hd.out HV.out).symm,m2,rfl⟩
  ·clear H
   go_wp2;go_ret;exact ⟨aC (dZ fun j hj=>hd.out j (by omega)).symm,m,rfl⟩
theorem WO (g:Nat) (lb:Array Value) (eg:∀args w,(callFunc g args).run Tryz.prog w=.ok (.enter g args) w) (S:Nat->Prop) (w:World) (v:Value) (n:Nat) (f:Nat->Value) (p:Nat->Bool)
  (h:aq S w v n f) (hn:n<=1000000) (hp:∀k,k<n->NJ g lb #[f k] (.bool (p k)) w) :
  Calls Tryz.prog 63 #[v,.func (.func g) #[] lb] w fun e w'=>e=.returned (.bool ((List.range n).any p))/\∃q,w'=w.drewN q:=by
 have hx:=iK p n;have HX:=aa hx;have HI:=aa (ZC g lb eg S w v n f p h hn hp);obtain ⟨q,cap,rfl,-,-⟩:=aq.open h;clear hx hp h eg;go_in;go_wp2_with fail;refine HI.out.mono ?_;rintro e w' ⟨rfl,m,rfl⟩;go_wp2;go_ret;exact ⟨aO (by rw [<- HX.out]),m,rfl⟩
theorem ZE (g:Nat) (lb:Array Value) (eg:∀args w,(callFunc g args).run Tryz.prog w=.ok (.enter g args) w) (S:Nat->Prop) (w:World) (v:Value) (n:Nat) (f:Nat->Value) (p:Nat->Bool)
  (h:aq S w v n f) (hn:n<=1000000) (hp:∀k,k<n->NJ g lb #[f k] (.bool (p k)) w) :
  Calls Tryz.prog 88 #[v,.func (.func g) #[] lb] w fun e w'=>e=.returned (.int .i64 (dr p n))/\∃q,w'=w.drewN q:=by
 obtain ⟨q,cap,rfl,hcap,H⟩:=h.open;have HP:=aa hp;clear h hp;go_in;go_wp2
 go_loopw [5,8] (fun _ i wr=>∃k:Nat,k<=n/\i=.int .i64 k/\Hid (∀j,j<k->p j=false)/\Hid (∃m,wr=w.drewN m)) (fun _ i _=>n - (intOf i).toNat)
 case atStart=>exact ⟨0,aF _,rfl,fun j hj=>absurd hj (aZ _),0,rfl⟩
 case round =>
  obtain ⟨k,hk,rfl,hd,hm⟩:=hrel;obtain ⟨m,rfl⟩:=hm.out;clear hm;by_cases hlt:k<n
  ·obtain ⟨b,off,rfl,hc⟩:=H k hlt
   have hc:=(Up.drewN w m).cell hc;clear H;have hpk:=HP.out k hlt;unfold NJ at hpk;have r8:=aa (hpk m);clear hpk HP;generalize hv:p k=pk at *;have HV:=aa hv;clear hv;cases pk
   ·go_wp2_with fail
    refine r8.out.mono ?_;rintro e w' ⟨rfl,m2,rfl⟩;go_wp2
    go_roundw
    case rel=>exact ⟨k+1,by omega,by go_num,fun j hj=>if e:j=k then by subst e;exact HV.out else hd.out j (by omega),m2,rfl⟩
    case measure=>simp [intOf];omega
   ·go_wp2_with fail
    refine r8.out.mono ?_;rintro e w' ⟨rfl,m2,rfl⟩;go_wp2;go_ret;exact ⟨aC (gG hlt hd.out HV.out).symm,m2,rfl⟩
  ·clear H
   go_wp2;go_ret;exact ⟨aC (dZ fun j hj=>hd.out j (by omega)).symm,m,rfl⟩
theorem WQ (g:Nat) (lb:Array Value) (eg:∀args w,(callFunc g args).run Tryz.prog w=.ok (.enter g args) w) (S:Nat->Prop) (w:World) (v:Value) (n:Nat) (f:Nat->Value) (p:Nat->Bool)
  (h:aq S w v n f) (hn:n<=1000000) (hp:∀k,k<n->NJ g lb #[f k] (.bool (p k)) w) :
  Calls Tryz.prog 22 #[v,.func (.func g) #[] lb] w fun e w'=>e=.returned (.bool ((List.range n).any p))/\∃q,w'=w.drewN q:=by
 have hx:=iK p n;have HX:=aa hx;have HI:=aa (ZE g lb eg S w v n f p h hn hp);obtain ⟨q,cap,rfl,-,-⟩:=aq.open h;clear hx hp h eg;go_in;go_wp2_with fail;refine HI.out.mono ?_;rintro e w' ⟨rfl,m,rfl⟩;go_wp2;go_ret;exact ⟨aO (by rw [<- HX.out]),m,rfl⟩
def FL (amd:List ByteArray):Nat->List (ByteArray×Value)
 | 0=>[]
 | k+1=>vC (FL amd k) (gs amd k) (.bool true)
def BN (amd:List ByteArray) (k:Nat) (s:ByteArray):Bool:=(List.range k).any fun j=>decide (gs amd j=s)
theorem RP (amd:List ByteArray):∀k,AD (FL amd k)
 | 0=>List.nodup_nil
 | k+1=>MZ (RP amd k) _ _
theorem IW (amd:List ByteArray) (s:ByteArray):∀k,((FL amd k).lookup s).getD (.bool false)=.bool (BN amd k s)
 | 0=>rfl
 | k+1=>by
  rw [FL,GQ]
  have e:BN amd (k+1) s=(BN amd k s || decide (gs amd k=s)):=by unfold BN;rw [pU,List.any_append];simp
  rw [e]
  by_cases h:s=gs amd k
  ·rw [if_pos h,decide_eq_true h.symm];simp
  ·rw [if_neg h,IW amd s k,decide_eq_false (fun q=>h q.symm)];simp
theorem ae7 (amd:List ByteArray) (s:ByteArray):BN amd amd.length s=!decide (dD amd s<0):=by
 have h1:decide (0<=dD amd s)=(List.range amd.length).any fun j=>decide (s=gs amd j):=iK _ _;have h2:BN amd amd.length s=(List.range amd.length).any fun j=>decide (s=gs amd j):=by
  unfold BN;congr 1;funext j;by_cases e:gs amd j=s
  ·rw [decide_eq_true e,decide_eq_true e.symm]
  ·rw [decide_eq_false e,decide_eq_false fun q=>e q.symm]
 rw [h2,<- h1];by_cases h:dD amd s<0
 ·rw [decide_eq_true h,decide_eq_false (by omega)];rfl
 ·rw [decide_eq_false h,decide_eq_true (by omega)];rfl
theorem NK (w:World):(zeroValue 4).run Tryz.prog w=.ok (.bool false) w:=by simp [Tryz.zeroValue4]
theorem aiP (w:World) (S:Nat->Prop) (b8 bt mb:Nat) (np:Option Addr) (nc:Nat) (ns amd:List ByteArray) (k:Nat) (h8:w.cell? ⟨b8,0,none⟩=some (.map (some mb))) (hm:SMap w mb (FL amd amd.length)) (ht:w.cell? ⟨bt,1,none⟩=some (.slice np ns.length nc)) (hN:aj S w (.slice np ns.length nc) ns) (hk:k<ns.length) :
  NJ 84 #[.pointer (some ⟨b8,0,none⟩),.pointer (some ⟨bt,0,none⟩)] #[.int .i64 (k:Int)] (.bool (decide (dD amd (gs ns k)<0))) w:=by
 intro m;show Calls Tryz.prog 84 #[.int .i64 (k:Int),.pointer (some ⟨b8,0,none⟩),.pointer (some ⟨bt,0,none⟩)] (w.drewN m) _;have hd:=Up.drewN w m;obtain ⟨nb,no,rfl,c4⟩:=cH hN hk;have c1:=hd.cell h8;have c2:=hd.cell ht;have c4:=hd.cell c4;have k1:(0:Int)<=(k:Int):=vP _;have k2:(k:Int)<(ns.length:Int):=tX.2 hk;have hlk:∀n,(Instr.lookup 108 (.map (some mb)) (.string (gs ns k)) false).run Tryz.prog ((w.drewN m).drewN n)=.ok (.bool (!decide (dD amd (gs ns k)<0))) ((w.drewN m).drewN n):=fun n=>by have hm2:SMap ((w.drewN m).drewN n) mb (FL amd amd.length):=hm.same rfl;have h:=Fa (P:=Tryz.prog) Tryz.underlying108 Tryz.underlying9 (NK _) hm2 (gs ns k);rw [IW,ae7] at h;exact h
 obtain ⟨W,hW⟩:∃W,W=w.drewN m:=⟨_,rfl⟩;have HW:=aa hW;rw [<- hW] at c1 c2 c4 hlk ⊢;clear hd h8 hm ht hN hk hW;generalize gs ns k=s at *;generalize decide (dD amd s<0)=b at *;go_in;go_wp2_with fail;go_big_quiet (fail)
 go_wp2;go_ret;exact ⟨by cases b<;>rfl,m+nq,by rw [HW.out,kY]⟩
end
end Go.Proofs.YthgabkgmkolobaaGreat
