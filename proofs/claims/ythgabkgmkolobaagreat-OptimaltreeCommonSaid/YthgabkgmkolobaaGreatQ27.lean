/- The contracts of layer 31's reference's text and Print. The reference's reader of texts, .. -/
import Derived.Test.YthgabkgmkolobaaGreatQ18
set_option maxRecDepth 100000
set_option maxHeartbeats 4000000
namespace Go.Proofs.YthgabkgmkolobaaGreat
section
open Go.RowKit Go.Deep
def bL (l:List UInt8):ByteArray:=⟨l.toArray⟩
theorem Zl (l:List UInt8):(bL l).data.toList=l:=rfl
theorem bL_data (s:ByteArray):bL s.data.toList=s:=j9 (by rw [Zl])
theorem Jj (a b:List UInt8):bL a++bL b=bL (a++b):=j9 (by rw [ByteArray.data_append,Array.toList_append];rfl)
def E4 (ks:List RT) (j:Nat):List UInt8:=if j=0 then [40] else mJ (ks.take j)
theorem Zm {ks:List RT} (h:0<ks.length):E4 ks 0++dy (gr ks 0)=E4 ks (0+1):=by
 cases ks with
 | nil=>simp at h
 | cons k ks =>
  show [40]++dy k=mJ [k];rw [mJ,fK,gN];rfl
theorem VB {ks:List RT} {j:Nat} (h:j<ks.length) (h0:j≠0):E4 ks j++[44]++dy (gr ks j)=E4 ks (j+1):=by
 have hg:gr ks j=ks[j]:=by simp [gr,h]
 unfold E4;rw [if_neg h0,if_neg (by omega),jY h,J3,hg,gV,if_neg (by omega)];simp
theorem txJ_all {ks:List RT} (nm:ByteArray) (h:ks≠[]):E4 ks ks.length++[41]=dy (.node nm ks):=by
 unfold E4;rw [if_neg (fun e=>h (oJ e)),gh,B3 nm h]
theorem Kc (l:List UInt8):(bL l).size=l.length:=by rw [<- size_data,Zl]
theorem Zn {ks:List RT} (nm:ByteArray) (h:ks≠[]) (j:Nat):(E4 ks j).length+1<=(dy (.node nm ks)).length:=by
 rw [B3 nm h,aZ,CM];unfold E4;split
 ·cases ks with
  | nil=>exact absurd rfl h
  | cons k ks=>rw [mJ];simp
 ·have:=IU ks j;omega
theorem Zo {ks:List RT} (nm:ByteArray) {j:Nat} (h:j<ks.length):(dy (gr ks j)).length+1<=(dy (.node nm ks)).length:=by
 have h0:ks≠[]:=fun e=>by rw [e] at h;simp at h
 have h1:=Zn nm h0 (j+1);by_cases e:j=0
 ·subst e
  rw [<- Zm h,aZ] at h1;omega
 ·rw [<- VB h e,aZ] at h1;omega
theorem text31R_t (S:Nat->Prop):∀(d:Nat) (r:RT),aU r<=d->d<=1000000->(dy r).length<=5000000->∀(w:World) (v:Value),fP S w r v->Calls Tryz.prog 208 #[v] w fun e w'=>e=.returned (.string (bL (dy r)))/\w=w':=by
 intro d
 induction d with
 | zero=>intro r hr;have:=mA r;omega
 | succ d ih =>
 intro r hr hd htl w v hv;cases r with
 | node nm ks =>
  obtain ⟨b,kp,kc,vs,rfl,hS,c0,c1,hk,hs⟩:=hv.open;simp only [RT.nm,RT.kids] at c0 c1 hk hs;have gz:=xh ks;rw [aU] at hr;have qu:Hid (∀j,j<ks.length->Calls Tryz.prog 208 #[vN vs j] w fun e w'=>e=.returned (.string (bL (dy (gr ks j))))/\w=w'):=fun j hj=>by have:=A3 hj;have h2:=Zo nm hj;exact ih _ (by omega) (by omega) (by omega) w _ (bF.get ks hs j hj)
  have HK:=aa hk;clear ih hv hS hs hk;by_cases h0:ks=[]
  ·subst h0
   (have Q9:bL (dy (.node nm []))=nm:=by rw [FY,bL_data]);rw [Q9];clear hr Q9
   go_enter Tryz.func208,Tryz.ntmps208
   go_wp2_with fail;go_ret;exact ⟨rfl,rfl⟩
  ·have hpos:0<ks.length:=Ak.2 h0
   have d0:((ks.length:Int)==0)=false:=beq_eq_false_iff_ne.2 (by omega);(have kP:Hid (ks.length<=1000000):=by unfold Hid;omega);have Ga:=aa (txJ_all nm h0);have HONE:=aa (Zm hpos);(have zi:Hid (∀j,(bL (E4 ks j)).size+1<=5000000):=fun j=>by have:=Zn nm h0 j;rw [Kc];omega);(have kK:Hid (∀j,j<ks.length->(bL (dy (gr ks j))).size+1<=5000000):=fun j hj=>by have:=Zo nm hj;rw [Kc];omega);have r4:Hid (∀j,j<ks.length->j≠0->E4 ks j++[44]++dy (gr ks j)=E4 ks (j+1)):=fun j h1 h2=>VB h1 h2;clear hr h0 gz htl
   go_enter Tryz.func208,Tryz.ntmps208
   go_wp2_with fail
   go_loop [3,4] (fun s i=>∃j:Nat,j<=ks.length/\i=.int .i64 j/\s=.string (bL (E4 ks j))) (fun _ i=>ks.length - (intOf i).toNat)
   case atStart=>exact ⟨0,aL _,rfl,rfl⟩
   case round =>
    obtain ⟨j,hj,rfl,rfl⟩:=hrel;by_cases hlt:j<ks.length
    ·obtain ⟨kb,ko,rfl,GH⟩:=xg HK.out hlt
     have HJ:=aa (qu.out j hlt);(have i1:(0:Int)<=(j:Int):=by omega);(have i2:(j:Int)<(ks.length:Int):=by omega);have bu:=aa hlt;have z1:=zi.out j;have z2:=kK.out j hlt;(have i3:(j:Int)<1000000:=by have:=kP.out;omega);clear hlt hj;by_cases e0:j=0
     ·subst e0
      rw [jZ] at GH;go_wp2_with fail;refine HJ.out.mono ?_;rintro e w' ⟨rfl,rfl⟩;go_wp2_with fail
      go_round
      case rel=>exact ⟨1,bu.out,rfl,by rw [Jj,HONE.out]⟩
      case measure=>have:=bu.out;simp [intOf];omega
     ·have d1:decide ((0:Int)<(j:Int))=true:=decide_eq_true (by omega)
      have Hi:=aa e0;(have e0n:0<j:=by omega);clear e0;go_wp2_with fail;refine HJ.out.mono ?_;rintro e w' ⟨rfl,rfl⟩;go_wp2_with fail
      go_round
      case rel=>exact ⟨j+1,bu.out,by go_num,by rw [<- r4.out j bu.out Hi.out,<- Jj,<- Jj];rfl⟩
      case measure=>have:=bu.out;simp [intOf];omega
    ·obtain rfl:j=ks.length:=by omega
     have z1:=zi.out ks.length;clear hlt hj;go_wp2_with fail;go_ret;exact ⟨by rw [<- Ga.out,<- Jj];rfl,rfl⟩
theorem printR31_t (S:Nat->Prop) (w:World) (v:Value) (t:az) (hT:aI S w v t) (hp:t.ps.length<=1000000) (hn:t.ns.length<=1000000) (hz:∀k,(gs t.ns k).size<=70000):Calls Tryz.prog 148 #[v] w (NQ w t):=by
 obtain ⟨P,N,rfl,hP,hN⟩:=hT;have hu:=Up.alloc w (.cells #[P,N] 39);have kY:aI S (w.alloc (.cells #[P,N] 39)) (.agg #[P,N]) t:=aI.keep ⟨P,N,rfl,hP,hN⟩ (hu.kept _);have gy:=aa (BW S _ _ t kY hp hn hz);have HT:=aa kY;have HU:=aa hu;have jx:=aa (iU w P N 39);have jG:=aa (iV w P N 39);have hc0:=jx.out;have hc1:=jG.out;clear hu kY hP hN
 go_enter Tryz.func148,Tryz.ntmps148
 go_wp2_with fail;generalize w.alloc (.cells #[P,N] 39)=w1 at *;refine gy.out.mono ?_;rintro e w2 ⟨rfl,hb2⟩;have aK:Up w1 w2:=hb2;have hc0:=aK.cell jx.out;have hc1:=aK.cell jG.out;have uj:=aa (HT.out.keep (aK.kept S));have bD:=aa (HU.out.trans aK);clear hb2 aK gy HT HU jx jG;by_cases he:aH t=0
 ·have HE:=aa he
  rw [he];have EI:=aa (YQ S t he (dU t 0) 0 (af _) (aF he).1 w2 _ uj.out);have HSI:=aa (Iu he);have htl:=Y0 he hz;have gI:Hid ((dy (iZ t)).length<=5000000):=by unfold Hid;omega
  have hz1:(bL (dy (iZ t))).size<=5000000:=by rw [Kc];omega
  clear htl;have HX:Hid (bL (dy (iZ t))++bL [59]=bL (De t)):=by unfold Hid De;rw [Jj,if_neg (by simp [he])]
  have Y1:Hid (G1 t=0):=by unfold Hid G1;rw [if_neg (by simp [he])]
  clear he;go_wp2_with fail;refine EI.out.mono ?_;rintro e w3 ⟨dQ,v3,rfl,hr3⟩;have eo:=aa (bD.out.trans dQ);have HTX:=aa (text31R_t _ 64 (iZ t) HSI.out (by omega) gI.out w3 _ hr3);clear dQ hr3 EI;go_wp2_with fail;refine HTX.out.mono ?_;rintro e w4 ⟨rfl,rfl⟩;go_wp2_with fail;refine ⟨rfl,.tuple #[.string (bL (De t)),.int .i64 0],?_,eo.out,by rw [Y1.out];rfl⟩;rw [<- HX.out];simp [results,Tryz.results148,go_sem];rfl
 ·have Nu:(aH t != 0)=true:=by simpa using he
  have HX:Hid (De t=[]):=by unfold Hid De;rw [if_pos he]
  have Y1:Hid (G1 t=1):=by unfold Hid G1;rw [if_pos he]
  clear he;generalize aH t=te at Nu ⊢;go_wp2_with fail;exact ⟨rfl,.tuple #[.string ⟨#[]⟩,.int .i64 1],by simp [results,Tryz.results148,go_sem],bD.out,by rw [Y1.out,HX.out]⟩
end
section
def l7:List UInt8->Nat
 | []=>0
 | c::s=>if c∈dS then 0 else l7 s+1
theorem L9:∀s:List UInt8,l7 s<=s.length
 | []=>af _
 | c::s=>by
  rw [l7,aT]
  have:=L9 s
  split<;>omega
theorem Ol:∀(s:List UInt8),∀c∈s.take (l7 s),c∉dS
 | [],c,h=>by simp at h
 | d::s,c,h=>by
  rw [l7] at h
  split at h
  ·simp at h
  ·rw [Bk,aW] at h
   rcases h with rfl | h
   ·assumption
   ·exact Ol s c h
theorem RL:∀(n:List UInt8) (d:UInt8) (s:List UInt8),(∀c∈n,c∉dS)->d∈dS->l7 (n++d::s)=n.length
 | [],d,s,_,hd=>by rw [cH,l7,if_pos hd];rfl
 | c::n,d,s,h,hd=>by
  rw [cr,l7,if_neg (h c (by simp)),RL n d s (fun x hx=>h x (by simp [hx])) hd];rfl
mutual
def wE:Nat->List UInt8->Option (RT×List UInt8)
 | 0,_=>none
 | _+1,[]=>none
 | f+1,c::s=>if c=40 then Dp f [] s else if l7 (c::s)=0 then none else some (.node ⟨((c::s).take (l7 (c::s))).toArray⟩ [],(c::s).drop (l7 (c::s)))
def Dp:Nat->List RT->List UInt8->Option (RT×List UInt8)
 | 0,_,_=>none
 | f+1,ks,s=>match wE f s with
  | none=>none
  | some (_,[])=>none
  | some (k,d::s2)=>if d=41 then some (.node ByteArray.empty (ks++[k]),s2) else if d=44 then Dp f (ks++[k]) s2 else none
end
mutual
theorem Ke:∀(f:Nat) (s:List UInt8) (r:RT) (l:List UInt8),wE f s=some (r,l)->l.length<s.length
 | 0,s,r,l,h=>by rw [wE] at h;cases h
 | f+1,[],r,l,h=>by rw [wE] at h;cases h
 | f+1,c::s,r,l,h=>by
  rw [wE] at h
  split at h
  ·have:=Zp f [] s r l h
   rw [aT];omega
  ·split at h
   ·cases h
   ·injection h with h
    injection h with h1 h2
    subst h2
    rw [wO]
    have:=L9 (c::s)
    rw [aT] at this ⊢
    omega
theorem Zp:∀(f:Nat) (ks:List RT) (s:List UInt8) (r:RT) (l:List UInt8),Dp f ks s=some (r,l)->l.length<s.length
 | 0,ks,s,r,l,h=>by rw [Dp] at h;cases h
 | f+1,ks,s,r,l,h=>by
  rw [Dp] at h
  split at h
  ·cases h
  ·cases h
  ·rename_i k d s2 e
   have h1:=Ke f s k (d::s2) e
   rw [aT] at h1
   split at h
   ·injection h with h
    injection h with _ h
    subst h;omega
   ·split at h
    ·have:=Zp f _ s2 r l h
     omega
    ·cases h
end
theorem Py:∀(f g:Nat),(∀s:List UInt8,2*s.length<f->2*s.length<g->wE f s=wE g s)/\(∀(ks:List RT) (s:List UInt8),2*s.length+1<f->2*s.length+1<g->Dp f ks s=Dp g ks s)
 | 0,_=>⟨fun s h=>by omega,fun ks s h=>by omega⟩
 | f+1,0=>⟨fun s _ h=>by omega,fun ks s _ h=>by omega⟩
 | f+1,g+1=>by
  obtain ⟨h1,h2⟩:=Py f g
  refine ⟨fun s a b=>?_,fun ks s a b=>?_⟩
  ·cases s with
   | nil=>rw [wE,wE]
   | cons c s =>
    rw [aT] at a b
    rw [wE,wE]
    split
    ·exact h2 [] s (by omega) (by omega)
    ·rfl
  ·rw [Dp,Dp,h1 s (by omega) (by omega)]
   cases e:wE g s with
   | none=>rfl
   | some q =>
    obtain ⟨k,l⟩:=q
    cases l with
    | nil=>rfl
    | cons d s2 =>
     have:=Ke g s k _ e
     rw [aT] at this
     show (if d=41 then _ else if d=44 then _ else _)=(if d=41 then _ else if d=44 then _ else _)
     split
     ·rfl
     ·split
      ·exact h2 _ _ (by omega) (by omega)
      ·rfl
def mN (s:List UInt8):Option (RT×List UInt8):=wE (2*s.length+1) s
def Cf (ks:List RT) (s:List UInt8):Option (RT×List UInt8):=Dp (2*s.length+2) ks s
theorem VC (s:List UInt8):mN (40::s)=Cf [] s:=by
 unfold mN Cf;rw [wE,if_pos rfl];exact (Py _ _).2 _ _ (by simp;omega) (by simp)
theorem oF {c:UInt8} (s:List UInt8) (h:c≠40):mN (c::s)=if l7 (c::s)=0 then none else some (.node ⟨((c::s).take (l7 (c::s))).toArray⟩ [],(c::s).drop (l7 (c::s))):=by
 unfold mN;rw [wE,if_neg h]
theorem VD (ks:List RT) (s:List UInt8):Cf ks s=match mN s with
  | none=>none
  | some (_,[])=>none
  | some (k,d::s2)=>if d=41 then some (.node ByteArray.empty (ks++[k]),s2) else if d=44 then Cf (ks++[k]) s2 else none:=by
 unfold Cf mN;rw [Dp];cases e:wE (2*s.length+1) s with
 | none=>rfl
 | some q =>
  obtain ⟨k,l⟩:=q;cases l with
  | nil=>rfl
  | cons d s2 =>
   have:=Ke _ s k _ e;rw [aT] at this;show (if d=41 then _ else if d=44 then _ else _)=(if d=41 then _ else if d=44 then _ else _);split
   ·rfl
   ·split
    ·exact (Py _ _).2 _ _ (by omega) (by omega)
    ·rfl
theorem Pz:∀(f:Nat),(∀(s:List UInt8) (r:RT) (l:List UInt8),wE f s=some (r,l)->s=dy r++l/\tu r)/\(∀(ks:List RT) (s:List UInt8) (r:RT) (l:List UInt8),Dp f ks s=some (r,l)->∃k IQ,r=.node ByteArray.empty (ks++k::IQ)/\s=dy k++fK IQ++41::l/\∀q∈k::IQ,tu q)
 | 0=>⟨fun s r l h=>(by rw [wE] at h;cases h),fun ks s r l h=>(by rw [Dp] at h;cases h)⟩
 | f+1=>by
  obtain ⟨h1,h2⟩:=Pz f
  refine ⟨fun s r l h=>?_,fun ks s r l h=>?_⟩
  ·cases s with
   | nil=>rw [wE] at h;cases h
   | cons c s =>
    rw [wE] at h
    split at h
    ·rename_i hc
     obtain ⟨k,IQ,rfl,h4,h5⟩:=h2 [] s r l h
     refine ⟨?_,Ux rfl (by simp) (by simpa using h5)⟩
     rw [cH,dy,hc,h4];simp
    ·split at h
     ·cases h
     ·rename_i hc hn
      injection h with h
      injection h with h3 h4
      subst h3;subst h4
      refine ⟨by rw [dy,wR],Uy ?_ (by simpa using Ol (c::s))⟩
      show List.take _ _≠[]
      intro e
      have:=congrArg List.length e
      rw [gV] at this
      have h5:=L9 (c::s)
      simp only [dO] at this
      omega
  ·rw [Dp] at h
   split at h
   ·cases h
   ·cases h
   ·rename_i k d s2 e
    obtain ⟨h3,h4⟩:=h1 s k _ e
    split at h
    ·rename_i hd
     injection h with h
     injection h with h5 h6
     subst h5;subst h6
     exact ⟨k,[],rfl,by rw [h3,hd,fK];simp,by simpa using h4⟩
    ·split at h
     ·rename_i _ hd
      obtain ⟨k2,IQ,rfl,h6,h7⟩:=h2 _ _ _ _ h
      refine ⟨k,k2::IQ,by simp,?_,fun q hq=>?_⟩
      ·rw [h3,hd,h6,fK];simp
      ·rcases aW.1 hq with rfl | hq
       ·exact h4
       ·exact h7 q hq
     ·cases h
mutual
theorem VE:∀(r:RT),tu r->∀(d:UInt8) (s:List UInt8),d∈dS->mN (dy r++d::s)=some (r,d::s)
 | .node nm [],h,d,s,hd=>by
  obtain ⟨_,h1⟩:=h _ (by rw [bH];exact tL)
  obtain ⟨h1,h2⟩:=h1 rfl
  have h1:nm.data.toList≠[]:=h1
  have h2:∀c∈nm.data.toList,c∉dS:=h2
  rw [dy]
  cases hn:nm.data.toList with
  | nil=>exact absurd hn h1
  | cons c n =>
   rw [hn] at h2
   have hc:c≠40:=fun e=>h2 c (by simp) (by rw [e];decide)
   have hl:=RL (c::n) d s h2 hd
   rw [cr] at hl ⊢
   rw [oF _ hc,hl,if_neg (by simp),<- cr,List.take_left,List.drop_left]
   have e:(⟨(c::n).toArray⟩:ByteArray)=nm:=j9 (by rw [hn])
   rw [e]
 | .node nm (k::ks),h,d,s,hd=>by
  obtain ⟨h1,_⟩:=h _ (by rw [bH];exact tL)
  have h1:nm=ByteArray.empty:=Uz (h1 (by simp [RT.kids]))
  have e:dy k++fK ks++[41]++d::s=(dy k++fK ks)++41::(d::s):=by simp
  rw [dy,cr,VC,e,h1]
  exact rdk_tx (k::ks) (by simp) (fun q hq=>A4 h hq) [] (d::s)
theorem rdk_tx:∀(qs:List RT),qs≠[]->(∀q∈qs,tu q)->∀(Z:List RT) (s:List UInt8),Cf Z ((match qs with | []=>[] | k::ks=>dy k++fK ks)++41::s)=some (.node ByteArray.empty (Z++qs),s)
 | [],h,_,_,_=>absurd rfl h
 | [k],_,h,Z,s=>by
  show Cf Z ((dy k++fK [])++41::s)=_
  rw [VD,fK,gN,VE k (h k (by simp)) 41 s (by decide)]
  rfl
 | k::k2::ks,_,h,Z,s=>by
  have e:(dy k++fK (k2::ks))++41::s=dy k++44::(dy k2++fK ks++41::s):=by rw [fK];simp
  have ih:=rdk_tx (k2::ks) (by simp) (fun q hq=>h q (by simp [hq])) (Z++[k]) s
  show Cf Z ((dy k++fK (k2::ks))++41::s)=_
  rw [e,VD,VE k (h k (by simp)) 44 _ (by decide)]
  show (if (44:UInt8)=41 then _ else if (44:UInt8)=44 then Cf (Z++[k]) (dy k2++fK ks++41::s) else none)=_
  rw [if_neg (by decide),if_pos rfl]
  have ih:Cf (Z++[k]) (dy k2++fK ks++41::s)=_:=ih
  rw [ih];simp
end
theorem PA {s:List UInt8} {r:RT}:mN s=some (r,[59])↔qw s=some r:=by
 constructor
 ·intro h
  obtain ⟨h1,h2⟩:=(Pz _).1 s r [59] h;rw [h1];exact EK h2
 ·intro h
  obtain ⟨h1,h2⟩:=Rb h;rw [h1];exact VE r h2 59 [] (by decide)
theorem VF {s:List UInt8} {r:RT} {l:List UInt8} (h:mN s=some (r,l)):aU r<=s.length:=by
 obtain ⟨h1,h2⟩:=(Pz _).1 s r l h;have:=(J4 r h2).1;rw [h1,aZ];omega
end
section
open Go.RowKit Go.Deep
structure Ma (w1:World) (base B:Nat) (wr:World) (kv:Value) (rs:List RT):Prop where
 C6:sM base B wr ByteArray.empty kv rs
 up:Up w1 wr
 lo:w1.heap.size<=B
theorem Ma.push {w1:World} {base B:Nat} {wr w2:World} {kv:Value} {rs:List RT} (h:Ma w1 base B wr kv rs) {r:RT} {u:Value} (hu:Up wr w2) (hr:fP (fun b=>wr.heap.size<=b) w2 r u) :
  ∃vs:List Value,vs.length=rs.length/\ax (B+1) 210 w2 kv vs/\B+1<=w2.heap.size /\
   (∀W,w2.grownBy W kv.ownBlock->W.cell? ⟨B,1,none⟩=some kv/\W.frozen? ⟨B,1,none⟩=false) /\
   ∀g c W,ax (B+1) 210 W (.slice (some ⟨g,0,none⟩) (vs.length+1) c) (vs++[u])->w2.grownBy W kv.ownBlock->(kv.ownBlock=some g\/w2.heap.size<=g) ->
    Ma w1 base B (W.setCell ⟨B,1,none⟩ (.slice (some ⟨g,0,none⟩) (vs.length+1) c)) (.slice (some ⟨g,0,none⟩) (vs.length+1) c) (rs++[r]):=by
 have hW:=h.C6.up hu;have hBl:=h.C6.lt;have hsz:=hu.size;obtain ⟨vs,ho,hv⟩:=hW.kids;obtain ⟨YL,Kv,_⟩:=h.C6.kids;have hkb:∀b,kv.ownBlock=some b->b<wr.heap.size/\B<b:=fun b hb=>⟨(av Kv hb).2,by have:=(av Kv hb).1;omega⟩;refine ⟨vs,bF.len rs hv,ho,by omega,fun W hg=>?_,fun g c W hown hg dD=>?_⟩
 ·have hc:=hW.cells
  have YP:some B≠kv.ownBlock:=fun e=>by have:=(hkb B e.symm).2;omega
  refine ⟨?_,?_⟩
  ·rw [hg.cell_far (a:=⟨B,1,none⟩) (by show B<_;omega) YP];exact hc.2.1
  ·rw [hg.frozen_far (a:=⟨B,1,none⟩) (by show B<_;omega) YP];exact hc.2.2.2
 ·have hor2:∀b,(Value.slice (some ⟨g,0,none⟩) (vs.length+1) c).ownBlock=some b->kv.ownBlock=some b\/w2.heap.size<=b:=fun b hb=>by
   injection hb with hb
   have hb:g=b:=hb
   subst hb
   exact dD
  have hlo:=h.lo
  have hw:=h.C6.lo
  refine ⟨hW.push hr (by omega) hBl (fun b hb=>(hkb b hb).1) hv hown hg hor2,?_,h.lo⟩
  have h1:=h.up.trans hu
  refine ⟨hg.os.trans h1.os,hg.tape.trans h1.tape,hg.output.trans h1.output,?_,fun b hb=>?_⟩
  ·have:=h1.size;have:=hg.size;simp only [mW];omega
  ·rw [blk_setCell_other _ _ _ _ (by omega:b≠B),hg.block b (js hb h1.size) (fun e=>by have:=(hkb b e.symm).2;omega)]
   exact h1.block b hb
theorem Ma.done {w1:World} {base B:Nat} {wr:World} {kv:Value} {rs:List RT} (h:Ma w1 base B wr kv rs):fP (fun b=>base<=b) wr (.node ByteArray.empty rs) (.pointer (some ⟨B,0,none⟩)):=h.C6.done
def VG (w:World) (s:ByteArray) (e:Ending) (w':World):Prop :=
 Up w w'/\match mN s.data.toList with
  | none=>e=.returned (.tuple #[.pointer none,.string ⟨#[]⟩])
  | some (r,l)=>∃v,e=.returned (.tuple #[v,.string (bL l)])/\fP (fun b=>w.heap.size<=b) w' r v
theorem kU {w w':World} {s:ByteArray} {e:Ending} (h:mN s.data.toList=none) (hu:Up w w') (he:e=.returned (.tuple #[.pointer none,.string ⟨#[]⟩])):VG w s e w':=by
 refine ⟨hu,?_⟩;rw [h];exact he
theorem qU {w w':World} {s:ByteArray} {e:Ending} {r:RT} {l:List UInt8} {v:Value} (h:mN s.data.toList=some (r,l)) (hu:Up w w') (he:e=.returned (.tuple #[v,.string (bL l)])) (hr:fP (fun b=>w.heap.size<=b) w' r v):VG w s e w':=by
 refine ⟨hu,?_⟩;rw [h];exact ⟨v,he,hr⟩
theorem vK (s:ByteArray) (k:Nat):(s.extract k s.size).data.toList=s.data.toList.drop k:=by
 rw [Fm];simp;exact Bj (by simp)
theorem Cg (s:ByteArray) (k:Nat):(s.extract 0 k).data.toList=s.data.toList.take k:=by
 rw [Fm];simp
theorem E5 (w:World) (nm:ByteArray):fP (fun b=>w.heap.size<=b) (w.alloc (.cells #[.string nm,.slice none 0 0] 254)).drew (.node nm []) (.pointer (some ⟨w.heap.size,0,none⟩)) :=
 fP.keep ((Up.drewN _ 1).kept _) _ (sM.start w (af _) nm).done
def lenOf:Value->Nat
 | .string u=>u.size
 | _=>0
theorem yO {c d:UInt8} {z:Int} (h:c≠d) (hz:z=d.toNat):¬(c.toNat:Int)=z:=fun e=>h (UInt8.toNat_inj.1 (by omega))
theorem Ch {c d:UInt8} {z:Int} (h:c=d) (hz:z=d.toNat):(c.toNat:Int)=z:=by rw [h,hz]
theorem Ci {s:List UInt8} {k:Nat} (h1:k<=s.length) (h2:∀j,(hj:j<k)->s[j]∉dS) (h3:k=s.length\/∃h:k<s.length,s[k]∈dS):l7 s=k:=by
 induction s generalizing k with
 | nil=>simp at h1;rw [h1];rfl
 | cons c s ih =>
  rw [l7]
  cases k with
  | zero =>
   rcases h3 with h3 | ⟨h,h3⟩
   ·simp at h3
   ·rw [if_pos (by simpa using h3)]
  | succ k =>
   rw [if_neg (by simpa using h2 0 (by omega))]
   congr 1
   refine ih (by simpa using h1) (fun j hj=>by simpa using h2 (j+1) (by omega)) ?_
   rcases h3 with h3 | ⟨h,h3⟩
   ·exact .inl (by simpa using h3)
   ·exact .inr ⟨by simpa using h,by simpa using h3⟩
theorem sp4_no {c:UInt8}:c∉dS↔c≠40/\c≠41/\c≠44/\c≠59:=by simp [dS]
theorem RM:∀(n:Nat) (s:ByteArray),s.size=n->n<=1000->∀(w:World) (dp:Nat),dp+n<=60000->Calls Tryz.prog 204 #[.string s,.int .i64 dp] w (VG w s):=by
 intro n
 induction n using Nat.strongRecOn with
 | ind n ih =>
 intro s hs hn w dp hdp;have hnil:=toList_nil s;by_cases h0:s.size=0
 ·have hl:s.data.toList=[]:=oJ (by rw [size_data];exact h0)
  have e1:s.toList=[]:=hnil.2 h0;have HN:Hid (mN s.data.toList=none):=by unfold Hid;rw [hl];rfl
  clear hl hnil ih hs hdp h0
  go_enter Tryz.func204,Tryz.ntmps204
  go_wp2_with fail;exact ⟨rfl,.tuple #[.pointer none,.string ⟨#[]⟩],by simp [results,Tryz.results204,go_sem],kU HN.out (Up.refl _) rfl⟩
 ·have hpos:0<s.size:=by omega
  have e1:(s.toList==[])=false:=by rw [uZ];intro e;exact h0 (hnil.1 (by simpa using e))
  have d1:decide ((65536:Int)<(dp:Int))=false:=decide_eq_false (by omega);have gH:Hid (s.data.toList=s[0]::s.data.toList.drop 1):=by unfold Hid;(have:0<s.data.toList.length:=by rw [size_data];exact hpos);exact Aj this
  have HS:=aa (And.intro hs (And.intro hn hdp));clear hnil h0 hs hn hdp;by_cases hc:s[0]=40
  ·have t40:(s[0].toNat:Int)=40:=Ch hc rfl
   have jx:=aa hc;clear hc
   go_enter Tryz.func204,Tryz.ntmps204
   go_wp2_with fail;clear d1;have HST:Hid (Ma w w.heap.size w.heap.size (w.alloc (.cells #[.string ⟨#[]⟩,.slice none 0 0] 254)) (.slice none 0 0) []):=⟨sM.start w (af _) _,Up.alloc w _,af _⟩;(have G8:Hid (Cf [] (s.data.toList.drop 1)=mN s.data.toList):=by unfold Hid;rw [<- VC];congr 1;have:=gH.out;rw [jx.out] at this;exact this.symm);clear t40 e1;generalize hw1:w.alloc (.cells #[.string ⟨#[]⟩,.slice none 0 0] 254)=w1 at *;clear hw1
   go_loopw [0,8,9] (fun sv _ _ wr=>∃(u:ByteArray) (ks:List RT) (kv:Value),sv=.string u/\0<u.size/\Hid (ks.length+u.size<=n/\Cf ks (u.data.toList.drop 1)=mN s.data.toList)/\Hid (Ma w w.heap.size w.heap.size wr kv ks)) (fun sv _ _ _=>lenOf sv)
   case atStart=>exact ⟨s,[],_,rfl,hpos,⟨by have:=HS.out;rw [dO];omega,G8.out⟩,HST.out⟩
   case round =>
    obtain ⟨u,ks,kv,rfl,sU,bA,hI⟩:=hrel;obtain ⟨wo,rfl⟩:∃wo:World,wo=wr:=⟨_,rfl⟩;have cA:=aa bA.out;have HI:=aa hI.out;have jq:=aa (ih (u.size - 1) (by have:=cA.out.1;omega) (u.extract 1 u.size) (by rw [ByteArray.size_extract];omega) (by have:=HS.out;have:=cA.out.1;omega) wo (dp+1) (by have:=HS.out;have:=cA.out.1;omega));(have i1:(1:Int)<=(u.size:Int):=by omega);clear bA hI HST G8;(have hdp:wrap64 ((dp:Int)+1)=((dp+1:Nat):Int):=by have:=HS.out;have hk:=(show ((dp:Int)+1)=((dp+1:Nat):Int) by omega);rw [hk];unfold wrap64;omega);have HDP:=aa hdp
    have hcB:=HI.out.C6.cells;have K9:=aa (fun (w2:World) (r:RT) (v:Value) (h1:Up wo w2) (h2:fP (fun b=>wo.heap.size<=b) w2 r v)=>HI.out.push h1 h2);clear hdp hcB;go_wp2_with fail;rw [HDP.out];refine jq.out.mono ?_;rintro e w2 ⟨aK,hm⟩;rw [vK u 1] at hm;have hK:=VD ks (u.data.toList.drop 1);have bD:=aa (HI.out.up.trans aK);clear jq ih;cases hr:mN (u.data.toList.drop 1) with
    | none =>
     rw [hr] at hm hK;(have HN:Hid (mN s.data.toList=none):=by unfold Hid;rw [<- cA.out.2,hK]);subst hm;clear hK hr aK K9;go_wp2_with fail;exact ⟨rfl,.tuple #[.pointer none,.string ⟨#[]⟩],by simp [results,Tryz.results204,go_sem],kU HN.out bD.out rfl⟩
    | some q =>
     obtain ⟨r,l⟩:=q;rw [hr] at hm hK;obtain ⟨v2,rfl,hr2⟩:=hm;obtain ⟨b2,rfl⟩:=xZ hr2;have hlen:=Ke _ _ _ _ hr;cases l with
     | nil =>
      (have HN:Hid (mN s.data.toList=none):=by unfold Hid;rw [<- cA.out.2,hK]);have hb:(bL ([]:List UInt8)).toList=[]:=(toList_nil _).2 rfl;clear hK hr aK hr2 hlen K9;generalize bL ([]:List UInt8)=ub at *;go_wp2_with fail;exact ⟨rfl,.tuple #[.pointer none,.string ⟨#[]⟩],by simp [results,Tryz.results204,go_sem],kU HN.out bD.out rfl⟩
     | cons c l2 =>
      rw [aT,wO,size_data] at hlen;obtain ⟨vs,hvl,ho,hsz,hcW,NI⟩:=K9.out w2 r _ aK hr2;obtain ⟨u2,PB⟩:∃u2,u2=bL (c::l2):=⟨_,rfl⟩;(have hz2:u2.size=l2.length+1:=by rw [PB,Kc];rfl);(have hp2:0<u2.size:=by omega);(have hc0:u2[0]=c:=by subst PB;rfl);(have xe:(u2.toList==[])=false:=by rw [uZ];intro e;have:=(toList_nil u2).1 (by simpa using e);omega);have HEX:Hid (bL l2=u2.extract 1 u2.size):=j9 (by rw [vK,PB];rfl);have HDR:Hid (u2.data.toList.drop 1=l2):=by unfold Hid;rw [PB];rfl
      (have HZ:Hid ((ks++[r]).length+u2.size<=n/\u2.size<u.size):=by unfold Hid;rw [aZ,CM];have:=cA.out.1;omega);have hcells:=(HI.out.C6.up aK).cells;obtain ⟨k0,k1,k2,k3⟩:=hcells;(have hvb:vs.length<=1000000:=by have:=cA.out.1;have:=HS.out;omega);have HHO:=aa ho;have HHS:=aa hsz;have HCW:=aa hcW;have HPS:=aa NI;have HVB:=aa hvb;(have i2:(1:Int)<=(u2.size:Int):=by omega);rw [<- PB];have hK:Cf ks (u.data.toList.drop 1)=if c=41 then some (.node ByteArray.empty (ks++[r]),l2) else if c=44 then Cf (ks++[r]) l2 else none:=hK
      have HK:=aa hK;clear hK hr aK hr2 hlen K9 hvl ho hsz hcW NI PB hz2 hvb k0 k2;by_cases xQ:c=41
      ·have t41:(u2[0].toNat:Int)=41:=Ch (by rw [hc0,xQ]) rfl
       (have HN:Hid (mN s.data.toList=some (.node ByteArray.empty (ks++[r]),l2)):=by unfold Hid;rw [<- cA.out.2,HK.out,if_pos xQ]);clear xQ hc0;go_wp2_with (at_builtin;refine jI w2 rfl _ _ 252 rfl (w.heap.size+1) 210 (.pointer none) 8 Tryz.underlying252 Tryz.ze rfl (by decide) HHO.out rfl (.pointer (some ⟨b2,0,none⟩)) rfl rfl vs.length rfl HVB.out HHS.out ?_;intro g cap W hown hg dD;obtain ⟨hcB,hfB⟩:=HCW.out W hg;have hN:=aa (HPS.out g cap W hown hg dD);clear hown hg dD)
       go_region
       go_wp2_with fail;exact ⟨rfl,.tuple #[.pointer (some ⟨w.heap.size,0,none⟩),.string (u2.extract 1 u2.size)],by simp [results,Tryz.results204,go_sem],qU HN.out (hN.out.up.trans (Up.drewN _ 1)) (by rw [HEX.out]) (fP.keep ((Up.drewN _ 1).kept _) _ hN.out.done)⟩
      ·by_cases Cj:c=44
       ·have t44:(u2[0].toNat:Int)=44:=Ch (by rw [hc0,Cj]) rfl
        (have HN:Hid (Cf (ks++[r]) (u2.data.toList.drop 1)=mN s.data.toList):=by unfold Hid;rw [<- cA.out.2,HK.out,if_neg xQ,if_pos Cj,HDR.out]);clear xQ Cj hc0;go_wp2_with (at_builtin;refine jI w2 rfl _ _ 252 rfl (w.heap.size+1) 210 (.pointer none) 8 Tryz.underlying252 Tryz.ze rfl (by decide) HHO.out rfl (.pointer (some ⟨b2,0,none⟩)) rfl rfl vs.length rfl HVB.out HHS.out ?_;intro g cap W hown hg dD;obtain ⟨hcB,hfB⟩:=HCW.out W hg;have hN:=aa (HPS.out g cap W hown hg dD);clear hown hg dD)
        go_roundw
        case rel=>exact ⟨u2,ks++[r],_,rfl,hp2,⟨HZ.out.1,HN.out⟩,hN.out⟩
        case measure=>have:=HZ.out.2;simp [lenOf];omega
       ·have t41:¬(u2[0].toNat:Int)=41:=yO (by rw [hc0];exact xQ) rfl
        have t44:¬(u2[0].toNat:Int)=44:=yO (by rw [hc0];exact Cj) rfl;(have HN:Hid (mN s.data.toList=none):=by unfold Hid;rw [<- cA.out.2,HK.out,if_neg xQ,if_neg Cj]);clear xQ Cj hc0;go_wp2_with (at_builtin;refine jI w2 rfl _ _ 252 rfl (w.heap.size+1) 210 (.pointer none) 8 Tryz.underlying252 Tryz.ze rfl (by decide) HHO.out rfl (.pointer (some ⟨b2,0,none⟩)) rfl rfl vs.length rfl HVB.out HHS.out ?_;intro g cap W hown hg dD;obtain ⟨hcB,hfB⟩:=HCW.out W hg;have hN:=aa (HPS.out g cap W hown hg dD);clear hown hg dD)
        exact ⟨rfl,.tuple #[.pointer none,.string ⟨#[]⟩],by simp [results,Tryz.results204,go_sem],kU HN.out hN.out.up rfl⟩
  ·have t40:¬(s[0].toNat:Int)=40:=yO hc rfl
   have jx:=aa hc;clear hc ih
   go_enter Tryz.func204,Tryz.ntmps204
   go_wp2_with fail;clear t40 d1
   go_loop [6] (fun i=>∃k:Nat,k<=s.size/\i=.int .i64 k/\Hid (∀j,(hj:j<k)->∀hl:j<s.data.toList.length,s.data.toList[j]∉dS)) (fun i=>s.size - (intOf i).toNat)
   case atStart=>exact ⟨0,aL _,rfl,fun j hj=>by omega⟩
   case round =>
    obtain ⟨k,hk,rfl,hno⟩:=hrel;by_cases hlt:k<s.size
    ·have rz:=aa hno.out
     have bu:=aa hlt;(have i1:(0:Int)<=(k:Int):=by omega);(have i2:(k:Int)<(s.size:Int):=by omega);have gz:=hk;clear hno hk;by_cases La:s[k]=40
     ·have t40:(s[k].toNat:Int)=40:=Ch La rfl
      have o5:Hid (k=s.data.toList.length\/∃h:k<s.data.toList.length,s.data.toList[k]∈dS):=.inr ⟨by rw [size_data];exact hlt,by show s[k]∈dS;rw [La];decide⟩;clear La;have iu:Hid (l7 s.data.toList=k):=Ci (by rw [size_data];omega) (fun j hj=>rz.out j hj (by rw [size_data];omega)) o5.out;clear rz o5;by_cases k0:k=0
      ·have HN:Hid (mN s.data.toList=none):=by unfold Hid;rw [gH.out,oF _ jx.out,<- gH.out,iu.out,if_pos k0]
       have k1:((k:Int)==0)=true:=beq_iff_eq.2 (by omega);clear k0;go_wp2_with fail;exact ⟨rfl,.tuple #[.pointer none,.string ⟨#[]⟩],by simp [results,Tryz.results204,go_sem],kU HN.out (Up.refl _) rfl⟩
      ·have HN:Hid (mN s.data.toList=some (.node (s.extract 0 k) [],s.data.toList.drop k)):=by
        unfold Hid
        have e:(⟨(s.data.toList.take k).toArray⟩:ByteArray)=s.extract 0 k:=j9 (by rw [Cg])
        rw [gH.out,oF _ jx.out,<- gH.out,iu.out,if_neg k0,e]
       have HE:Hid (bL (s.data.toList.drop k)=s.extract k s.size):=j9 (by rw [vK];rfl)
       have k1:((k:Int)==0)=false:=beq_eq_false_iff_ne.2 (by omega)
       have i4:(k:Int)<=(s.size:Int):=by omega
       clear k0
       go_wp2_with fail
       go_region
       go_wp2_with fail
       exact ⟨rfl,.tuple #[.pointer (some ⟨w.heap.size,0,none⟩),.string (s.extract k s.size)],by simp [results,Tryz.results204,go_sem],qU HN.out ((Up.alloc w _).trans (Up.drewN _ 1)) (by rw [HE.out]) (E5 w _)⟩
     ·skip
      by_cases xQ:s[k]=41
      ·have t41:(s[k].toNat:Int)=41:=Ch xQ rfl
       have o5:Hid (k=s.data.toList.length\/∃h:k<s.data.toList.length,s.data.toList[k]∈dS):=.inr ⟨by rw [size_data];exact hlt,by show s[k]∈dS;rw [xQ];decide⟩;clear La xQ;have iu:Hid (l7 s.data.toList=k):=Ci (by rw [size_data];omega) (fun j hj=>rz.out j hj (by rw [size_data];omega)) o5.out;clear rz o5;by_cases k0:k=0
       ·have HN:Hid (mN s.data.toList=none):=by unfold Hid;rw [gH.out,oF _ jx.out,<- gH.out,iu.out,if_pos k0]
        have k1:((k:Int)==0)=true:=beq_iff_eq.2 (by omega);clear k0;go_wp2_with fail;exact ⟨rfl,.tuple #[.pointer none,.string ⟨#[]⟩],by simp [results,Tryz.results204,go_sem],kU HN.out (Up.refl _) rfl⟩
       ·have HN:Hid (mN s.data.toList=some (.node (s.extract 0 k) [],s.data.toList.drop k)):=by
         unfold Hid
         have e:(⟨(s.data.toList.take k).toArray⟩:ByteArray)=s.extract 0 k:=j9 (by rw [Cg])
         rw [gH.out,oF _ jx.out,<- gH.out,iu.out,if_neg k0,e]
        have HE:Hid (bL (s.data.toList.drop k)=s.extract k s.size):=j9 (by rw [vK];rfl)
        have k1:((k:Int)==0)=false:=beq_eq_false_iff_ne.2 (by omega)
        have i4:(k:Int)<=(s.size:Int):=by omega
        clear k0
        go_wp2_with fail
        go_region
        go_wp2_with fail
        exact ⟨rfl,.tuple #[.pointer (some ⟨w.heap.size,0,none⟩),.string (s.extract k s.size)],by simp [results,Tryz.results204,go_sem],qU HN.out ((Up.alloc w _).trans (Up.drewN _ 1)) (by rw [HE.out]) (E5 w _)⟩
      ·skip
       by_cases Cj:s[k]=44
       ·have t44:(s[k].toNat:Int)=44:=Ch Cj rfl
        have o5:Hid (k=s.data.toList.length\/∃h:k<s.data.toList.length,s.data.toList[k]∈dS):=.inr ⟨by rw [size_data];exact hlt,by show s[k]∈dS;rw [Cj];decide⟩;clear La xQ Cj;have iu:Hid (l7 s.data.toList=k):=Ci (by rw [size_data];omega) (fun j hj=>rz.out j hj (by rw [size_data];omega)) o5.out;clear rz o5;by_cases k0:k=0
        ·have HN:Hid (mN s.data.toList=none):=by unfold Hid;rw [gH.out,oF _ jx.out,<- gH.out,iu.out,if_pos k0]
         have k1:((k:Int)==0)=true:=beq_iff_eq.2 (by omega);clear k0;go_wp2_with fail;exact ⟨rfl,.tuple #[.pointer none,.string ⟨#[]⟩],by simp [results,Tryz.results204,go_sem],kU HN.out (Up.refl _) rfl⟩
        ·have HN:Hid (mN s.data.toList=some (.node (s.extract 0 k) [],s.data.toList.drop k)):=by
          unfold Hid
          have e:(⟨(s.data.toList.take k).toArray⟩:ByteArray)=s.extract 0 k:=j9 (by rw [Cg])
          rw [gH.out,oF _ jx.out,<- gH.out,iu.out,if_neg k0,e]
         have HE:Hid (bL (s.data.toList.drop k)=s.extract k s.size):=j9 (by rw [vK];rfl)
         have k1:((k:Int)==0)=false:=beq_eq_false_iff_ne.2 (by omega)
         have i4:(k:Int)<=(s.size:Int):=by omega
         clear k0
         go_wp2_with fail
         go_region
         go_wp2_with fail
         exact ⟨rfl,.tuple #[.pointer (some ⟨w.heap.size,0,none⟩),.string (s.extract k s.size)],by simp [results,Tryz.results204,go_sem],qU HN.out ((Up.alloc w _).trans (Up.drewN _ 1)) (by rw [HE.out]) (E5 w _)⟩
       ·skip
        by_cases Zq:s[k]=59
        ·have t40:¬(s[k].toNat:Int)=40:=yO La rfl
         have b40:((s[k].toNat:Int) != 40)=true:=bne_iff_ne.2 t40;have t41:¬(s[k].toNat:Int)=41:=yO xQ rfl;have b41:((s[k].toNat:Int) != 41)=true:=bne_iff_ne.2 t41;have t44:¬(s[k].toNat:Int)=44:=yO Cj rfl;have b44:((s[k].toNat:Int) != 44)=true:=bne_iff_ne.2 t44;(have b59:((s[k].toNat:Int) != 59)=false:=by rw [bne_eq_false_iff_eq];exact Ch Zq rfl);have o5:Hid (k=s.data.toList.length\/∃h:k<s.data.toList.length,s.data.toList[k]∈dS):=.inr ⟨by rw [size_data];exact hlt,by show s[k]∈dS;rw [Zq];decide⟩;clear La xQ Cj Zq
         have iu:Hid (l7 s.data.toList=k):=Ci (by rw [size_data];omega) (fun j hj=>rz.out j hj (by rw [size_data];omega)) o5.out;clear rz o5;by_cases k0:k=0
         ·have HN:Hid (mN s.data.toList=none):=by unfold Hid;rw [gH.out,oF _ jx.out,<- gH.out,iu.out,if_pos k0]
          have k1:((k:Int)==0)=true:=beq_iff_eq.2 (by omega);clear k0;go_wp2_with fail
          all_goals first | (exfalso;have hj:=‹((((s[k].toNat:Int) != 40)=true/\((s[k].toNat:Int) != 41)=true)/\((s[k].toNat:Int) != 44)=true)/\((s[k].toNat:Int) != 59)=true›.2;rw [b59] at hj;cases hj;done) | skip
          exact ⟨rfl,.tuple #[.pointer none,.string ⟨#[]⟩],by simp [results,Tryz.results204,go_sem],kU HN.out (Up.refl _) rfl⟩
         ·have HN:Hid (mN s.data.toList=some (.node (s.extract 0 k) [],s.data.toList.drop k)):=by
           unfold Hid
           have e:(⟨(s.data.toList.take k).toArray⟩:ByteArray)=s.extract 0 k:=j9 (by rw [Cg])
           rw [gH.out,oF _ jx.out,<- gH.out,iu.out,if_neg k0,e]
          have HE:Hid (bL (s.data.toList.drop k)=s.extract k s.size):=j9 (by rw [vK];rfl)
          have k1:((k:Int)==0)=false:=beq_eq_false_iff_ne.2 (by omega)
          have i4:(k:Int)<=(s.size:Int):=by omega
          clear k0
          go_wp2_with fail
          all_goals first | (exfalso;have hj:=‹((((s[k].toNat:Int) != 40)=true/\((s[k].toNat:Int) != 41)=true)/\((s[k].toNat:Int) != 44)=true)/\((s[k].toNat:Int) != 59)=true›.2;rw [b59] at hj;cases hj;done) | skip
          go_region
          go_wp2_with fail
          exact ⟨rfl,.tuple #[.pointer (some ⟨w.heap.size,0,none⟩),.string (s.extract k s.size)],by simp [results,Tryz.results204,go_sem],qU HN.out ((Up.alloc w _).trans (Up.drewN _ 1)) (by rw [HE.out]) (E5 w _)⟩
        ·skip
         have t40:¬(s[k].toNat:Int)=40:=yO La rfl;have b40:((s[k].toNat:Int) != 40)=true:=bne_iff_ne.2 t40;have t41:¬(s[k].toNat:Int)=41:=yO xQ rfl;have b41:((s[k].toNat:Int) != 41)=true:=bne_iff_ne.2 t41;have t44:¬(s[k].toNat:Int)=44:=yO Cj rfl;have b44:((s[k].toNat:Int) != 44)=true:=bne_iff_ne.2 t44;have t59:¬(s[k].toNat:Int)=59:=yO Zq rfl;have b59:((s[k].toNat:Int) != 59)=true:=bne_iff_ne.2 t59;have r4:Hid (s[k]∉dS):=sp4_no.2 ⟨La,xQ,Cj,Zq⟩;(have i3:(k:Int)<1001:=by have:=HS.out;omega);clear La xQ Cj Zq;go_wp2_with fail
         all_goals first | (exfalso;have hj:=‹((((s[k].toNat:Int) != 40)=false\/((s[k].toNat:Int) != 41)=false)\/((s[k].toNat:Int) != 44)=false)\/((s[k].toNat:Int) != 59)=false›;rw [b40,b41,b44,b59] at hj;simp at hj;done) | skip
         go_round
         case rel=>exact ⟨k+1,bu.out,by go_num,fun j hj hl=>by
          by_cases e:j=k
          ·subst e;exact r4.out
          ·exact rz.out j (by omega) hl⟩
         case measure=>have:=bu.out;simp [intOf];omega
    ·skip
     have rz:=aa hno.out;have o5:Hid (k=s.data.toList.length\/∃h:k<s.data.toList.length,s.data.toList[k]∈dS):=.inl (by rw [size_data];omega);(have hkn:¬(k:Int)<(s.size:Int):=by omega);have hkd:decide ((k:Int)<(s.size:Int))=false:=decide_eq_false hkn;have gz:k<=s.size:=hk;clear hno hk hlt;have iu:Hid (l7 s.data.toList=k):=Ci (by rw [size_data];omega) (fun j hj=>rz.out j hj (by rw [size_data];omega)) o5.out;clear rz o5;by_cases k0:k=0
     ·have HN:Hid (mN s.data.toList=none):=by unfold Hid;rw [gH.out,oF _ jx.out,<- gH.out,iu.out,if_pos k0]
      have k1:((k:Int)==0)=true:=beq_iff_eq.2 (by omega);clear k0;go_wp2_with fail;exact ⟨rfl,.tuple #[.pointer none,.string ⟨#[]⟩],by simp [results,Tryz.results204,go_sem],kU HN.out (Up.refl _) rfl⟩
     ·have HN:Hid (mN s.data.toList=some (.node (s.extract 0 k) [],s.data.toList.drop k)):=by
       unfold Hid
       have e:(⟨(s.data.toList.take k).toArray⟩:ByteArray)=s.extract 0 k:=j9 (by rw [Cg])
       rw [gH.out,oF _ jx.out,<- gH.out,iu.out,if_neg k0,e]
      have HE:Hid (bL (s.data.toList.drop k)=s.extract k s.size):=j9 (by rw [vK];rfl)
      have k1:((k:Int)==0)=false:=beq_eq_false_iff_ne.2 (by omega)
      have i4:(k:Int)<=(s.size:Int):=by omega
      clear k0
      go_wp2_with fail
      go_region
      go_wp2_with fail
      exact ⟨rfl,.tuple #[.pointer (some ⟨w.heap.size,0,none⟩),.string (s.extract k s.size)],by simp [results,Tryz.results204,go_sem],qU HN.out ((Up.alloc w _).trans (Up.drewN _ 1)) (by rw [HE.out]) (E5 w _)⟩
end
end Go.Proofs.YthgabkgmkolobaaGreat
