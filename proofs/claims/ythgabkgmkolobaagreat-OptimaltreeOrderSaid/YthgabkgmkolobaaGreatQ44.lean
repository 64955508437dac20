/- The contracts of layer 31's reference's text and Print. The reference's reader of texts, .. -/
import Derived.Test.YthgabkgmkolobaaGreatQ26
set_option maxRecDepth 100000
set_option maxHeartbeats 2000000
namespace Go.Proofs.YthgabkgmkolobaaGreat
section
open Go.RowKit Go.Deep
def bL (l:List UInt8):ByteArray:=⟨l.toArray⟩
theorem K7 (l:List UInt8):(bL l).data.toList=l:=rfl
theorem UO (s:ByteArray):bL s.data.toList=s:=fH (by rw [K7])
theorem zn (a b:List UInt8):bL a++bL b=bL (a++b):=fH (by rw [ByteArray.data_append,Array.toList_append];rfl)
def wk (ks:List RT) (j:Nat):List UInt8:=if j=0 then [40] else gX (ks.take j)
theorem K8 {ks:List RT} (h:0<ks.length):wk ks 0++bF (gr ks 0)=wk ks (0+1):=by
 cases ks with
 | nil=>simp at h
 | cons k ks =>
  show [40]++bF k=gX [k];rw [gX,cH,fM];rfl
theorem Jf {ks:List RT} {j:Nat} (h:j<ks.length) (h0:j≠0):wk ks j++[44]++bF (gr ks j)=wk ks (j+1):=by
 have hg:gr ks j=ks[j]:=by simp [gr,h]
 unfold wk;rw [if_neg h0,if_neg (by omega),jo h,zN,hg,dD,if_neg (by omega)];simp
theorem UQ {ks:List RT} (nm:ByteArray) (h:ks≠[]):wk ks ks.length++[41]=bF (.node nm ks):=by
 unfold wk;rw [if_neg (fun e=>h (lu e)),eT,td nm h]
theorem zZ (l:List UInt8):(bL l).size=l.length:=by rw [<- size_data,K7]
theorem K9 {ks:List RT} (nm:ByteArray) (h:ks≠[]) (j:Nat):(wk ks j).length+1<=(bF (.node nm ks)).length:=by
 rw [td nm h,bg,BH];unfold wk;split
 ·cases ks with
  | nil=>exact absurd rfl h
  | cons k ks=>rw [gX];simp
 ·have:=yU ks j;omega
theorem La {ks:List RT} (nm:ByteArray) {j:Nat} (h:j<ks.length):(bF (gr ks j)).length+1<=(bF (.node nm ks)).length:=by
 have h0:ks≠[]:=fun e=>by rw [e] at h;simp at h
 have h1:=K9 nm h0 (j+1);by_cases e:j=0
 ·subst e
  rw [<- K8 h,bg] at h1;omega
 ·rw [<- Jf h e,bg] at h1;omega
theorem PK (S:Nat->Prop):∀(d:Nat) (r:RT),aK r<=d->d<=1000000->(bF r).length<=5000000->∀(w:World) (v:Value),cK S w r v->Calls Tryz.prog 208 #[v] w fun e w'=>e=.returned (.string (bL (bF r)))/\w=w':=by
 intro d
 induction d with
 | zero=>intro r hr;have:=lZ r;omega
 | succ d ih =>
 intro r hr hd htl w v hv;cases r with
 | node nm ks =>
  obtain ⟨b,kp,kc,vs,rfl,hS,c0,c1,hk,hs⟩:=hv.open;simp only [RT.nm,RT.kids] at c0 c1 hk hs;have fT:=oT ks;rw [aK] at hr;have kD:Hid (∀j,j<ks.length->Calls Tryz.prog 208 #[vN vs j] w fun e w'=>e=.returned (.string (bL (bF (gr ks j))))/\w=w'):=fun j hj=>by have:=r7 hj;have h2:=La nm hj;exact ih _ (by omega) (by omega) (by omega) w _ (aT.get ks hs j hj)
  have HK:=aa hk;clear ih hv hS hs hk;by_cases h0:ks=[]
  ·subst h0
   (have EO:bL (bF (.node nm []))=nm:=by rw [xu,UO]);rw [EO];clear hr EO
   go_enter Tryz.func208,Tryz.ntmps208
   go_wp2_with fail;go_ret;exact ⟨rfl,rfl⟩
  ·have hpos:0<ks.length:=wG.2 h0
   have d0:((ks.length:Int)==0)=false:=beq_eq_false_iff_ne.2 (by omega);(have kV:Hid (ks.length<=1000000):=by unfold Hid;omega);have aa0:=aa (UQ nm h0);have aa1:=aa (K8 hpos);(have uI:Hid (∀j,(bL (wk ks j)).size+1<=5000000):=fun j=>by have:=K9 nm h0 j;rw [zZ];omega);(have e9:Hid (∀j,j<ks.length->(bL (bF (gr ks j))).size+1<=5000000):=fun j hj=>by have:=La nm hj;rw [zZ];omega);have rD:Hid (∀j,j<ks.length->j≠0->wk ks j++[44]++bF (gr ks j)=wk ks (j+1)):=fun j h1 h2=>Jf h1 h2;clear hr h0 fT htl
   go_enter Tryz.func208,Tryz.ntmps208
   go_wp2_with fail
   go_loop [3,4] (fun s i=>∃j:Nat,j<=ks.length/\i=.int .i64 j/\s=.string (bL (wk ks j))) (fun _ i=>ks.length - (intOf i).toNat)
   case atStart=>exact ⟨0,aI _,rfl,rfl⟩
   case round =>
    obtain ⟨j,hj,rfl,rfl⟩:=hrel;by_cases hlt:j<ks.length
    ·obtain ⟨kb,ko,rfl,xG⟩:=oQ HK.out hlt
     have HJ:=aa (kD.out j hlt);(have i1:(0:Int)<=(j:Int):=by omega);(have i2:(j:Int)<(ks.length:Int):=by omega);have bG:=aa hlt;have z1:=uI.out j;have z2:=e9.out j hlt;(have i3:(j:Int)<1000000:=by have:=kV.out;omega);clear hlt hj;by_cases e0:j=0
     ·subst e0
      rw [nA] at xG;go_wp2_with fail;refine HJ.out.mono ?_;rintro e w' ⟨rfl,rfl⟩;go_wp2_with fail
      go_round
      case rel=>exact ⟨1,bG.out,rfl,by rw [zn,aa1.out]⟩
      case measure=>have:=bG.out;simp [intOf];omega
     ·have d1:decide ((0:Int)<(j:Int))=true:=decide_eq_true (by omega)
      have Yz:=aa e0;(have e0n:0<j:=by omega);clear e0;go_wp2_with fail;refine HJ.out.mono ?_;rintro e w' ⟨rfl,rfl⟩;go_wp2_with fail
      go_round
      case rel=>exact ⟨j+1,bG.out,by go_num,by rw [<- rD.out j bG.out Yz.out,<- zn,<- zn];rfl⟩
      case measure=>have:=bG.out;simp [intOf];omega
    ·obtain rfl:j=ks.length:=by omega
     have z1:=uI.out ks.length;clear hlt hj;go_wp2_with fail;go_ret;exact ⟨by rw [<- aa0.out,<- zn];rfl,rfl⟩
theorem MH (S:Nat->Prop) (w:World) (v:Value) (t:aF) (hT:aC S w v t) (hp:t.ps.length<=1000000) (hn:t.ns.length<=1000000) (hz:∀k,(gs t.ns k).size<=70000):Calls Tryz.prog 148 #[v] w (Cn w t):=by
 obtain ⟨P,N,rfl,hP,hN⟩:=hT;have hu:=Up.alloc w (.cells #[P,N] 39);have kY:aC S (w.alloc (.cells #[P,N] 39)) (.agg #[P,N]) t:=aC.keep ⟨P,N,rfl,hP,hN⟩ (hu.kept _);have ir:=aa (wY S _ _ t kY hp hn hz);have HT:=aa kY;have HU:=aa hu;have gj:=aa (fO w P N 39);have kr:=aa (fP w P N 39);have hc0:=gj.out;have hc1:=kr.out;clear hu kY hP hN
 go_enter Tryz.func148,Tryz.ntmps148
 go_wp2_with fail;generalize w.alloc (.cells #[P,N] 39)=w1 at *;refine ir.out.mono ?_;rintro e w2 ⟨rfl,hb2⟩;have aJ:Up w1 w2:=hb2;have hc0:=aJ.cell gj.out;have hc1:=aJ.cell kr.out;have uk:=aa (HT.out.keep (aJ.kept S));have bY:=aa (HU.out.trans aJ);clear hb2 aJ ir HT HU gj kr;by_cases he:aB t=0
 ·have HE:=aa he
  rw [he];have qK:=aa (Kr S t he (dx t 0) 0 (ah _) (aM he).1 w2 _ uk.out);have S2:=aa (Ek he);have htl:=KC he hz;have iu:Hid ((bF (iy t)).length<=5000000):=by unfold Hid;omega
  have hz1:(bL (bF (iy t))).size<=5000000:=by rw [zZ];omega
  clear htl;have HX:Hid (bL (bF (iy t))++bL [59]=bL (uw t)):=by unfold Hid uw;rw [zn,if_neg (by simp [he])]
  have KD:Hid (xQ t=0):=by unfold Hid xQ;rw [if_neg (by simp [he])]
  clear he;go_wp2_with fail;refine qK.out.mono ?_;rintro e w3 ⟨dg,v3,rfl,hr3⟩;have ek:=aa (bY.out.trans dg);have HTX:=aa (PK _ 64 (iy t) S2.out (by omega) iu.out w3 _ hr3);clear dg hr3 qK;go_wp2_with fail;refine HTX.out.mono ?_;rintro e w4 ⟨rfl,rfl⟩;go_wp2_with fail;refine ⟨rfl,.tuple #[.string (bL (uw t)),.int .i64 0],?_,ek.out,by rw [KD.out];rfl⟩;rw [<- HX.out];simp [results,Tryz.results148,go_sem];rfl
 ·have B5:(aB t != 0)=true:=by simpa using he
  have HX:Hid (uw t=[]):=by unfold Hid uw;rw [if_pos he]
  have KD:Hid (xQ t=1):=by unfold Hid xQ;rw [if_pos he]
  clear he;generalize aB t=te at B5 ⊢;go_wp2_with fail;exact ⟨rfl,.tuple #[.string ⟨#[]⟩,.int .i64 1],by simp [results,Tryz.results148,go_sem],bY.out,by rw [KD.out,HX.out]⟩
end
section
def gJ:List UInt8->Nat
 | []=>0
 | c::s=>if c∈bT then 0 else gJ s+1
theorem BB:∀s:List UInt8,gJ s<=s.length
 | []=>ah _
 | c::s=>by
  rw [gJ,aO]
  have:=BB s
  split<;>omega
theorem CN:∀(s:List UInt8),∀c∈s.take (gJ s),c∉bT
 | [],c,h=>by simp at h
 | d::s,c,h=>by
  rw [gJ] at h
  split at h
  ·simp at h
  ·rw [wI,bX] at h
   rcases h with rfl | h
   ·assumption
   ·exact CN s c h
theorem Fe:∀(n:List UInt8) (d:UInt8) (s:List UInt8),(∀c∈n,c∉bT)->d∈bT->gJ (n++d::s)=n.length
 | [],d,s,_,hd=>by rw [cw,gJ,if_pos hd];rfl
 | c::n,d,s,h,hd=>by
  rw [bz,gJ,if_neg (h c (by simp)),Fe n d s (fun x hx=>h x (by simp [hx])) hd];rfl
mutual
def od:Nat->List UInt8->Option (RT×List UInt8)
 | 0,_=>none
 | _+1,[]=>none
 | f+1,c::s=>if c=40 then uM f [] s else if gJ (c::s)=0 then none else some (.node ⟨((c::s).take (gJ (c::s))).toArray⟩ [],(c::s).drop (gJ (c::s)))
def uM:Nat->List RT->List UInt8->Option (RT×List UInt8)
 | 0,_,_=>none
 | f+1,ks,s=>match od f s with
  | none=>none
  | some (_,[])=>none
  | some (k,d::s2)=>if d=41 then some (.node ByteArray.empty (ks++[k]),s2) else if d=44 then uM f (ks++[k]) s2 else none
end
mutual
theorem z7:∀(f:Nat) (s:List UInt8) (r:RT) (l:List UInt8),od f s=some (r,l)->l.length<s.length
 | 0,s,r,l,h=>by rw [od] at h;cases h
 | f+1,[],r,l,h=>by rw [od] at h;cases h
 | f+1,c::s,r,l,h=>by
  rw [od] at h
  split at h
  ·have:=Lb f [] s r l h
   rw [aO];omega
  ·split at h
   ·cases h
   ·injection h with h
    injection h with h1 h2
    subst h2
    rw [gw]
    have:=BB (c::s)
    rw [aO] at this ⊢
    omega
theorem Lb:∀(f:Nat) (ks:List RT) (s:List UInt8) (r:RT) (l:List UInt8),uM f ks s=some (r,l)->l.length<s.length
 | 0,ks,s,r,l,h=>by rw [uM] at h;cases h
 | f+1,ks,s,r,l,h=>by
  rw [uM] at h
  split at h
  ·cases h
  ·cases h
  ·rename_i k d s2 e
   have h1:=z7 f s k (d::s2) e
   rw [aO] at h1
   split at h
   ·injection h with h
    injection h with _ h
    subst h;omega
   ·split at h
    ·have:=Lb f _ s2 r l h
     omega
    ·cases h
end
theorem DC:∀(f g:Nat),(∀s:List UInt8,2*s.length<f->2*s.length<g->od f s=od g s)/\(∀(ks:List RT) (s:List UInt8),2*s.length+1<f->2*s.length+1<g->uM f ks s=uM g ks s)
 | 0,_=>⟨fun s h=>by omega,fun ks s h=>by omega⟩
 | f+1,0=>⟨fun s _ h=>by omega,fun ks s _ h=>by omega⟩
 | f+1,g+1=>by
  obtain ⟨h1,h2⟩:=DC f g
  refine ⟨fun s a b=>?_,fun ks s a b=>?_⟩
  ·cases s with
   | nil=>rw [od,od]
   | cons c s =>
    rw [aO] at a b
    rw [od,od]
    split
    ·exact h2 [] s (by omega) (by omega)
    ·rfl
  ·rw [uM,uM,h1 s (by omega) (by omega)]
   cases e:od g s with
   | none=>rfl
   | some q =>
    obtain ⟨k,l⟩:=q
    cases l with
    | nil=>rfl
    | cons d s2 =>
     have:=z7 g s k _ e
     rw [aO] at this
     show (if d=41 then _ else if d=44 then _ else _)=(if d=41 then _ else if d=44 then _ else _)
     split
     ·rfl
     ·split
      ·exact h2 _ _ (by omega) (by omega)
      ·rfl
def gZ (s:List UInt8):Option (RT×List UInt8):=od (2*s.length+1) s
def tL (ks:List RT) (s:List UInt8):Option (RT×List UInt8):=uM (2*s.length+2) ks s
theorem Jg (s:List UInt8):gZ (40::s)=tL [] s:=by
 unfold gZ tL;rw [od,if_pos rfl];exact (DC _ _).2 _ _ (by simp;omega) (by simp)
theorem jc {c:UInt8} (s:List UInt8) (h:c≠40):gZ (c::s)=if gJ (c::s)=0 then none else some (.node ⟨((c::s).take (gJ (c::s))).toArray⟩ [],(c::s).drop (gJ (c::s))):=by
 unfold gZ;rw [od,if_neg h]
theorem Jh (ks:List RT) (s:List UInt8):tL ks s=match gZ s with
  | none=>none
  | some (_,[])=>none
  | some (k,d::s2)=>if d=41 then some (.node ByteArray.empty (ks++[k]),s2) else if d=44 then tL (ks++[k]) s2 else none:=by
 unfold tL gZ;rw [uM];cases e:od (2*s.length+1) s with
 | none=>rfl
 | some q =>
  obtain ⟨k,l⟩:=q;cases l with
  | nil=>rfl
  | cons d s2 =>
   have:=z7 _ s k _ e;rw [aO] at this;show (if d=41 then _ else if d=44 then _ else _)=(if d=41 then _ else if d=44 then _ else _);split
   ·rfl
   ·split
    ·exact (DC _ _).2 _ _ (by omega) (by omega)
    ·rfl
theorem DD:∀(f:Nat),(∀(s:List UInt8) (r:RT) (l:List UInt8),od f s=some (r,l)->s=bF r++l/\l8 r)/\(∀(ks:List RT) (s:List UInt8) (r:RT) (l:List UInt8),uM f ks s=some (r,l)->∃k yT,r=.node ByteArray.empty (ks++k::yT)/\s=bF k++cH yT++41::l/\∀q∈k::yT,l8 q)
 | 0=>⟨fun s r l h=>(by rw [od] at h;cases h),fun ks s r l h=>(by rw [uM] at h;cases h)⟩
 | f+1=>by
  obtain ⟨h1,h2⟩:=DD f
  refine ⟨fun s r l h=>?_,fun ks s r l h=>?_⟩
  ·cases s with
   | nil=>rw [od] at h;cases h
   | cons c s =>
    rw [od] at h
    split at h
    ·rename_i hc
     obtain ⟨k,yT,rfl,h4,h5⟩:=h2 [] s r l h
     refine ⟨?_,He rfl (by simp) (by simpa using h5)⟩
     rw [cw,bF,hc,h4];simp
    ·split at h
     ·cases h
     ·rename_i hc hn
      injection h with h
      injection h with h3 h4
      subst h3;subst h4
      refine ⟨by rw [bF,qm],Hf ?_ (by simpa using CN (c::s))⟩
      show List.take _ _≠[]
      intro e
      have:=congrArg List.length e
      rw [dD] at this
      have h5:=BB (c::s)
      simp only [dz] at this
      omega
  ·rw [uM] at h
   split at h
   ·cases h
   ·cases h
   ·rename_i k d s2 e
    obtain ⟨h3,h4⟩:=h1 s k _ e
    split at h
    ·rename_i hd
     injection h with h
     injection h with h5 h6
     subst h5;subst h6
     exact ⟨k,[],rfl,by rw [h3,hd,cH];simp,by simpa using h4⟩
    ·split at h
     ·rename_i _ hd
      obtain ⟨k2,yT,rfl,h6,h7⟩:=h2 _ _ _ _ h
      refine ⟨k,k2::yT,by simp,?_,fun q hq=>?_⟩
      ·rw [h3,hd,h6,cH];simp
      ·rcases bX.1 hq with rfl | hq
       ·exact h4
       ·exact h7 q hq
     ·cases h
mutual
theorem Ji:∀(r:RT),l8 r->∀(d:UInt8) (s:List UInt8),d∈bT->gZ (bF r++d::s)=some (r,d::s)
 | .node nm [],h,d,s,hd=>by
  obtain ⟨_,h1⟩:=h _ (by rw [bW];exact qj)
  obtain ⟨h1,h2⟩:=h1 rfl
  have h1:nm.data.toList≠[]:=h1
  have h2:∀c∈nm.data.toList,c∉bT:=h2
  rw [bF]
  cases hn:nm.data.toList with
  | nil=>exact absurd hn h1
  | cons c n =>
   rw [hn] at h2
   have hc:c≠40:=fun e=>h2 c (by simp) (by rw [e];decide)
   have hl:=Fe (c::n) d s h2 hd
   rw [bz] at hl ⊢
   rw [jc _ hc,hl,if_neg (by simp),<- bz,List.take_left,List.drop_left]
   have e:(⟨(c::n).toArray⟩:ByteArray)=nm:=fH (by rw [hn])
   rw [e]
 | .node nm (k::ks),h,d,s,hd=>by
  obtain ⟨h1,_⟩:=h _ (by rw [bW];exact qj)
  have h1:nm=ByteArray.empty:=Hg (h1 (by simp [RT.kids]))
  have e:bF k++cH ks++[41]++d::s=(bF k++cH ks)++41::(d::s):=by simp
  rw [bF,bz,Jg,e,h1]
  exact PL (k::ks) (by simp) (fun q hq=>r8 h hq) [] (d::s)
theorem PL:∀(qs:List RT),qs≠[]->(∀q∈qs,l8 q)->∀(Z:List RT) (s:List UInt8),tL Z ((match qs with | []=>[] | k::ks=>bF k++cH ks)++41::s)=some (.node ByteArray.empty (Z++qs),s)
 | [],h,_,_,_=>absurd rfl h
 | [k],_,h,Z,s=>by
  show tL Z ((bF k++cH [])++41::s)=_
  rw [Jh,cH,fM,Ji k (h k (by simp)) 41 s (by decide)]
  rfl
 | k::k2::ks,_,h,Z,s=>by
  have e:(bF k++cH (k2::ks))++41::s=bF k++44::(bF k2++cH ks++41::s):=by rw [cH];simp
  have ih:=PL (k2::ks) (by simp) (fun q hq=>h q (by simp [hq])) (Z++[k]) s
  show tL Z ((bF k++cH (k2::ks))++41::s)=_
  rw [e,Jh,Ji k (h k (by simp)) 44 _ (by decide)]
  show (if (44:UInt8)=41 then _ else if (44:UInt8)=44 then tL (Z++[k]) (bF k2++cH ks++41::s) else none)=_
  rw [if_neg (by decide),if_pos rfl]
  have ih:tL (Z++[k]) (bF k2++cH ks++41::s)=_:=ih
  rw [ih];simp
end
theorem DF {s:List UInt8} {r:RT}:gZ s=some (r,[59])↔jM s=some r:=by
 constructor
 ·intro h
  obtain ⟨h1,h2⟩:=(DD _).1 s r [59] h;rw [h1];exact vQ h2
 ·intro h
  obtain ⟨h1,h2⟩:=ER h;rw [h1];exact Ji r h2 59 [] (by decide)
theorem Jj {s:List UInt8} {r:RT} {l:List UInt8} (h:gZ s=some (r,l)):aK r<=s.length:=by
 obtain ⟨h1,h2⟩:=(DD _).1 s r l h;have:=(zO r h2).1;rw [h1,bg];omega
end
end Go.Proofs.YthgabkgmkolobaaGreat
