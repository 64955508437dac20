/- Plain: the examples of layer 34 and of the top's chapter. The contract of layer 31's .. -/
import Derived.Shelf.Lays2
import Derived.Shelf.Slices.CompactI
import Derived.Test.YthgabkgmkolobaaGreatQ39
set_option maxRecDepth 100000
set_option maxHeartbeats 4000000
namespace Go.Proofs.YthgabkgmkolobaaGreat
section
def rH:List ByteArray:=[⟨#[65]⟩,⟨#[66]⟩,⟨#[67]⟩,⟨#[68]⟩]
def wh:List (List Int):=[[0],[0],[1],[1]]
def I6:List (List Int):=[[0,2],[0,-1],[1,3]]
def tJ:aF:=⟨[-1,0,0,2,2,4,4],[⟨#[]⟩,⟨#[65]⟩,⟨#[]⟩,⟨#[66]⟩,⟨#[]⟩,⟨#[67]⟩,⟨#[68]⟩]⟩
def Dz:aF:=⟨[-1,0,0,2,3,3,2],[⟨#[]⟩,⟨#[65]⟩,⟨#[]⟩,⟨#[]⟩,⟨#[66]⟩,⟨#[67]⟩,⟨#[68]⟩]⟩
def DA:aF:=⟨[-1,0,0,2,3,3,2],[⟨#[]⟩,⟨#[65]⟩,⟨#[]⟩,⟨#[]⟩,⟨#[66]⟩,⟨#[68]⟩,⟨#[67]⟩]⟩
theorem Pp:allT rH=[Dz,DA,tJ]:=by decide +kernel
theorem I7:iY rH wh=0:=by decide +kernel
theorem Yk:cE tJ rH wh=1/\cE Dz rH wh=2/\cE DA rH wh=2:=by decide +kernel
theorem I8:eu rH wh=1:=by
 obtain ⟨h1,h2,h3⟩:=Yk;unfold eu;rw [Pp];show nX (fun k=>cE (gt [Dz,DA,tJ] k) rH wh) 3=1;have e0:cE (gt [Dz,DA,tJ] 0) rH wh=2:=h2;have e1:cE (gt [Dz,DA,tJ] 1) rH wh=2:=h3;have e2:cE (gt [Dz,DA,tJ] 2) rH wh=1:=h1;simp [nX,e0,e1,e2]
theorem UC:nC rH wh=[tJ]:=by
 obtain ⟨h1,h2,h3⟩:=Yk;unfold nC;rw [Pp,I8];simp [h1,h2,h3]
theorem Bw:cB I6=0/\I5 I6=2:=by decide +kernel
end
section
open Go.RowKit Go.Deep
theorem UD {a b:List Int} (hl:a.length=b.length) (h:∀k,k<a.length->gi a k=gi b k):a=b:=by
 refine tU hl fun k h1 h2=>?_;have:=h k h1;simpa [gi,h1,h2] using this
theorem UE {a b:List ByteArray} (hl:a.length=b.length) (h:∀k,k<a.length->gs a k=gs b k):a=b:=by
 refine tU hl fun k h1 h2=>?_;have:=h k h1;simpa [gs,h1,h2] using this
theorem UF {t u:aF} (h1:t.ps=u.ps) (h2:t.ns=u.ns):t=u:=by
 cases t;cases u;simp only at h1 h2;rw [h1,h2]
theorem JR (S T:Nat->Prop) (w:World) (v u:Value) (t q:aF) (h:aC S w v t) (h2:aC T w u q) (hp:t.ps.length<=1000000) (hn:t.ns.length<=1000000) (hne:t≠q) :
  Calls Tryz.prog 37 #[v,u] w fun e w'=>e=.returned (.bool false)/\Up w w':=by
 obtain ⟨P,N,rfl,hP,hN⟩:=h;obtain ⟨P2,N2,rfl,jw,jx⟩:=h2;obtain ⟨pp,pc,rfl,_,_⟩:=aA.open hP;obtain ⟨np,nc,rfl,_,_⟩:=aA.open hN;obtain ⟨th,tj,rfl,_,_⟩:=aA.open jw;obtain ⟨tq,tr,rfl,_,_⟩:=aA.open jx;have hP:ay S w (.slice pp t.ps.length pc) t.ps:=hP;have hN:av S w (.slice np t.ns.length nc) t.ns:=hN;have jw:ay T w (.slice th q.ps.length tj) q.ps:=jw;have jx:av T w (.slice tq q.ns.length tr) q.ns:=jx;have bw:=Up.alloc w (.cells #[.slice pp t.ps.length pc,.slice np t.ns.length nc] 39)
 have aJ:=Up.alloc (w.alloc (.cells #[.slice pp t.ps.length pc,.slice np t.ns.length nc] 39)) (.cells #[.slice th q.ps.length tj,.slice tq q.ns.length tr] 39);have hu:=bw.trans aJ;have a0:=aJ.cell (fO w (.slice pp t.ps.length pc) (.slice np t.ns.length nc) 39);have a1:=aJ.cell (fP w (.slice pp t.ps.length pc) (.slice np t.ns.length nc) 39);have b0:=fO (w.alloc (.cells #[.slice pp t.ps.length pc,.slice np t.ns.length nc] 39)) (.slice th q.ps.length tj) (.slice tq q.ns.length tr) 39
 have b1:=fP (w.alloc (.cells #[.slice pp t.ps.length pc,.slice np t.ns.length nc] 39)) (.slice th q.ps.length tj) (.slice tq q.ns.length tr) 39;rw [aL] at b0 b1;have HP:=aa (ay.keep hP (hu.kept S));have HN:=aa (av.keep hN (hu.kept S));have WU:=aa (ay.keep jw (hu.kept T));have Ho:=aa (av.keep jx (hu.kept T));have HU:=aa hu;have A0:=aa a0;have A1:=aa a1;have WV:=aa b0;have WW:=aa b1;have CA:=aa hne;have kV:=aa (And.intro hp hn);clear hP hN jw jx hu bw aJ hne hp hn
 by_cases l0:t.ps.length=q.ps.length
 rotate_left
 ·have d0:((t.ps.length:Int) != (q.ps.length:Int))=true:=bne_iff_ne.2 (by omega)
  go_enter Tryz.func37,Tryz.ntmps37
  go_wp2_with fail;go_ret;exact ⟨rfl,HU.out⟩
 by_cases l1:t.ns.length=q.ns.length
 rotate_left
 ·have d0:((t.ps.length:Int) != (q.ps.length:Int))=false:=by rw [l0];simp
  have d1:((t.ns.length:Int) != (q.ns.length:Int))=true:=bne_iff_ne.2 (by omega);have L0:=aa l0;clear l0
  go_enter Tryz.func37,Tryz.ntmps37
  go_wp2_with fail;go_ret;exact ⟨rfl,HU.out⟩
 have d0:((t.ps.length:Int) != (q.ps.length:Int))=false:=by rw [l0];simp
 have d1:((t.ns.length:Int) != (q.ns.length:Int))=false:=by rw [l1];simp
 have L0:=aa l0;have L1:=aa l1;clear l0 l1
 go_enter Tryz.func37,Tryz.ntmps37
 go_wp2_with fail;clear a0 a1 b0 b1;clear d0 d1;generalize (w.alloc (.cells #[.slice pp t.ps.length pc,.slice np t.ns.length nc] 39)).alloc (.cells #[.slice th q.ps.length tj,.slice tq q.ns.length tr] 39)=w1 at *
 go_loopw [5] (fun i wr=>∃k:Nat,k<=t.ps.length/\i=.int .i64 k/\Hid (QD w1 wr)/\Hid (∀j,j<k->gi t.ps j=gi q.ps j)) (fun i _=>t.ps.length - (intOf i).toNat)
 case atStart=>exact ⟨0,aI _,rfl,QD.refl _,fun j hj=>by omega⟩
 case round =>
  obtain ⟨k,hk,rfl,hQ,hd⟩:=hrel;have HD:=aa hd.out;clear hd;have a0:=hQ.out.up.cell A0.out;have b0:=hQ.out.up.cell WV.out;by_cases hlt:k<t.ps.length
  ·obtain ⟨b,off,rfl,hc⟩:=gp (ay.keep HP.out (hQ.out.kept S)) hlt
   obtain ⟨b2,off2,rfl,hc2⟩:=gp (ay.keep WU.out (hQ.out.kept T)) (by rw [<- L0.out];exact hlt);(have i1:(0:Int)<=(k:Int):=by omega);(have i2:(k:Int)<(t.ps.length:Int):=by omega);(have i4:(k:Int)<(q.ps.length:Int):=by have:=L0.out;omega);(have i3:(k:Int)<1000000:=by have:=kV.out.1;omega);have bG:=aa hlt;by_cases e:gi t.ps k=gi q.ps k
   ·have j1:(gi t.ps k != gi q.ps k)=false:=by rw [e];simp
    have Yl:Hid (∀j,j<k+1->gi t.ps j=gi q.ps j):=fun j hj=>by
     by_cases x:j=k
     ·rw [x];exact e
     ·exact HD.out j (by omega)
    clear e hlt hk;generalize gi t.ps k=x at *;generalize gi q.ps k=y at *;go_wp2_with fail;(go_quiet (fail));go_wp2_with fail
    go_roundw
    case rel=>exact ⟨k+1,bG.out,by go_num,hQ.out.drewN nq,Yl.out⟩
    case measure=>have:=bG.out;simp [intOf];omega
   ·have j1:(gi t.ps k != gi q.ps k)=true:=bne_iff_ne.2 e
    clear hlt hk;generalize gi t.ps k=x at *;generalize gi q.ps k=y at *;go_wp2_with fail;(go_quiet (fail));go_wp2_with fail;go_ret;exact ⟨rfl,HU.out.trans (hQ.out.drewN nq).up⟩
  ·obtain rfl:k=t.ps.length:=by omega
   have WX:=aa hQ.out;have Pq:Hid (t.ps=q.ps):=UD L0.out HD.out;(have m1:¬(t.ps.length:Int)<(t.ps.length:Int):=by omega);clear hlt hk;go_wp2_with fail
   go_loopw [6] (fun i wr=>∃k:Nat,k<=t.ns.length/\i=.int .i64 k/\Hid (QD w1 wr)/\Hid (∀j,j<k->gs t.ns j=gs q.ns j)) (fun i _=>t.ns.length - (intOf i).toNat)
   case atStart=>exact ⟨0,aI _,rfl,WX.out,fun j hj=>by omega⟩
   case round =>
    obtain ⟨k,hk,rfl,hQ,hd⟩:=hrel;have HD:=aa hd.out;clear hd;have a1:=hQ.out.up.cell A1.out;have b1:=hQ.out.up.cell WW.out;by_cases hlt:k<t.ns.length
    ·obtain ⟨b,off,rfl,hc⟩:=cA (av.keep HN.out (hQ.out.kept S)) hlt
     obtain ⟨b2,off2,rfl,hc2⟩:=cA (av.keep Ho.out (hQ.out.kept T)) (by rw [<- L1.out];exact hlt);(have i1:(0:Int)<=(k:Int):=by omega);(have i2:(k:Int)<(t.ns.length:Int):=by omega);(have i4:(k:Int)<(q.ns.length:Int):=by have:=L1.out;omega);(have i3:(k:Int)<1000000:=by have:=kV.out.2;omega);have bG:=aa hlt;by_cases e:gs t.ns k=gs q.ns k
     ·have j1:((gs t.ns k).toList==(gs q.ns k).toList)=true:=by rw [e];simp
      have Yl:Hid (∀j,j<k+1->gs t.ns j=gs q.ns j):=fun j hj=>by
       by_cases x:j=k
       ·rw [x];exact e
       ·exact HD.out j (by omega)
      clear e hlt hk;generalize gs t.ns k=x at *;generalize gs q.ns k=y at *;go_wp2_with fail;(go_quiet (fail));go_wp2_with fail
      go_roundw
      case rel=>exact ⟨k+1,bG.out,by go_num,hQ.out.drewN nq,Yl.out⟩
      case measure=>have:=bG.out;simp [intOf];omega
     ·have j1:((gs t.ns k).toList==(gs q.ns k).toList)=false:=by
       rw [beq_eq_false_iff_ne,toList_data,toList_data]
       exact fun h=>e (fH h)
      clear hlt hk e
      generalize gs t.ns k=x at *
      generalize gs q.ns k=y at *
      go_wp2_with fail
      go_quiet (fail)
      go_wp2_with fail
      go_ret
      exact ⟨rfl,HU.out.trans (hQ.out.drewN nq).up⟩
    ·obtain rfl:k=t.ns.length:=by omega
     exact absurd (UF Pq.out (UE L1.out HD.out)) CA.out
theorem CK (S T:Nat->Prop) (w:World) (v u:Value) (t q:aF) (h:aC S w v t) (h2:aC T w u q) (hp:t.ps.length<=1000000) (hn:t.ns.length<=1000000) :
  Calls Tryz.prog 37 #[v,u] w fun e w'=>e=.returned (.bool (decide (t=q)))/\Up w w':=by
 by_cases e:t=q
 ·subst e
  rw [decide_eq_true rfl];exact Hl S T w v u t h h2 hp hn
 ·rw [decide_eq_false e]
  exact JR S T w v u t q h h2 hp hn e
theorem MC {a b:List aF} (hl:a.length=b.length):(a=b)↔∀k,k<a.length->gt a k=gt b k:=by
 constructor
 ·rintro rfl k _;rfl
 ·intro h
  refine tU hl fun i h1 h2=>?_;have:=h i h1;simpa [gt,h1,h2] using this
theorem Fo (S T:Nat->Prop) (w:World) (v u:Value) (a b:List aF) (h:ew S w v a) (h2:ew T w u b) (hn:a.length<=1000000) (hz:∀k,(gt a k).ps.length<=1000000/\(gt a k).ns.length<=1000000) :
  Calls Tryz.prog 44 #[v,u] w fun e w'=>e=.returned (.bool (decide (a=b)))/\Up w w':=by
 obtain ⟨p,cap,rfl,hcap⟩:=o6 h;obtain ⟨q,eR,rfl,BO⟩:=o6 h2;have HX:=aa h;have HY:=aa h2;have HZ:=aa hz;clear h h2 hz;by_cases hl:a.length=b.length
 ·have HS:=aa (MC hl)
  have jg:((a.length:Int) != (b.length:Int))=false:=by simp [hl]
  have HL:=aa hl;clear hl
  go_enter Tryz.func44,Tryz.ntmps44
  go_wp2_with fail;clear jg
  go_loopw [4,5] (fun _ i wr=>∃k:Nat,k<=a.length/\i=.int .i64 k/\Hid (Up w wr/\∀j,j<k->gt a j=gt b j)) (fun _ i _=>a.length - (intOf i).toNat)
  case atStart=>exact ⟨0,aI _,rfl,Up.refl _,fun j hj=>absurd hj (bS _)⟩
  case round =>
   obtain ⟨k,hk,rfl,hI⟩:=hrel;obtain ⟨wo,rfl⟩:∃wo:World,wo=wr:=⟨_,rfl⟩;by_cases hlt:k<a.length
   ·obtain ⟨ab,ao,pp,pc,np,nc,rfl,c0,c1,hT⟩:=E9 (HX.out.keep (hI.out.1.kept S)) hlt
    obtain ⟨bb,bo,th,tj,tq,tr,rfl,d0,d1,Ym⟩:=E9 (HY.out.keep (hI.out.1.kept T)) (k:=k) (by rw [<- HL.out];exact hlt);have HST:=aa (CK S T wo _ _ _ _ hT Ym (HZ.out k).1 (HZ.out k).2);(have i1:(0:Int)<=(k:Int):=by omega);(have i2:(k:Int)<(a.length:Int):=by omega);(have i3:(k:Int)<(b.length:Int):=by have:=HL.out;omega);have CA:Hid (gt a k≠gt b k->decide (a=b)=false):=fun hne=>decide_eq_false fun e=>hne (HS.out.1 e k hlt);have EF:Hid (gt a k=gt b k->Up w wo/\∀j,j<k+1->gt a j=gt b j):=fun e=>⟨hI.out.1,fun j hj=>if e2:j=k then by subst e2;exact e else hI.out.2 j (by omega)⟩
    have x4:=aa hI.out.1;replace HST:Hid (Calls Tryz.prog 37 #[.agg #[.slice pp (gt a k).ps.length pc,.slice np (gt a k).ns.length nc],.agg #[.slice th (gt b k).ps.length tj,.slice tq (gt b k).ns.length tr]] wo.drew fun e w'=>e=.returned (.bool (decide (gt a k=gt b k)))/\Up wo w'):=(CK S T wo.drew _ _ _ _ (hT.keep ((Up.drewN wo 1).kept _)) (Ym.keep ((Up.drewN wo 1).kept _)) (HZ.out k).1 (HZ.out k).2).mono fun e w' ⟨h1,h2⟩=>⟨h1,(Up.drewN wo 1).trans h2⟩;clear hT Ym hI;generalize gt a k=x at *;generalize gt b k=y at *;by_cases e:x=y
    ·have d9:decide (x=y)=true:=decide_eq_true e
     rw [d9] at HST;have Yn:=aa (EF.out e);clear e d9 CA EF;go_wp2_with fail;refine eC (by kernel_rfl) 9 (fun w'=>w'.cell? ⟨ab,ao+k*2,none⟩=some (.slice pp x.ps.length pc)/\w'.cell? ⟨ab,ao+k*2+1,none⟩=some (.slice np x.ns.length nc)/\w'.cell? ⟨bb,bo+k*2,none⟩=some (.slice th y.ps.length tj)/\w'.cell? ⟨bb,bo+k*2+1,none⟩=some (.slice tq y.ns.length tr)) ⟨c0,c1,d0,d1⟩ (fun hS=>?_);simp only [fo,aO,dz,Nat.reduceAdd,ic,ig,fk,cw,bz];refine af.tk 0 hS ?_
     (try simp only [Act.put,aj,aq,au]);refine af.tk 1 hS ?_;(try simp only [Act.put,aj,aq,au]);refine af.tk 2 hS ?_;(try simp only [Act.put,aj,aq,au]);refine af.tk 3 hS ?_;(try simp only [Act.put,aj,aq,au]);refine af.tk 4 hS ?_;(try simp only [Act.put,aj,aq,au]);refine af.tk 5 hS ?_
     (try simp only [Act.put,aj,aq,au]);refine af.tk 6 hS ?_;(try simp only [Act.put,aj,aq,au]);refine af.tk 7 hS ?_;(try simp only [Act.put,aj,aq,au]);refine af.step (i:=8) rfl (by kernel_rfl) (fun K' hK=>?_);go_simp;refine HST.out.mono ?_;rintro e w2 ⟨rfl,hu⟩;refine hK.out _ _ (aS (by kernel_rfl)) (fun hS=>?_);try simp only [aj,aq,au]
     refine af.step (i:=9) rfl (by kernel_rfl) (fun K' hK=>?_);go_simp;refine hK.out _ _ (aS (by kernel_rfl)) (fun hS=>?_);refine af.done (by kernel_rfl) ?_;have HI2:Hid (Up w w2/\∀j,j<k+1->gt a j=gt b j):=⟨Yn.out.1.trans hu,Yn.out.2⟩;clear hu;go_wp2_with fail
     go_roundw
     case rel=>exact ⟨k+1,by omega,by go_num,HI2.out⟩
     case measure=>simp [intOf];omega
    ·have d9:decide (x=y)=false:=decide_eq_false e
     rw [d9] at HST;have HF:=aa (CA.out e);clear e d9 CA EF;go_wp2_with fail;refine eC (by kernel_rfl) 9 (fun w'=>w'.cell? ⟨ab,ao+k*2,none⟩=some (.slice pp x.ps.length pc)/\w'.cell? ⟨ab,ao+k*2+1,none⟩=some (.slice np x.ns.length nc)/\w'.cell? ⟨bb,bo+k*2,none⟩=some (.slice th y.ps.length tj)/\w'.cell? ⟨bb,bo+k*2+1,none⟩=some (.slice tq y.ns.length tr)) ⟨c0,c1,d0,d1⟩ (fun hS=>?_);simp only [fo,aO,dz,Nat.reduceAdd,ic,ig,fk,cw,bz];refine af.tk 0 hS ?_
     (try simp only [Act.put,aj,aq,au]);refine af.tk 1 hS ?_;(try simp only [Act.put,aj,aq,au]);refine af.tk 2 hS ?_;(try simp only [Act.put,aj,aq,au]);refine af.tk 3 hS ?_;(try simp only [Act.put,aj,aq,au]);refine af.tk 4 hS ?_;(try simp only [Act.put,aj,aq,au]);refine af.tk 5 hS ?_
     (try simp only [Act.put,aj,aq,au]);refine af.tk 6 hS ?_;(try simp only [Act.put,aj,aq,au]);refine af.tk 7 hS ?_;(try simp only [Act.put,aj,aq,au]);refine af.step (i:=8) rfl (by kernel_rfl) (fun K' hK=>?_);go_simp;refine HST.out.mono ?_;rintro e w2 ⟨rfl,hu⟩;refine hK.out _ _ (aS (by kernel_rfl)) (fun hS=>?_);try simp only [aj,aq,au]
     refine af.step (i:=9) rfl (by kernel_rfl) (fun K' hK=>?_);go_simp;refine hK.out _ _ (aS (by kernel_rfl)) (fun hS=>?_);refine af.done (by kernel_rfl) ?_;have bY:=aa (x4.out.trans hu);clear hu;go_wp2_with fail;go_ret;exact ⟨bA HF.out.symm,bY.out⟩
   ·obtain rfl:k=a.length:=by omega
    have HF:Hid (decide (a=b)=true):=decide_eq_true (HS.out.2 hI.out.2);go_wp2_with fail;go_ret;exact ⟨bA HF.out.symm,hI.out.1⟩
 ·have HF:Hid (decide (a=b)=false):=decide_eq_false fun e=>hl (by rw [e])
  have jg:((a.length:Int) != (b.length:Int))=true:=by simp;omega
  clear hl
  go_enter Tryz.func44,Tryz.ntmps44
  go_wp2_with fail;go_ret;exact ⟨bA HF.out.symm,Up.refl _⟩
end
end Go.Proofs.YthgabkgmkolobaaGreat
namespace Go.Proofs
open Go.Shelf
def Tryz.compactZ_ren:Go.Shelf.Ren:=⟨fun | 20=>72 | n=>n,fun | 22=>26 | 3=>3 | 4=>4 | 0=>0 | n=>n,fun | n=>n⟩
theorem Tryz.compactZ:Go.Proofs.Lays2.n20 Tryz.prog Tryz.compactZ_ren:={
 mixed:=by kernel_rfl
 f20:=Tryz.func72.trans (congrArg some (by kernel_rfl))
 t0:=Tryz.underlying0
 a0:=Tryz.isAgg0
 z0:=Tryz.sizeOf0
 v0:=Tryz.zeroValue0
 t3:=Tryz.underlying3
 a3:=Tryz.isAgg3
 z3:=Tryz.sizeOf3
 v3:=Tryz.zeroValue3
 t4:=Tryz.underlying4
 a4:=Tryz.isAgg4
 z4:=Tryz.sizeOf4
 v4:=Tryz.zeroValue4
 t22:=Tryz.underlying26
 a22:=Tryz.isAgg26
 z22:=Tryz.sizeOf26
 v22:=Tryz.zeroValue26
 i3:=by kernel_rfl }
end Go.Proofs
namespace Go.Proofs.YthgabkgmkolobaaGreat
section
open Go.RowKit Go.Shelf Go.Deep Go.Sort
theorem JS {w:World} {g n:Nat} (d:Array Int):w.grownBy (putRow (Value.int .i64) (Sort.ahead w n) g 0 d) (some g):=by
 refine ⟨rfl,rfl,rfl,by simp [putRow,mapBlock,Sort.ahead],fun k hk hne=>?_⟩;have:g≠k:=fun e=>hne (by rw [e]);simp [putRow,mapBlock,Sort.ahead,Array.getElem?_modify,this]
theorem Pr (w w1:World) (v:Value) (xs:List Int) (hu:Up w w1) (ho:ax w.heap.size 3 w1 v (xs.map (Value.int .i64))) (hlen:xs.length<=1000000) :
  Calls Tryz.prog 72 #[v] w1 fun e w'=>(∃p cap,e=.returned (.slice p (Lib.compact xs).length cap))/\Up w w':=by
 rcases ho.2 with ⟨rfl,h0⟩ | ⟨g,cap,cur,rfl,hg,hc,hn,hcm,hcs,ht⟩
 ·have hx:xs=[]:=by cases xs with | nil=>rfl | cons _ _=>simp at h0
  subst hx;refine (Any.slices_Compact_int_empty Tryz.compactZ none 0 w1).mono ?_;rintro e w' ⟨rfl,rfl⟩;exact ⟨⟨_,_,rfl⟩,hu⟩
 ·simp only [aD] at hn ht ho ⊢
  refine (Any.slices_Compact_int Tryz.compactZ g 0 cap xs w1 (holds_of_blockI hc (by simpa using ht)) (by omega) (by omega)).mono ?_;rintro e w' ⟨rfl,q,rfl⟩;exact ⟨⟨_,_,rfl⟩,Below.grown hu (JS _) hu.size (fun j hj=>by cases hj;exact hg)⟩
end
section
open Go
theorem mH (l:List Int) (j:Nat):l.toArray[j]! = gi l j:=by
 unfold gi;by_cases h:j<l.length
 ·simp [h]
 ·simp [h]
theorem vg (l:List Int) (x:Int):∀m,x∈Lib.compactUpTo l.toArray m↔∃j,j<m/\gi l j=x
 | 0=>by simp [Lib.compactUpTo]
 | m+1=>by
  rw [Lib.compactUpTo_succ,cu,vg l x m,mH]
  constructor
  ·rintro (⟨j,hj,e⟩ | h)
   ·exact ⟨j,by omega,e⟩
   ·by_cases hk:Lib.keeps l.toArray m=true
    ·rw [if_pos hk] at h;exact ⟨m,by omega,(jT.1 h).symm⟩
    ·rw [if_neg hk] at h;cases h
  ·rintro ⟨j,hj,e⟩
   by_cases hjm:j=m
   ·subst hjm
    by_cases hk:Lib.keeps l.toArray j=true
    ·rw [if_pos hk];exact .inr (by simp [e])
    ·unfold Lib.keeps at hk
     rw [mH,mH] at hk
     simp only [decide_eq_true_eq,not_or,ne_eq,Classical.not_not] at hk
     exact .inl ⟨j - 1,by omega,by rw [<- hk.2];exact e⟩
   ·exact .inl ⟨j,by omega,e⟩
theorem x6 {l:List Int} (hs:∀i j,i<j->j<l.length->gi l i<=gi l j):∀m,m<=l.length->(Lib.compactUpTo l.toArray m).Nodup
 | 0,_=>by simp [Lib.compactUpTo]
 | m+1,h=>by
  rw [Lib.compactUpTo_succ,gy]
  refine ⟨x6 hs m (by omega),by split<;>simp,fun a ha b hb e=>?_⟩
  subst e
  obtain ⟨j,hj,e⟩:=(vg l a m).1 ha
  by_cases hk:Lib.keeps l.toArray m=true
  ·rw [if_pos hk,mH] at hb
   have hb:a=gi l m:=by simpa using hb
   unfold Lib.keeps at hk
   rw [mH,mH] at hk
   simp only [decide_eq_true_eq,ne_eq] at hk
   have hne:gi l m≠gi l (m - 1):=hk.resolve_left (by omega)
   have h1:gi l j<=gi l (m - 1):=by
    by_cases e2:j=m - 1
    ·rw [e2];exact nw _
    ·exact hs j (m - 1) (by omega) (by omega)
   have h2:=hs (m - 1) m (by omega) (by omega)
   omega
  ·rw [if_neg hk] at hb;cases hb
theorem R4 (xs:List Int):∀i j,i<j->j<(jU xs).length->gi (jU xs) i<=gi (jU xs) j:=fun i j hij hj=>by
 have hp:(jU xs).Pairwise fun a b=>decide (a<=b)=true:=List.pairwise_mergeSort (le:=fun x y=>decide (x<=y)) (fun a b c h1 h2=>by simp at *;omega) (fun a b=>by simp;omega) xs
 have:=rK.1 hp i j (by omega) hj hij
 have hi:i<(jU xs).length:=by omega
 simpa [gi,hi,hj] using this
theorem Pt {xs:List Int} {x:Int}:x∈jU xs↔x∈xs:=(List.mergeSort_perm xs _).mem_iff
theorem Fb (xs:List Int):(Lib.compact (jU xs)).length=(dd xs).length:=by
 have hn:=x6 (R4 xs) _ (ah _);have hm:∀x,x∈Lib.compact (jU xs)↔x∈dd xs:=fun x=>by
  unfold Lib.compact;rw [vg,vV,<- Pt];constructor
  ·rintro ⟨j,hj,e⟩;rw [<- e];exact yf hj
  ·intro h;exact OT h
 exact Nat.le_antisymm (List.Nodup.length_le_of_subset hn fun x hx=>(hm x).1 hx) (List.Nodup.length_le_of_subset (tD xs) fun x hx=>(hm x).2 hx)
theorem JT {st:List Int} {k:Nat} (hk:k<st.length):dO (st.take (k+1))=dO (st.take k)++(if 0<=gi st k then [gi st k] else []):=by
 rw [TW hk];unfold dO;rw [wD];congr 1;by_cases h:0<=gi st k
 ·rw [if_pos h];simp [h]
 ·rw [if_neg h];simp [h]
theorem Pu (st:List Int) (k:Nat):(dO (st.take k)).length<=k:=aR (tW _ _) (by simp;omega)
end
end Go.Proofs.YthgabkgmkolobaaGreat
