/- The contract of layer 31's reference's .. -/
import Derived.Shelf.Lays2
import Derived.Shelf.Slices.CompactI
import Derived.Test.YthgabkgmkolobaaGreatQ38
set_option maxRecDepth 100000
set_option maxHeartbeats 4000000
namespace Go.Proofs.YthgabkgmkolobaaGreat
section
open Go.RowKit Go.Deep
theorem afg {a b:List Int} (hl:a.length=b.length) (h:∀k,k<a.length->gi a k=gi b k):a=b:=by
 refine tY hl fun k h1 h2=>?_;have:=h k h1;simpa [gi,h1,h2] using this
theorem afh {a b:List ByteArray} (hl:a.length=b.length) (h:∀k,k<a.length->gs a k=gs b k):a=b:=by
 refine tY hl fun k h1 h2=>?_;have:=h k h1;simpa [gs,h1,h2] using this
theorem afi {t u:ax} (h1:t.ps=u.ps) (h2:t.ns=u.ns):t=u:=by
 cases t;cases u;simp only at h1 h2;rw [h1,h2]
theorem Tr (S T:Nat->Prop) (w:World) (v u:Value) (t q:ax) (h:aG S w v t) (h2:aG T w u q) (hp:t.ps.length<=1000000) (hn:t.ns.length<=1000000) (hne:t≠q) :
  Calls Tryz.prog 37 #[v,u] w fun e w'=>e=.returned (.bool false)/\Up w w':=by
 obtain ⟨P,N,rfl,hP,hN⟩:=h;obtain ⟨P2,N2,rfl,uD,wH⟩:=h2;obtain ⟨pp,pc,rfl,_,_⟩:=aq.open hP;obtain ⟨np,nc,rfl,_,_⟩:=aq.open hN;obtain ⟨xB,xC,rfl,_,_⟩:=aq.open uD;obtain ⟨zo,zq,rfl,_,_⟩:=aq.open wH;have hP:af S w (.slice pp t.ps.length pc) t.ps:=hP;have hN:aj S w (.slice np t.ns.length nc) t.ns:=hN;have uD:af T w (.slice xB q.ps.length xC) q.ps:=uD;have wH:aj T w (.slice zo q.ns.length zq) q.ns:=wH;have bK:=Up.alloc w (.cells #[.slice pp t.ps.length pc,.slice np t.ns.length nc] 39);have aI:=Up.alloc (w.alloc (.cells #[.slice pp t.ps.length pc,.slice np t.ns.length nc] 39)) (.cells #[.slice xB q.ps.length xC,.slice zo q.ns.length zq] 39);have hu:=bK.trans aI;have a0:=aI.cell (iq w (.slice pp t.ps.length pc) (.slice np t.ns.length nc) 39);have a1:=aI.cell (jg w (.slice pp t.ps.length pc) (.slice np t.ns.length nc) 39);have b0:=iq (w.alloc (.cells #[.slice pp t.ps.length pc,.slice np t.ns.length nc] 39)) (.slice xB q.ps.length xC) (.slice zo q.ns.length zq) 39;have b1:=jg (w.alloc (.cells #[.slice pp t.ps.length pc,.slice np t.ns.length nc] 39)) (.slice xB q.ps.length xC) (.slice zo q.ns.length zq) 39;rw [aQ] at b0 b1;have HP:=aa (af.keep hP (hu.kept S));have HN:=aa (aj.keep hN (hu.kept S));have HP2:=aa (af.keep uD (hu.kept T));have oB:=aa (aj.keep wH (hu.kept T));have HU:=aa hu;have A0:=aa a0;have A1:=aa a1;have B0':=aa b0;have B1':=aa b1;have ve:=aa hne;have lQ:=aa (And.intro hp hn);clear hP hN uD wH hu bK aI hne hp hn;by_cases l0:t.ps.length=q.ps.length
 rotate_left
 ·have d0:((t.ps.length:Int) != (q.ps.length:Int))=true:=bne_iff_ne.2 (by omega)
  go_in;go_wp2;go_ret;exact ⟨rfl,HU.out⟩
 by_cases l1:t.ns.length=q.ns.length
 rotate_left
 ·have d0:((t.ps.length:Int) != (q.ps.length:Int))=false:=by rw [l0];simp
  have d1:((t.ns.length:Int) != (q.ns.length:Int))=true:=bne_iff_ne.2 (by omega);have L0:=aa l0;clear l0;go_in;go_wp2;go_ret;exact ⟨rfl,HU.out⟩
 have d0:((t.ps.length:Int) != (q.ps.length:Int))=false:=by rw [l0];simp
 have d1:((t.ns.length:Int) != (q.ns.length:Int))=false:=by rw [l1];simp
 have L0:=aa l0;have L1:=aa l1;clear l0 l1;go_in;go_wp2_with fail;clear a0 a1 b0 b1;clear d0 d1;generalize (w.alloc (.cells #[.slice pp t.ps.length pc,.slice np t.ns.length nc] 39)).alloc (.cells #[.slice xB q.ps.length xC,.slice zo q.ns.length zq] 39)=w1 at *
 go_loopw [5] (fun i wr=>∃k:Nat,k<=t.ps.length/\i=.int .i64 k/\Hid (QD w1 wr)/\Hid (∀j,j<k->gi t.ps j=gi q.ps j)) (fun i _=>t.ps.length - (intOf i).toNat)
 case atStart=>exact ⟨0,aF _,rfl,QD.refl _,fun j hj=>by omega⟩
 case round =>
  obtain ⟨k,hk,rfl,hQ,hd⟩:=hrel;have HD:=aa hd.out;clear hd;have a0:=hQ.out.up.cell A0.out;have b0:=hQ.out.up.cell B0'.out;by_cases hlt:k<t.ps.length
  ·obtain ⟨b,off,rfl,hc⟩:=bU (af.keep HP.out (hQ.out.kept S)) hlt
   obtain ⟨b2,off2,rfl,hc2⟩:=bU (af.keep HP2.out (hQ.out.kept T)) (by rw [<- L0.out];exact hlt);(have i1:(0:Int)<=(k:Int):=by omega);(have i2:(k:Int)<(t.ps.length:Int):=by omega);(have i4:(k:Int)<(q.ps.length:Int):=by have:=L0.out;omega);(have i3:(k:Int)<1000000:=by have:=lQ.out.1;omega);have aR:=aa hlt;by_cases e:gi t.ps k=gi q.ps k
   ·have j1:(gi t.ps k != gi q.ps k)=false:=by rw [e];simp
    have KA:Hid (∀j,j<k+1->gi t.ps j=gi q.ps j):=fun j hj=>by
     by_cases x:j=k
     ·rw [x];exact e
     ·exact HD.out j (by omega)
    clear e hlt hk;generalize gi t.ps k=x at *;generalize gi q.ps k=y at *;go_wp2;(go_quiet (fail));go_wp2
    go_roundw
    case rel=>exact ⟨k+1,aR.out,by go_num,hQ.out.drewN nq,KA.out⟩
    case measure=>have:=aR.out;simp [intOf];omega
   ·have j1:(gi t.ps k != gi q.ps k)=true:=bne_iff_ne.2 e
    clear hlt hk;generalize gi t.ps k=x at *;generalize gi q.ps k=y at *;go_wp2;(go_quiet (fail));go_wp2;go_ret;exact ⟨rfl,HU.out.trans (hQ.out.drewN nq).up⟩
  ·obtain rfl:k=t.ps.length:=by omega
   have HQ0:=aa hQ.out;have HPS:Hid (t.ps=q.ps):=afg L0.out HD.out;(have m1:¬(t.ps.length:Int)<(t.ps.length:Int):=by omega);clear hlt hk;go_wp2
   go_loopw [6] (fun i wr=>∃k:Nat,k<=t.ns.length/\i=.int .i64 k/\Hid (QD w1 wr)/\Hid (∀j,j<k->gs t.ns j=gs q.ns j)) (fun i _=>t.ns.length - (intOf i).toNat)
   case atStart=>exact ⟨0,aF _,rfl,HQ0.out,fun j hj=>by omega⟩
   case round =>
    obtain ⟨k,hk,rfl,hQ,hd⟩:=hrel;have HD:=aa hd.out;clear hd;have a1:=hQ.out.up.cell A1.out;have b1:=hQ.out.up.cell B1'.out;by_cases hlt:k<t.ns.length
    ·obtain ⟨b,off,rfl,hc⟩:=cH (aj.keep HN.out (hQ.out.kept S)) hlt
     obtain ⟨b2,off2,rfl,hc2⟩:=cH (aj.keep oB.out (hQ.out.kept T)) (by rw [<- L1.out];exact hlt);(have i1:(0:Int)<=(k:Int):=by omega);(have i2:(k:Int)<(t.ns.length:Int):=by omega);(have i4:(k:Int)<(q.ns.length:Int):=by have:=L1.out;omega);(have i3:(k:Int)<1000000:=by have:=lQ.out.2;omega);have aR:=aa hlt;by_cases e:gs t.ns k=gs q.ns k
     ·have j1:((gs t.ns k).toList==(gs q.ns k).toList)=true:=by rw [e];simp
      have KA:Hid (∀j,j<k+1->gs t.ns j=gs q.ns j):=fun j hj=>by
       by_cases x:j=k
       ·rw [x];exact e
       ·exact HD.out j (by omega)
      clear e hlt hk;generalize gs t.ns k=x at *;generalize gs q.ns k=y at *;go_wp2;(go_quiet (fail));go_wp2
      go_roundw
      case rel=>exact ⟨k+1,aR.out,by go_num,hQ.out.drewN nq,KA.out⟩
      case measure=>have:=aR.out;simp [intOf];omega
     ·have j1:((gs t.ns k).toList==(gs q.ns k).toList)=false:=by
       rw [beq_eq_false_iff_ne,toList_data,toList_data]
       exact fun h=>e (yD h)
      clear hlt hk e
      generalize gs t.ns k=x at *
      generalize gs q.ns k=y at *
      go_wp2
      go_quiet (fail)
      go_wp2
      go_ret
      exact ⟨rfl,HU.out.trans (hQ.out.drewN nq).up⟩
    ·obtain rfl:k=t.ns.length:=by omega
     exact absurd (afi HPS.out (afh L1.out HD.out)) ve.out
theorem DF (S T:Nat->Prop) (w:World) (v u:Value) (t q:ax) (h:aG S w v t) (h2:aG T w u q) (hp:t.ps.length<=1000000) (hn:t.ns.length<=1000000) :
  Calls Tryz.prog 37 #[v,u] w fun e w'=>e=.returned (.bool (decide (t=q)))/\Up w w':=by
 by_cases e:t=q
 ·subst e
  rw [decide_eq_true rfl];exact QG S T w v u t h h2 hp hn
 ·rw [decide_eq_false e]
  exact Tr S T w v u t q h h2 hp hn e
theorem WY {a b:List ax} (hl:a.length=b.length):(a=b)↔∀k,k<a.length->gt a k=gt b k:=by
 constructor
 ·rintro rfl k _;rfl
 ·intro h
  refine tY hl fun i h1 h2=>?_;have:=h i h1;simpa [gt,h1,h2] using this
theorem Oq (S T:Nat->Prop) (w:World) (v u:Value) (a b:List ax) (h:fQ S w v a) (h2:fQ T w u b) (hn:a.length<=1000000) (hz:∀k,(gt a k).ps.length<=1000000/\(gt a k).ns.length<=1000000) :
  Calls Tryz.prog 44 #[v,u] w fun e w'=>e=.returned (.bool (decide (a=b)))/\Up w w':=by
 obtain ⟨p,cap,rfl,hcap⟩:=nH h;obtain ⟨q,dF,rfl,xP⟩:=nH h2;have HX:=aa h;have HY:=aa h2;have HZ:=aa hz;clear h h2 hz;by_cases hl:a.length=b.length
 ·have HS:=aa (WY hl)
  have jC:((a.length:Int) != (b.length:Int))=false:=by simp [hl]
  have HL:=aa hl;clear hl;go_in;go_wp2_with fail;clear jC
  go_loopw [4,5] (fun _ i wr=>∃k:Nat,k<=a.length/\i=.int .i64 k/\Hid (Up w wr/\∀j,j<k->gt a j=gt b j)) (fun _ i _=>a.length - (intOf i).toNat)
  case atStart=>exact ⟨0,aF _,rfl,Up.refl _,fun j hj=>absurd hj (aZ _)⟩
  case round =>
   obtain ⟨k,hk,rfl,hI⟩:=hrel;obtain ⟨wo,rfl⟩:=eM wr;by_cases hlt:k<a.length
   ·obtain ⟨ab,ao,pp,pc,np,nc,rfl,c0,c1,hT⟩:=oW (HX.out.keep (hI.out.1.kept S)) hlt
    obtain ⟨bb,bo,xB,xC,zo,zq,rfl,d0,d1,Rt⟩:=oW (HY.out.keep (hI.out.1.kept T)) (k:=k) (by rw [<- HL.out];exact hlt);have HST:=aa (DF S T wo _ _ _ _ hT Rt (HZ.out k).1 (HZ.out k).2);(have i1:(0:Int)<=(k:Int):=by omega);(have i2:(k:Int)<(a.length:Int):=by omega);(have i3:(k:Int)<(b.length:Int):=by have:=HL.out;omega);have ve:Hid (gt a k≠gt b k->decide (a=b)=false):=fun hne=>decide_eq_false fun e=>hne (HS.out.1 e k hlt);have Ui:Hid (gt a k=gt b k->Up w wo/\∀j,j<k+1->gt a j=gt b j):=fun e=>⟨hI.out.1,fun j hj=>if e2:j=k then by subst e2;exact e else hI.out.2 j (by omega)⟩;have lu:=aa hI.out.1;replace HST:Hid (Calls Tryz.prog 37 #[.agg #[.slice pp (gt a k).ps.length pc,.slice np (gt a k).ns.length nc],.agg #[.slice xB (gt b k).ps.length xC,.slice zo (gt b k).ns.length zq]] wo.drew fun e w'=>e=.returned (.bool (decide (gt a k=gt b k)))/\Up wo w'):=(DF S T wo.drew _ _ _ _ (hT.keep ((Up.drewN wo 1).kept _)) (Rt.keep ((Up.drewN wo 1).kept _)) (HZ.out k).1 (HZ.out k).2).mono fun e w' ⟨h1,h2⟩=>⟨h1,(Up.drewN wo 1).trans h2⟩;clear hT Rt hI;generalize gt a k=x at *;generalize gt b k=y at *;by_cases e:x=y
    ·have d9:decide (x=y)=true:=decide_eq_true e
     rw [d9] at HST;have ahT:=aa (Ui.out e);clear e d9 ve Ui;go_wp2_with fail;refine fR (by kernel_rfl) 9 (fun w'=>w'.cell? ⟨ab,ao+k*2,none⟩=some (.slice pp x.ps.length pc)/\w'.cell? ⟨ab,ao+k*2+1,none⟩=some (.slice np x.ns.length nc)/\w'.cell? ⟨bb,bo+k*2,none⟩=some (.slice xB y.ps.length xC)/\w'.cell? ⟨bb,bo+k*2+1,none⟩=some (.slice zo y.ns.length zq)) ⟨c0,c1,d0,d1⟩ (fun hS=>?_);simp only [dY,aW,dw,Nat.reduceAdd,iu,iw,dX,di,cm];refine az.kG 0 1 2 3 hS ?_;(try simp only [Act.put,aL,aM,aN]);refine az.kG 4 5 6 7 hS ?_;(try simp only [Act.put,aL,aM,aN]);refine az.st 8 fun K' hK=>?_;go_simp;refine HST.out.mono ?_;rintro e w2 ⟨rfl,hu⟩;refine hK.out _ _ (bF ·) (fun hS=>?_);(try simp only [aL,aM,aN]);refine az.st 9 fun K' hK=>?_;go_simp;refine hK.out _ _ (bF ·) (fun hS=>?_);refine az.done (by kernel_rfl) ?_;have Uq:Hid (Up w w2/\∀j,j<k+1->gt a j=gt b j):=⟨ahT.out.1.trans hu,ahT.out.2⟩;clear hu;go_wp2
     go_roundw
     case rel=>exact ⟨k+1,by omega,by go_num,Uq.out⟩
     case measure=>simp [intOf];omega
    ·have d9:decide (x=y)=false:=decide_eq_false e
     rw [d9] at HST;have HF:=aa (ve.out e);clear e d9 ve Ui;go_wp2_with fail;refine fR (by kernel_rfl) 9 (fun w'=>w'.cell? ⟨ab,ao+k*2,none⟩=some (.slice pp x.ps.length pc)/\w'.cell? ⟨ab,ao+k*2+1,none⟩=some (.slice np x.ns.length nc)/\w'.cell? ⟨bb,bo+k*2,none⟩=some (.slice xB y.ps.length xC)/\w'.cell? ⟨bb,bo+k*2+1,none⟩=some (.slice zo y.ns.length zq)) ⟨c0,c1,d0,d1⟩ (fun hS=>?_);simp only [dY,aW,dw,Nat.reduceAdd,iu,iw,dX,di,cm];refine az.kG 0 1 2 3 hS ?_;(try simp only [Act.put,aL,aM,aN]);refine az.kG 4 5 6 7 hS ?_;(try simp only [Act.put,aL,aM,aN]);refine az.st 8 fun K' hK=>?_;go_simp;refine HST.out.mono ?_;rintro e w2 ⟨rfl,hu⟩;refine hK.out _ _ (bF ·) (fun hS=>?_);(try simp only [aL,aM,aN]);refine az.st 9 fun K' hK=>?_;go_simp;refine hK.out _ _ (bF ·) (fun hS=>?_);refine az.done (by kernel_rfl) ?_;have b7:=aa (lu.out.trans hu);clear hu;go_wp2;go_ret;exact ⟨aO HF.out.symm,b7.out⟩
   ·obtain rfl:k=a.length:=by omega
    have HF:Hid (decide (a=b)=true):=decide_eq_true (HS.out.2 hI.out.2);go_wp2;go_ret;exact ⟨aO HF.out.symm,hI.out.1⟩
 ·have HF:Hid (decide (a=b)=false):=decide_eq_false fun e=>hl (by rw [e])
  have jC:((a.length:Int) != (b.length:Int))=true:=by simp;omega
  clear hl;go_in;go_wp2;go_ret;exact ⟨aO HF.out.symm,Up.refl _⟩
end
section
def xH:List ByteArray:=[⟨#[65]⟩,⟨#[66]⟩,⟨#[67]⟩,⟨#[68]⟩]
def CJ:List (List Int):=[[0],[0],[1],[1]]
def Sg:List (List Int):=[[0,2],[0,-1],[1,3]]
def zQ:ax:=⟨[-1,0,0,2,2,4,4],[⟨#[]⟩,⟨#[65]⟩,⟨#[]⟩,⟨#[66]⟩,⟨#[]⟩,⟨#[67]⟩,⟨#[68]⟩]⟩
def LK:ax:=⟨[-1,0,0,2,3,3,2],[⟨#[]⟩,⟨#[65]⟩,⟨#[]⟩,⟨#[]⟩,⟨#[66]⟩,⟨#[67]⟩,⟨#[68]⟩]⟩
def LL:ax:=⟨[-1,0,0,2,3,3,2],[⟨#[]⟩,⟨#[65]⟩,⟨#[]⟩,⟨#[]⟩,⟨#[66]⟩,⟨#[68]⟩,⟨#[67]⟩]⟩
theorem Z1:allT xH=[LK,LL,zQ]:=by decide +kernel
theorem Sh:mJ xH CJ=0:=by decide +kernel
theorem ahU:jT zQ xH CJ=1/\jT LK xH CJ=2/\jT LL xH CJ=2:=by decide +kernel
theorem Si:qd xH CJ=1:=by
 obtain ⟨h1,h2,h3⟩:=ahU;unfold qd;rw [Z1];show Ed (fun k=>jT (gt [LK,LL,zQ] k) xH CJ) 3=1;have e0:jT (gt [LK,LL,zQ] 0) xH CJ=2:=h2;have e1:jT (gt [LK,LL,zQ] 1) xH CJ=2:=h3;have e2:jT (gt [LK,LL,zQ] 2) xH CJ=1:=h1;simp [Ed,e0,e1,e2]
theorem afj:Dx xH CJ=[zQ]:=by
 obtain ⟨h1,h2,h3⟩:=ahU;unfold Dx;rw [Z1,Si];simp [h1,h2,h3]
theorem I1:kz Sg=0/\RV Sg=2:=by decide +kernel
end
end Go.Proofs.YthgabkgmkolobaaGreat
namespace Go.Proofs
open Go.Shelf
def Tryz.compactZ_ren:Go.Shelf.Ren:=⟨fun | 20=>72 | n=>n,fun | 22=>26 | 3=>3 | 4=>4 | 0=>0 | n=>n,fun | n=>n⟩
theorem Tryz.compactZ:Go.Proofs.Lays2.n20 Tryz.prog Tryz.compactZ_ren:={
 mixed:=by kernel_rfl
 f20:=Tryz.func72.trans (congrArg some (by kernel_rfl))
 t0:=Tryz.underlying0
 a0:=Tryz.isAgg0
 z0:=Tryz.sizeOf0
 v0:=Tryz.zeroValue0
 t3:=Tryz.underlying3
 a3:=Tryz.isAgg3
 z3:=Tryz.sizeOf3
 v3:=Tryz.zeroValue3
 t4:=Tryz.underlying4
 a4:=Tryz.isAgg4
 z4:=Tryz.sizeOf4
 v4:=Tryz.zeroValue4
 t22:=Tryz.underlying26
 a22:=Tryz.isAgg26
 z22:=Tryz.sizeOf26
 v22:=Tryz.zeroValue26
 i3:=by kernel_rfl }
end Go.Proofs
namespace Go.Proofs.YthgabkgmkolobaaGreat
section
open Go.RowKit Go.Shelf Go.Deep Go.Sort
theorem Ts {w:World} {g n:Nat} (d:Array Int):w.grownBy (putRow (Value.int .i64) (Sort.ahead w n) g 0 d) (some g):=by
 refine ⟨rfl,rfl,rfl,by simp [putRow,mapBlock,Sort.ahead],fun k hk hne=>?_⟩;have:g≠k:=fun e=>hne (by rw [e]);simp [putRow,mapBlock,Sort.ahead,Array.getElem?_modify,this]
theorem Z3 (w w1:World) (v:Value) (xs:List Int) (hu:Up w w1) (ho:au w.heap.size 3 w1 v (xs.map (Value.int .i64))) (hlen:xs.length<=1000000) :
  Calls Tryz.prog 72 #[v] w1 fun e w'=>(∃p cap,e=.returned (.slice p (Lib.compact xs).length cap))/\Up w w':=by
 rcases ho.2 with ⟨rfl,h0⟩ | ⟨g,cap,cur,rfl,hg,hc,hn,hcm,hcs,ht⟩
 ·have hx:xs=[]:=by cases xs with | nil=>rfl | cons _ _=>simp at h0
  subst hx;refine (Any.slices_Compact_int_empty Tryz.compactZ none 0 w1).mono ?_;rintro e w' ⟨rfl,rfl⟩;exact ⟨⟨_,_,rfl⟩,hu⟩
 ·simp only [aD] at hn ht ho ⊢
  refine (Any.slices_Compact_int Tryz.compactZ g 0 cap xs w1 (holds_of_blockI hc (by simpa using ht)) (by omega) (by omega)).mono ?_;rintro e w' ⟨rfl,q,rfl⟩;exact ⟨⟨_,_,rfl⟩,Below.grown hu (Ts _) hu.size (fun j hj=>by cases hj;exact hg)⟩
end
section
open Go
theorem r6 (l:List Int) (j:Nat):l.toArray[j]! = gi l j:=by
 unfold gi;by_cases h:j<l.length
 ·simp [h]
 ·simp [h]
theorem BO (l:List Int) (x:Int):∀m,x∈Lib.compactUpTo l.toArray m↔∃j,j<m/\gi l j=x
 | 0=>by simp [Lib.compactUpTo]
 | m+1=>by
  rw [Lib.compactUpTo_succ,ey,BO l x m,r6]
  constructor
  ·rintro (⟨j,hj,e⟩ | h)
   ·exact ⟨j,by omega,e⟩
   ·by_cases hk:Lib.keeps l.toArray m=true
    ·rw [if_pos hk] at h;exact ⟨m,by omega,(cN.1 h).symm⟩
    ·rw [if_neg hk] at h;cases h
  ·rintro ⟨j,hj,e⟩
   by_cases hjm:j=m
   ·subst hjm
    by_cases hk:Lib.keeps l.toArray j=true
    ·rw [if_pos hk];exact .inr (by simp [e])
    ·unfold Lib.keeps at hk
     rw [r6,r6] at hk
     simp only [decide_eq_true_eq,not_or,ne_eq,FW] at hk
     exact .inl ⟨j - 1,by omega,by rw [<- hk.2];exact e⟩
   ·exact .inl ⟨j,by omega,e⟩
theorem Em {l:List Int} (hs:∀i j,i<j->j<l.length->gi l i<=gi l j):∀m,m<=l.length->(Lib.compactUpTo l.toArray m).Nodup
 | 0,_=>by simp [Lib.compactUpTo]
 | m+1,h=>by
  rw [Lib.compactUpTo_succ,ua]
  refine ⟨Em hs m (by omega),by split<;>simp,fun a ha b hb e=>?_⟩
  subst e
  obtain ⟨j,hj,e⟩:=(BO l a m).1 ha
  by_cases hk:Lib.keeps l.toArray m=true
  ·rw [if_pos hk,r6] at hb
   have hb:a=gi l m:=by simpa using hb
   unfold Lib.keeps at hk
   rw [r6,r6] at hk
   simp only [decide_eq_true_eq,ne_eq] at hk
   have hne:gi l m≠gi l (m - 1):=hk.resolve_left (by omega)
   have h1:gi l j<=gi l (m - 1):=by
    by_cases e2:j=m - 1
    ·rw [e2];exact qm _
    ·exact hs j (m - 1) (by omega) (by omega)
   have h2:=hs (m - 1) m (by omega) (by omega)
   omega
  ·rw [if_neg hk] at hb;cases hb
theorem acY (xs:List Int):∀i j,i<j->j<(iG xs).length->gi (iG xs) i<=gi (iG xs) j:=fun i j hij hj=>by
 have hp:(iG xs).Pairwise fun a b=>decide (a<=b)=true:=List.pairwise_mergeSort (le:=fun x y=>decide (x<=y)) (fun a b c h1 h2=>by simp at *;omega) (fun a b=>by simp;omega) xs
 have:=mY.1 hp i j (by omega) hj hij
 have hi:i<(iG xs).length:=by omega
 simpa [gi,hi,hj] using this
theorem Z4 {xs:List Int} {x:Int}:x∈iG xs↔x∈xs:=(F4 xs _).mem_iff
theorem NW (xs:List Int):(Lib.compact (iG xs)).length=(dd xs).length:=by
 have hn:=Em (acY xs) _ (ah _);have hm:∀x,x∈Lib.compact (iG xs)↔x∈dd xs:=fun x=>by
  unfold Lib.compact;rw [BO,CC,<- Z4];constructor
  ·rintro ⟨j,hj,e⟩;rw [<- e];exact sL hj
  ·intro h;exact Zi h
 exact Nat.le_antisymm (List.Nodup.length_le_of_subset hn fun x hx=>(hm x).1 hx) (List.Nodup.length_le_of_subset (zH xs) fun x hx=>(hm x).2 hx)
theorem Tt {st:List Int} {k:Nat} (hk:k<st.length):fP (st.take (k+1))=fP (st.take k)++(if 0<=gi st k then [gi st k] else []):=by
 rw [aej hk];unfold fP;rw [rO];congr 1;by_cases h:0<=gi st k
 ·rw [if_pos h];simp [h]
 ·rw [if_neg h];simp [h]
theorem Z6 (st:List Int) (k:Nat):(fP (st.take k)).length<=k:=aB (mN _ _) (by simp;omega)
end
section
open Go.RowKit Go.Deep
theorem WZ (xs:List Int):(Lib.compact (iG xs)).length<=xs.length:=by
 rw [NW];exact (zH xs).length_le_of_subset fun x hx=>CC.1 hx
def Sj (w:World) (ame:List (List Int)) (e:Ending) (w':World):Prop:=e=.returned (.tuple #[.int .i64 (WU ame),.int .i64 (WT ame)])/\Up w w'
theorem Z7 (S:Nat->Prop) (w:World) (vs:Value) (ame:List (List Int)) (hS:aT S w vs ame) (B6:ame.length<=1000000) (hr:∀k,(gl ame k).length<=1000000) :
  Calls Tryz.prog 18 #[vs] w (Sj w ame):=by
 have Kt:=aa (Mg S w vs ame hS B6 hr);obtain ⟨sp,sc,rfl,-,-⟩:=dy hS;have HS:=aa hS;have HE:Hid (WT ame=if kz ame=0 then 0 else 1):=rfl;have HR:Hid (WU ame=if kz ame=0 then RV ame else 0):=rfl;have HAK:Hid (kz ame=0->0<ame.length/\ame.length<=32/\(gl ame 0).length<=4096/\∀k,k<ame.length->(gl ame k).length=(gl ame 0).length):=fun h=>by obtain ⟨a1,a2⟩:=Wz h;obtain ⟨a3,a4⟩:=R8 h;exact ⟨a1,a3,a4,fun k hk=>(a2 k hk).1⟩
 clear hS B6 hr;go_in;go_wp2_with fail;refine Kt.out.mono ?_;rintro e w1 ⟨rfl,hq⟩;have cB:Hid (Up w w1):=hq ▸ Up.refl _;by_cases c1:kz ame=0
 ·obtain ⟨a0,a1,a2,a3⟩:=HAK.out c1
  have HA:=aa (And.intro a0 (And.intro a1 (And.intro a2 a3)));have s6:Hid (∀W,Up w W->Sj w ame (.returned (.tuple #[.int .i64 (RV ame),.int .i64 0])) W):=fun W hW=>⟨by rw [HE.out,HR.out,if_pos c1,if_pos c1],hW⟩;have lg:=aa (aT.keep HS.out (cB.out.kept S));obtain ⟨sb,so,s0,s1,rfl,hc0,gO⟩:=eZ lg.out a0;rw [mZ] at hc0;have i1:(0:Int)<(ame.length:Int):=by omega
  rw [c1];clear Kt HE HR HAK hq c1 a0 a1 a2 a3 gO;have HBK:Hid (∀n,0<=eA (uO ame) n/\eA (uO ame) n<=100000*n):=fun n=>Gk fun p _=>by have h1:=U1 ame p;have:=HA.out.2.1;omega
  have mO:Hid (∀n,eA (uO ame) (n+1)=eA (uO ame) n+uO ame n):=fun n=>rfl;have Ca:Hid (RV ame=eA (uO ame) (gl ame 0).length):=rfl;go_wp2
  go_loopw [4,5,6,8,16,21] (fun s _ _ _ i _ wr=>∃n:Nat,n<=(gl ame 0).length/\i=.int .i64 n/\s=.int .i64 (eA (uO ame) n)/\Hid (Up w1 wr)) (fun _ _ _ _ i _ _=>(gl ame 0).length - (intOf i).toNat)
  case atStart=>exact ⟨0,aF _,rfl,rfl,Up.refl _⟩
  case round =>
   obtain ⟨n,hn,rfl,rfl,hU⟩:=hrel;obtain ⟨wo,rfl⟩:=eM wr;by_cases hlt:n<(gl ame 0).length
   ·have i2:(n:Int)<((gl ame 0).length:Int):=by omega
    (have i3:(n:Int)<4096:=by have:=HA.out.2.2.1;omega);(have i4:(0:Int)<=(n:Int):=by omega);have aR:=aa hlt;have HBN:=aa (And.intro (HBK.out n) (U1 ame n));have lu:=aa hU.out;generalize B6:eA (uO ame) n=fn at *;have JA:=aa B6;clear hlt hU B6;go_wp2
    go_loopw [6,8,21] (fun l _ k wr=>∃j:Nat,j<=ame.length/\k=.int .i64 j/\Hid (au wo.heap.size 3 wr l ((fP ((fW ame n).take j)).map (Value.int .i64)))/\Hid (Up wo wr)) (fun _ _ k _=>ame.length - (intOf k).toNat)
    case atStart=>exact ⟨0,aF _,rfl,au.nil _ _ _,Up.refl _⟩
    case round =>
     obtain ⟨j,hj,rfl,hA,cz⟩:=hrel;obtain ⟨wi,rfl⟩:=eM wr;by_cases hlj:j<ame.length
     ·obtain ⟨rb,ro,r0,r1,er,KE,hir⟩:=eZ (aT.keep lg.out ((lu.out.trans cz.out).kept S)) hlj
      injection er with er;injection er with er1 er2;subst er1;subst er2;rw [HA.out.2.2.2 j hlj] at KE;obtain ⟨yb,yo,rfl,hcy⟩:=bU hir (k:=n) (by rw [HA.out.2.2.2 j hlj];exact aR.out);have sV:=aa (Tt (st:=fW ame n) (k:=j) (by rw [DD];exact hlj));rw [Rp _ _ hlj] at sV;have jt:=Z6 (fW ame n) j;have hsz:=cz.out.size;have Kg:=aa hlj;(have k1:(0:Int)<=(j:Int):=by omega);(have k2:(j:Int)<(ame.length:Int):=by omega);(have k3:(j:Int)<64:=by have:=HA.out.2.1;omega);generalize gi (gl ame j) n=y at *;clear hir hlj;by_cases h0:0<=y
      ·have kH:Hid (((fP ((fW ame n).take j)).map (Value.int .i64)).length=(fP ((fW ame n).take j)).length):=by unfold Hid;rw [aD]
       (have R4:Hid (fP ((fW ame n).take (j+1))=fP ((fW ame n).take j)++[y]):=by unfold Hid;rw [sV.out,if_pos h0]);(have d0:decide (0<=y)=true:=by simp [h0]);generalize hm:(fP ((fW ame n).take j)).length=m at *;go_wp2_with (at_builtin;refine Bp wi rfl _ _ 26 rfl wo.heap.size 3 _ 8 Tryz.underlying26 Tryz.iD rfl (by decide) hA.out rfl _ rfl rfl m kH.out (by omega) hsz ?_;intro g cap w8 hown1 hg1 gC);(have Y3:Hid (au wo.heap.size 3 w8 (.slice (some ⟨g,0,none⟩) (m+1) cap) ((fP ((fW ame n).take (j+1))).map (Value.int .i64))):=by unfold Hid;rw [R4.out,cg];exact hown1);have wN:Hid (Up wo w8):=iz cz.out gC;clear hown1 hg1 gC
       go_roundw
       case rel=>exact ⟨j+1,Kg.out,by go_num,Y3,wN⟩
       case measure=>have:=Kg.out;simp [intOf];omega
      ·have d0:decide (0<=y)=false:=by simp;omega
       (have R4:Hid (fP ((fW ame n).take (j+1))=fP ((fW ame n).take j)):=by unfold Hid;rw [sV.out,if_neg h0,eG]);clear h0;go_wp2
       go_roundw
       case rel=>exact ⟨j+1,Kg.out,by go_num,by rw [R4.out];exact hA,cz⟩
       case measure=>have:=Kg.out;simp [intOf];omega
     ·obtain rfl:j=ame.length:=by omega
      (have htk:(fW ame n).take ame.length=fW ame n:=by rw [<- DD ame n,fT]);rw [htk] at hA;obtain ⟨kp,kc,rfl,_⟩:=hA.out.form (n:=(fP (fW ame n)).length) (by rw [aD]);(have jt:(fP (fW ame n)).length<=ame.length:=by rw [<- DD ame n];exact mN _ _);have pX:Hid ((fP (fW ame n)).length<=32):=aB jt HA.out.2.1;have kJ:=aa (agA wo wi _ (fP (fW ame n)) cz.out hA.out (by have:=pX.out;omega));have HDD:Hid (uO ame n=if (dd (fP (fW ame n))).length=0 then 0 else ((dd (fP (fW ame n))).length:Int) - 1):=rfl;rw [<- NW] at HDD;clear htk hA cz jt hj;go_wp2_with fail;refine kJ.out.mono ?_;rintro e w7 ⟨rfl,nZ,ho7⟩;have uk:=aa (Z3 wo w7 _ (iG (fP (fW ame n))) nZ ho7 (by rw [oU];have:=pX.out;omega));have oZ:Hid ((Lib.compact (iG (fP (fW ame n)))).length<=32):=aB (WZ _) pX.out;clear nZ ho7 kJ;go_wp2_with fail;refine uk.out.mono ?_;rintro e w8 ⟨⟨p8,c8,rfl⟩,iH⟩;have wN:=aa (lu.out.trans iH);have FC:=aa (mO.out n);rw [JA.out,HDD.out] at FC;have Cm:=HBN.out;have D4:=oZ.out;clear iH uk HDD oZ;generalize uO ame n=bk at *;generalize (Lib.compact (iG (fP (fW ame n)))).length=D at *;(have i6:fn<=409600000/\0<=fn:=by constructor<;>omega);obtain ⟨i7,i8⟩:=i6;clear Cm;go_wp2
      go_roundw
      case rel=>exact ⟨n+1,aR.out,by go_num,by rw [FC.out];congr 1;omega,wN.out⟩
      case measure=>have:=aR.out;simp [intOf];omega
   ·obtain rfl:n=(gl ame 0).length:=by omega
    have CB:=aa (s6.out wo (cB.out.trans hU.out));rw [Ca.out] at CB;clear hlt;go_wp2;go_ret2;exact CB.out
 ·have s6:Hid (Sj w ame (.returned (.tuple #[.int .i64 0,.int .i64 1])) w1):=⟨by rw [HE.out,HR.out,if_neg c1,if_neg c1],cB.out⟩
  generalize kz ame=a at *;clear hq Kt;go_wp2;go_ret2;exact s6.out
theorem Sk {w:World} {B n:Nat} {xs:List (List Int)} (hn:n=xs.length) (f:Nat->Value) (hc:∀k,k<n->w.cell? ⟨B,k,none⟩=some (f k)) (hr:∀k,k<n->af Any w (f k) (gl xs k)):aT Any w (.slice (some ⟨B,0,none⟩) n n) xs:=by
 subst hn;refine ⟨f,⟨_,_,rfl,ah _,.inr ⟨_,0,rfl,trivial,fun k hk=>?_⟩⟩,fun k hk=>hr k hk⟩;rw [je];exact hc k hk
theorem Gl (w:World) (x:Int) (xs:List Int) (h:xs=[x]):af Any (w.alloc (.cells #[.int .i64 x] 3)) (.slice (some ⟨w.heap.size,0,none⟩) 1 1) xs:=zu w _ _ xs (by rw [h];rfl) 1 (by rw [h];rfl)
def Gm (w:World) (a b c d:Int):World:=(((w.alloc (.cells #[.int .i64 a] 3)).alloc (.cells #[.int .i64 b] 3)).alloc (.cells #[.int .i64 c] 3)).alloc (.cells #[.int .i64 d] 3)
theorem Z8 (w:World) (a b c d:Int):aT Any ((Gm w a b c d).alloc (.cells #[.slice (some ⟨w.heap.size,0,none⟩) 1 1,.slice (some ⟨w.heap.size+1,0,none⟩) 1 1,.slice (some ⟨w.heap.size+1+1,0,none⟩) 1 1,.slice (some ⟨w.heap.size+1+1+1,0,none⟩) 1 1] 26)) (.slice (some ⟨w.heap.size+1+1+1+1,0,none⟩) 4 4) [[a],[b],[c],[d]]/\Up w ((Gm w a b c d).alloc (.cells #[.slice (some ⟨w.heap.size,0,none⟩) 1 1,.slice (some ⟨w.heap.size+1,0,none⟩) 1 1,.slice (some ⟨w.heap.size+1+1,0,none⟩) 1 1,.slice (some ⟨w.heap.size+1+1+1,0,none⟩) 1 1] 26)):=by
 have s0:=Gl w a [a] rfl;have s1:=Gl (w.alloc (.cells #[.int .i64 a] 3)) b [b] rfl;have s2:=Gl ((w.alloc (.cells #[.int .i64 a] 3)).alloc (.cells #[.int .i64 b] 3)) c [c] rfl;have s3:=Gl (((w.alloc (.cells #[.int .i64 a] 3)).alloc (.cells #[.int .i64 b] 3)).alloc (.cells #[.int .i64 c] 3)) d [d] rfl;simp only [aQ] at s1 s2 s3;have hsz:(Gm w a b c d).heap.size=w.heap.size+1+1+1+1:=by unfold Gm;simp only [aQ]
 have hL:=Up.alloc (Gm w a b c d) (.cells #[.slice (some ⟨w.heap.size,0,none⟩) 1 1,.slice (some ⟨w.heap.size+1,0,none⟩) 1 1,.slice (some ⟨w.heap.size+1+1,0,none⟩) 1 1,.slice (some ⟨w.heap.size+1+1+1,0,none⟩) 1 1] 26);have u3:=Up.alloc (((w.alloc (.cells #[.int .i64 a] 3)).alloc (.cells #[.int .i64 b] 3)).alloc (.cells #[.int .i64 c] 3)) (.cells #[.int .i64 d] 3);have u2:=Up.alloc ((w.alloc (.cells #[.int .i64 a] 3)).alloc (.cells #[.int .i64 b] 3)) (.cells #[.int .i64 c] 3);have u1:=Up.alloc (w.alloc (.cells #[.int .i64 a] 3)) (.cells #[.int .i64 b] 3);have u0:=Up.alloc w (.cells #[.int .i64 a] 3);refine ⟨Sk (f:=fun k=>.slice (some ⟨w.heap.size+k,0,none⟩) 1 1) rfl (fun k hk=>?_) (fun k hk=>?_),((((u0.trans u1).trans u2).trans u3).trans hL)⟩
 ·rw [<- hsz,aS]
  match k,hk with
  | 0,_=>rfl
  | 1,_=>rfl
  | 2,_=>rfl
  | 3,_=>rfl
 ·match k,hk with
  | 0,_=>exact af.keep s0 ((((u1.trans u2).trans u3).trans hL).kept _)
  | 1,_=>exact af.keep s1 (((u2.trans u3).trans hL).kept _)
  | 2,_=>exact af.keep s2 ((u3.trans hL).kept _)
  | 3,_=>exact af.keep s3 (hL.kept _)
def Bd (w:World):World:=((w.alloc (.cells #[.int .i64 0,.int .i64 2] 3)).alloc (.cells #[.int .i64 0,.int .i64 (-1)] 3)).alloc (.cells #[.int .i64 1,.int .i64 3] 3)
theorem Z9 (w:World):aT Any ((Bd w).alloc (.cells #[.slice (some ⟨w.heap.size,0,none⟩) 2 2,.slice (some ⟨w.heap.size+1,0,none⟩) 2 2,.slice (some ⟨w.heap.size+1+1,0,none⟩) 2 2] 26)) (.slice (some ⟨w.heap.size+1+1+1,0,none⟩) 3 3) Sg/\Up w ((Bd w).alloc (.cells #[.slice (some ⟨w.heap.size,0,none⟩) 2 2,.slice (some ⟨w.heap.size+1,0,none⟩) 2 2,.slice (some ⟨w.heap.size+1+1,0,none⟩) 2 2] 26)):=by
 have s0:=zu w #[.int .i64 0,.int .i64 2] 3 [0,2] rfl 2 rfl;have s1:=zu (w.alloc (.cells #[.int .i64 0,.int .i64 2] 3)) #[.int .i64 0,.int .i64 (-1)] 3 [0,-1] rfl 2 rfl;have s2:=zu ((w.alloc (.cells #[.int .i64 0,.int .i64 2] 3)).alloc (.cells #[.int .i64 0,.int .i64 (-1)] 3)) #[.int .i64 1,.int .i64 3] 3 [1,3] rfl 2 rfl;simp only [aQ] at s1 s2;have hsz:(Bd w).heap.size=w.heap.size+1+1+1:=by unfold Bd;simp only [aQ]
 have hL:=Up.alloc (Bd w) (.cells #[.slice (some ⟨w.heap.size,0,none⟩) 2 2,.slice (some ⟨w.heap.size+1,0,none⟩) 2 2,.slice (some ⟨w.heap.size+1+1,0,none⟩) 2 2] 26);have u2:=Up.alloc ((w.alloc (.cells #[.int .i64 0,.int .i64 2] 3)).alloc (.cells #[.int .i64 0,.int .i64 (-1)] 3)) (.cells #[.int .i64 1,.int .i64 3] 3);have u1:=Up.alloc (w.alloc (.cells #[.int .i64 0,.int .i64 2] 3)) (.cells #[.int .i64 0,.int .i64 (-1)] 3);have u0:=Up.alloc w (.cells #[.int .i64 0,.int .i64 2] 3);refine ⟨Sk (f:=fun k=>.slice (some ⟨w.heap.size+k,0,none⟩) 2 2) rfl (fun k hk=>?_) (fun k hk=>?_),(((u0.trans u1).trans u2).trans hL)⟩
 ·rw [<- hsz,aS]
  match k,hk with
  | 0,_=>rfl
  | 1,_=>rfl
  | 2,_=>rfl
 ·match k,hk with
  | 0,_=>exact af.keep s0 (((u1.trans u2).trans hL).kept _)
  | 1,_=>exact af.keep s1 ((u2.trans hL).kept _)
  | 2,_=>exact af.keep s2 (hL.kept _)
theorem ahV (k:Nat):(gs xH k).size<=70000:=vE (M:=70000) (by decide) k
theorem Sl {l:List (List Int)} (h:∀x∈l,x.length<=1000000) (k:Nat):(gl l k).length<=1000000:=by
 by_cases hk:k<l.length
 ·have:gl l k=l[k]:=by simp [gl,hk]
  rw [this];exact h _ (jy hk)
 ·have:gl l k=[]:=by simp [gl,show l.length<=k by omega]
  rw [this];simp
theorem aaa (w:World):Calls Tryz.prog 26 #[] w fun e w'=>e=.returned (.bool true)/\Up w w':=by
 have fG:WL 7=945/\WK 7=0:=by decide +kernel
 have bK:=Up.alloc w (.cells #[.string ⟨#[65]⟩,.string ⟨#[66]⟩,.string ⟨#[67]⟩,.string ⟨#[68]⟩] 9);have EE:=QH w #[.string ⟨#[65]⟩,.string ⟨#[66]⟩,.string ⟨#[67]⟩,.string ⟨#[68]⟩] 9 xH rfl 4 rfl;have cB:=aa bK;have o5:=aa EE;clear bK EE;go_in;go_wp2_with fail;refine (Zy 7 (by decide) w).mono ?_;rintro e w0 ⟨rfl,rfl⟩;rw [fG.1,fG.2];clear fG;have HL4:=aa (Z8 (w.alloc (.cells #[.string ⟨#[65]⟩,.string ⟨#[66]⟩,.string ⟨#[67]⟩,.string ⟨#[68]⟩] 9)) 0 0 1 1);have NV:=aa (acX Any _ _ _ xH CJ (aj.keep o5.out (HL4.out.2.kept _)) (by decide) ahV HL4.out.1 (by decide) (Sl (by decide)) (.inl (by decide)));have b7:=aa (cB.out.trans HL4.out.2);simp only [aQ] at NV b7;unfold Gm at NV b7;go_wp2_with fail;refine NV.out.mono ?_;rintro e w2 ⟨aI,v2,rfl,ht2⟩;have e1:KG xH CJ=1:=by unfold KG;rw [Sh,if_pos rfl,Si]
 have e2:KH xH CJ=[zQ]:=by unfold KH;rw [if_pos Sh,afj]
 rw [e2] at ht2;rw [e1,Sh];obtain ⟨p2,c2,rfl,-⟩:=nH ht2;have eW:=aa (b7.out.trans aI);have wE:Hid (fQ Any w2 (.slice p2 1 c2) [zQ]):=ht2;have h1:=zu w2 #[.int .i64 (-1),.int .i64 0,.int .i64 0,.int .i64 2,.int .i64 2,.int .i64 4,.int .i64 4] 3 zQ.ps rfl 7 rfl;have h2:=QH (w2.alloc (.cells #[.int .i64 (-1),.int .i64 0,.int .i64 0,.int .i64 2,.int .i64 2,.int .i64 4,.int .i64 4] 3)) #[.string ⟨#[]⟩,.string ⟨#[65]⟩,.string ⟨#[]⟩,.string ⟨#[66]⟩,.string ⟨#[]⟩,.string ⟨#[67]⟩,.string ⟨#[68]⟩] 9 zQ.ns rfl 7 rfl;have u1:=Up.alloc w2 (.cells #[.int .i64 (-1),.int .i64 0,.int .i64 0,.int .i64 2,.int .i64 2,.int .i64 4,.int .i64 4] 3);have u2:=Up.alloc (w2.alloc (.cells #[.int .i64 (-1),.int .i64 0,.int .i64 0,.int .i64 2,.int .i64 2,.int .i64 4,.int .i64 4] 3)) (.cells #[.string ⟨#[]⟩,.string ⟨#[65]⟩,.string ⟨#[]⟩,.string ⟨#[66]⟩,.string ⟨#[]⟩,.string ⟨#[67]⟩,.string ⟨#[68]⟩] 9);have u3:=Up.alloc ((w2.alloc (.cells #[.int .i64 (-1),.int .i64 0,.int .i64 0,.int .i64 2,.int .i64 2,.int .i64 4,.int .i64 4] 3)).alloc (.cells #[.string ⟨#[]⟩,.string ⟨#[65]⟩,.string ⟨#[]⟩,.string ⟨#[66]⟩,.string ⟨#[]⟩,.string ⟨#[67]⟩,.string ⟨#[68]⟩] 9)) (.cells #[.slice (some ⟨w2.heap.size,0,none⟩) 7 7,.slice (some ⟨w2.heap.size+1,0,none⟩) 7 7] 39);have k0:=iq ((w2.alloc (.cells #[.int .i64 (-1),.int .i64 0,.int .i64 0,.int .i64 2,.int .i64 2,.int .i64 4,.int .i64 4] 3)).alloc (.cells #[.string ⟨#[]⟩,.string ⟨#[65]⟩,.string ⟨#[]⟩,.string ⟨#[66]⟩,.string ⟨#[]⟩,.string ⟨#[67]⟩,.string ⟨#[68]⟩] 9)) (.slice (some ⟨w2.heap.size,0,none⟩) 7 7) (.slice (some ⟨w2.heap.size+1,0,none⟩) 7 7) 39;have k1:=jg ((w2.alloc (.cells #[.int .i64 (-1),.int .i64 0,.int .i64 0,.int .i64 2,.int .i64 2,.int .i64 4,.int .i64 4] 3)).alloc (.cells #[.string ⟨#[]⟩,.string ⟨#[65]⟩,.string ⟨#[]⟩,.string ⟨#[66]⟩,.string ⟨#[]⟩,.string ⟨#[67]⟩,.string ⟨#[68]⟩] 9)) (.slice (some ⟨w2.heap.size,0,none⟩) 7 7) (.slice (some ⟨w2.heap.size+1,0,none⟩) 7 7) 39;simp only [aQ] at h2 k0 k1;have HTW:=aa (aG.keep (S:=Any) (t:=zQ) ⟨_,_,rfl,af.keep h1 (u2.kept _),h2⟩ (u3.kept _));have HUT:=aa ((u1.trans u2).trans u3);have E2:=aa (And.intro k0 k1);have HST:Hid ((((w2.alloc (.cells #[.int .i64 (-1),.int .i64 0,.int .i64 0,.int .i64 2,.int .i64 2,.int .i64 4,.int .i64 4] 3)).alloc (.cells #[.string ⟨#[]⟩,.string ⟨#[65]⟩,.string ⟨#[]⟩,.string ⟨#[66]⟩,.string ⟨#[]⟩,.string ⟨#[67]⟩,.string ⟨#[68]⟩] 9)).alloc (.cells #[.slice (some ⟨w2.heap.size,0,none⟩) 7 7,.slice (some ⟨w2.heap.size+1,0,none⟩) 7 7] 39)).heap.size=w2.heap.size+1+1+1):=by unfold Hid;simp only [aQ]
 clear aI ht2 e1 e2 NV HL4 b7 o5 cB h1 h2 u1 u2 u3 k0 k1;have HL3:Hid (∀W:World,W.heap.size=w2.heap.size+1+1+1->aT Any ((Bd W).alloc (.cells #[.slice (some ⟨w2.heap.size+1+1+1,0,none⟩) 2 2,.slice (some ⟨w2.heap.size+1+1+1+1,0,none⟩) 2 2,.slice (some ⟨w2.heap.size+1+1+1+1+1,0,none⟩) 2 2] 26)) (.slice (some ⟨w2.heap.size+1+1+1+1+1+1,0,none⟩) 3 3) Sg/\Up W ((Bd W).alloc (.cells #[.slice (some ⟨w2.heap.size+1+1+1,0,none⟩) 2 2,.slice (some ⟨w2.heap.size+1+1+1+1,0,none⟩) 2 2,.slice (some ⟨w2.heap.size+1+1+1+1+1,0,none⟩) 2 2] 26))):=fun W hW=>by have h:=Z9 W;rw [hW] at h;exact h
 go_wp2_with fail;generalize ((w2.alloc (.cells #[.int .i64 (-1),.int .i64 0,.int .i64 0,.int .i64 2,.int .i64 2,.int .i64 4,.int .i64 4] 3)).alloc (.cells #[.string ⟨#[]⟩,.string ⟨#[65]⟩,.string ⟨#[]⟩,.string ⟨#[66]⟩,.string ⟨#[]⟩,.string ⟨#[67]⟩,.string ⟨#[68]⟩] 9)).alloc (.cells #[.slice (some ⟨w2.heap.size,0,none⟩) 7 7,.slice (some ⟨w2.heap.size+1,0,none⟩) 7 7] 39)=w7 at *;obtain ⟨hr,hur⟩:=HL3.out w7 HST.out;unfold Bd at hr hur;have HUR:=aa hur;have HBN:=aa (Z7 Any _ _ Sg hr (by decide) (Sl (by decide)));clear hr hur HL3;generalize ((((w7.alloc (.cells #[.int .i64 0,.int .i64 2] 3)).alloc (.cells #[.int .i64 0,.int .i64 (-1)] 3)).alloc (.cells #[.int .i64 1,.int .i64 3] 3)).alloc (.cells #[.slice (some ⟨w2.heap.size+1+1+1,0,none⟩) 2 2,.slice (some ⟨w2.heap.size+1+1+1+1,0,none⟩) 2 2,.slice (some ⟨w2.heap.size+1+1+1+1+1,0,none⟩) 2 2] 26))=w8 at *;refine HBN.out.mono ?_;rintro e w9 ⟨rfl,qK⟩;have e3:WU Sg=2:=by unfold WU;rw [if_pos I1.1,I1.2]
 have e4:WT Sg=0:=by unfold WT;rw [if_pos I1.1]
 rw [e3,e4];have nY:=HUR.out.trans qK;have k0:=nY.cell E2.out.1;have k1:=nY.cell E2.out.2;have HT9:=aa (wE.out.keep ((HUT.out.trans nY).kept _));have HW9:=aa (HTW.out.keep (nY.kept _));have NT:=aa (eW.out.trans (HUT.out.trans nY));have fO:=Up.alloc w9 (.cells #[.slice (some ⟨w2.heap.size,0,none⟩) 7 7,.slice (some ⟨w2.heap.size+1,0,none⟩) 7 7] 39);have aR:Hid (fQ Any (w9.alloc (.cells #[.slice (some ⟨w2.heap.size,0,none⟩) 7 7,.slice (some ⟨w2.heap.size+1,0,none⟩) 7 7] 39)) (.slice (some ⟨w9.heap.size,0,none⟩) 1 1) [zQ]):=by
  refine ⟨_,_,rfl,ah _,.inr ⟨_,0,rfl,trivial,fun k hk=>?_⟩⟩;obtain rfl:k=0:=by have:k<1:=hk;omega
  exact ⟨_,_,iq w9 _ _ _,jg w9 _ _ _,HW9.out.keep (fO.kept _)⟩
 have wP:=aa (Oq Any Any _ _ _ [zQ] [zQ] (HT9.out.keep (fO.kept _)) aR.out (by decide) (fun k=>by
  match k with
  | 0=>exact ⟨by decide,by decide⟩
  | k+1=>exact ⟨aF _,aF _⟩))
 have FK:=aa (NT.out.trans fO);clear qK nY fO e3 e4 HBN E2 HTW wE HUR HUT HST HT9 HW9 eW NT aR;go_wp2_with fail;refine wP.out.mono ?_;rintro e fZ ⟨rfl,RR⟩;have HUF:=aa (FK.out.trans RR);simp only [decide_true];clear RR wP;go_wp2;go_ret;exact ⟨rfl,HUF.out⟩
end
end Go.Proofs.YthgabkgmkolobaaGreat
