/- optimaltree.Bound. The example of layer 34: awake. The contract of layer 32's reference's .. -/
import Derived.Test.YthgabkgmkolobaaGreatQ40
set_option maxRecDepth 100000
set_option maxHeartbeats 4000000
namespace Go.Proofs.YthgabkgmkolobaaGreat
section
open Go.RowKit Go.Deep
theorem MD (xs:List Int):(Lib.compact (jU xs)).length<=xs.length:=by
 rw [Fb];exact (tD xs).length_le_of_subset fun x hx=>vV.1 hx
def I9 (w:World) (acy:List (List Int)) (e:Ending) (w':World):Prop:=e=.returned (.tuple #[.int .i64 (MB acy),.int .i64 (MA acy)])/\Up w w'
theorem Pw (S:Nat->Prop) (w:World) (vs:Value) (acy:List (List Int)) (hS:bh S w vs acy) (vu:acy.length<=1000000) (hr:∀k,(gl acy k).length<=1000000) :
  Calls Tryz.prog 18 #[vs] w (I9 w acy):=by
 have vW:=aa (DZ S w vs acy hS vu hr);obtain ⟨sp,sc,rfl,-,-⟩:=gM hS;have HS:=aa hS;have HE:Hid (MA acy=if cB acy=0 then 0 else 1):=rfl;have HR:Hid (MB acy=if cB acy=0 then I5 acy else 0):=rfl;have HAK:Hid (cB acy=0->0<acy.length/\acy.length<=32/\(gl acy 0).length<=4096/\∀k,k<acy.length->(gl acy k).length=(gl acy 0).length):=fun h=>by obtain ⟨a1,a2⟩:=zT h;obtain ⟨a3,a4⟩:=IK h;exact ⟨a1,a3,a4,fun k hk=>(a2 k hk).1⟩
 clear hS vu hr
 go_enter Tryz.func18,Tryz.ntmps18
 go_wp2_with fail;refine vW.out.mono ?_;rintro e w1 ⟨rfl,hq⟩;have b9:Hid (Up w w1):=hq ▸ Up.refl _;by_cases c1:cB acy=0
 ·obtain ⟨a0,a1,a2,a3⟩:=HAK.out c1
  have HA:=aa (And.intro a0 (And.intro a1 (And.intro a2 a3)));have iZ:Hid (∀W,Up w W->I9 w acy (.returned (.tuple #[.int .i64 (I5 acy),.int .i64 0])) W):=fun W hW=>⟨by rw [HE.out,HR.out,if_pos c1,if_pos c1],hW⟩;have ni:=aa (bh.keep HS.out (b9.out.kept S));obtain ⟨sb,so,s0,s1,rfl,hc0,jL⟩:=iP ni.out a0;rw [nA] at hc0;have i1:(0:Int)<(acy.length:Int):=by omega
  rw [c1];clear vW HE HR HAK hq c1 a0 a1 a2 a3 jL;have HBK:Hid (∀n,0<=cz (o7 acy) n/\cz (o7 acy) n<=100000*n):=fun n=>zU fun p _=>by have h1:=K4 acy p;have:=HA.out.2.1;omega
  have gT:Hid (∀n,cz (o7 acy) (n+1)=cz (o7 acy) n+o7 acy n):=fun n=>rfl;have pg:Hid (I5 acy=cz (o7 acy) (gl acy 0).length):=rfl;go_wp2_with fail
  go_loopw [4,5,6,8,16,21] (fun s _ _ _ i _ wr=>∃n:Nat,n<=(gl acy 0).length/\i=.int .i64 n/\s=.int .i64 (cz (o7 acy) n)/\Hid (Up w1 wr)) (fun _ _ _ _ i _ _=>(gl acy 0).length - (intOf i).toNat)
  case atStart=>exact ⟨0,aI _,rfl,rfl,Up.refl _⟩
  case round =>
   obtain ⟨n,hn,rfl,rfl,hU⟩:=hrel;obtain ⟨wo,rfl⟩:∃wo:World,wo=wr:=⟨_,rfl⟩;by_cases hlt:n<(gl acy 0).length
   ·have i2:(n:Int)<((gl acy 0).length:Int):=by omega
    (have i3:(n:Int)<4096:=by have:=HA.out.2.2.1;omega);(have i4:(0:Int)<=(n:Int):=by omega);have bG:=aa hlt;have Tw:=aa (And.intro (HBK.out n) (K4 acy n));have x4:=aa hU.out;generalize vu:cz (o7 acy) n=fn at *;have B2:=aa vu;clear hlt hU vu;go_wp2_with fail
    go_loopw [6,8,21] (fun l _ k wr=>∃j:Nat,j<=acy.length/\k=.int .i64 j/\Hid (ax wo.heap.size 3 wr l ((dO ((cI acy n).take j)).map (Value.int .i64)))/\Hid (Up wo wr)) (fun _ _ k _=>acy.length - (intOf k).toNat)
    case atStart=>exact ⟨0,aI _,rfl,ax.nil _ _ _,Up.refl _⟩
    case round =>
     obtain ⟨j,hj,rfl,hA,gu⟩:=hrel;obtain ⟨wi,rfl⟩:∃wi:World,wi=wr:=⟨_,rfl⟩;by_cases hlj:j<acy.length
     ·obtain ⟨rb,ro,r0,r1,er,XM,hir⟩:=iP (bh.keep ni.out ((x4.out.trans gu.out).kept S)) hlj
      injection er with er;injection er with XN XO;subst XN;subst XO;rw [HA.out.2.2.2 j hlj] at XM;obtain ⟨yb,yo,rfl,hcy⟩:=gp hir (k:=n) (by rw [HA.out.2.2.2 j hlj];exact bG.out);have lK:=aa (JT (st:=cI acy n) (k:=j) (by rw [xE];exact hlj));rw [ze _ _ hlj] at lK;have fT:=Pu (cI acy n) j;have hsz:=gu.out.size;have CH:=aa hlj;(have k1:(0:Int)<=(j:Int):=by omega);(have k2:(j:Int)<(acy.length:Int):=by omega);(have k3:(j:Int)<64:=by have:=HA.out.2.1;omega);generalize gi (gl acy j) n=y at *;clear hir hlj;by_cases h0:0<=y
      ·have iu:Hid (((dO ((cI acy n).take j)).map (Value.int .i64)).length=(dO ((cI acy n).take j)).length):=by unfold Hid;rw [aD]
       (have y8:Hid (dO ((cI acy n).take (j+1))=dO ((cI acy n).take j)++[y]):=by unfold Hid;rw [lK.out,if_pos h0]);(have d0:decide (0<=y)=true:=by simp [h0]);generalize hm:(dO ((cI acy n).take j)).length=m at *;go_wp2_with (at_builtin;refine uS wi rfl _ _ 26 rfl wo.heap.size 3 _ 8 Tryz.underlying26 Tryz.mA rfl (by decide) hA.out rfl _ rfl rfl m iu.out (by omega) hsz ?_;intro g cap w8 hown1 hg1 oK)
       (have OO:Hid (ax wo.heap.size 3 w8 (.slice (some ⟨g,0,none⟩) (m+1) cap) ((dO ((cI acy n).take (j+1))).map (Value.int .i64))):=by unfold Hid;rw [y8.out,cm];exact hown1);have nj:Hid (Up wo w8):=fc gu.out oK;clear hown1 hg1 oK
       go_roundw
       case rel=>exact ⟨j+1,CH.out,by go_num,OO,nj⟩
       case measure=>have:=CH.out;simp [intOf];omega
      ·have d0:decide (0<=y)=false:=by simp;omega
       (have y8:Hid (dO ((cI acy n).take (j+1))=dO ((cI acy n).take j)):=by unfold Hid;rw [lK.out,if_neg h0,fM]);clear h0;go_wp2_with fail
       go_roundw
       case rel=>exact ⟨j+1,CH.out,by go_num,by rw [y8.out];exact hA,gu⟩
       case measure=>have:=CH.out;simp [intOf];omega
     ·obtain rfl:j=acy.length:=by omega
      (have htk:(cI acy n).take acy.length=cI acy n:=by rw [<- xE acy n,eT]);rw [htk] at hA;obtain ⟨kp,kc,rfl,_⟩:=hA.out.form (n:=(dO (cI acy n)).length) (by rw [aD]);(have fT:(dO (cI acy n)).length<=acy.length:=by rw [<- xE acy n];exact tW _ _);have e9:Hid ((dO (cI acy n)).length<=32):=aR fT HA.out.2.1;have yF:=aa (WB wo wi _ (dO (cI acy n)) gu.out hA.out (by have:=e9.out;omega))
      have AH:Hid (o7 acy n=if (dd (dO (cI acy n))).length=0 then 0 else ((dd (dO (cI acy n))).length:Int) - 1):=rfl;rw [<- Fb] at AH;clear htk hA gu fT hj;go_wp2_with fail;refine yF.out.mono ?_;rintro e w7 ⟨rfl,K2,ho7⟩;have F3:=aa (Pr wo w7 _ (jU (dO (cI acy n))) K2 ho7 (by rw [yR];have:=e9.out;omega));have KT:Hid ((Lib.compact (jU (dO (cI acy n)))).length<=32):=aR (MD _) e9.out;clear K2 ho7 yF;go_wp2_with fail;refine F3.out.mono ?_;rintro e w8 ⟨⟨p8,c8,rfl⟩,qP⟩
      have nj:=aa (x4.out.trans qP);have mN:=aa (gT.out n);rw [B2.out,AH.out] at mN;have NR:=Tw.out;have hcl:=KT.out;clear qP F3 AH KT;generalize o7 acy n=bk at *;generalize (Lib.compact (jU (dO (cI acy n)))).length=D at *;(have i6:fn<=409600000/\0<=fn:=by constructor<;>omega);obtain ⟨i7,i8⟩:=i6;clear NR;go_wp2_with fail
      go_roundw
      case rel=>exact ⟨n+1,bG.out,by go_num,by rw [mN.out];congr 1;omega,nj.out⟩
      case measure=>have:=bG.out;simp [intOf];omega
   ·obtain rfl:n=(gl acy 0).length:=by omega
    have rF:=aa (iZ.out wo (b9.out.trans hU.out));rw [pg.out] at rF;clear hlt;go_wp2_with fail;go_ret2;exact rF.out
 ·have iZ:Hid (I9 w acy (.returned (.tuple #[.int .i64 0,.int .i64 1])) w1):=⟨by rw [HE.out,HR.out,if_neg c1,if_neg c1],b9.out⟩
  generalize cB acy=a at *;clear hq vW;go_wp2_with fail;go_ret2;exact iZ.out
theorem Ja {w:World} {B n:Nat} {xs:List (List Int)} (hn:n=xs.length) (f:Nat->Value) (hc:∀k,k<n->w.cell? ⟨B,k,none⟩=some (f k)) (hr:∀k,k<n->ay Any w (f k) (gl xs k)):bh Any w (.slice (some ⟨B,0,none⟩) n n) xs:=by
 subst hn;refine ⟨f,⟨_,_,rfl,ah _,.inr ⟨_,0,rfl,trivial,fun k hk=>?_⟩⟩,fun k hk=>hr k hk⟩;rw [ij];exact hc k hk
theorem zV (w:World) (x:Int) (xs:List Int) (h:xs=[x]):ay Any (w.alloc (.cells #[.int .i64 x] 3)) (.slice (some ⟨w.heap.size,0,none⟩) 1 1) xs:=tu w _ _ xs (by rw [h];rfl) 1 (by rw [h];rfl)
def zW (w:World) (a b c d:Int):World:=(((w.alloc (.cells #[.int .i64 a] 3)).alloc (.cells #[.int .i64 b] 3)).alloc (.cells #[.int .i64 c] 3)).alloc (.cells #[.int .i64 d] 3)
theorem Px (w:World) (a b c d:Int):bh Any ((zW w a b c d).alloc (.cells #[.slice (some ⟨w.heap.size,0,none⟩) 1 1,.slice (some ⟨w.heap.size+1,0,none⟩) 1 1,.slice (some ⟨w.heap.size+1+1,0,none⟩) 1 1,.slice (some ⟨w.heap.size+1+1+1,0,none⟩) 1 1] 26)) (.slice (some ⟨w.heap.size+1+1+1+1,0,none⟩) 4 4) [[a],[b],[c],[d]]/\Up w ((zW w a b c d).alloc (.cells #[.slice (some ⟨w.heap.size,0,none⟩) 1 1,.slice (some ⟨w.heap.size+1,0,none⟩) 1 1,.slice (some ⟨w.heap.size+1+1,0,none⟩) 1 1,.slice (some ⟨w.heap.size+1+1+1,0,none⟩) 1 1] 26)):=by
 have s0:=zV w a [a] rfl;have s1:=zV (w.alloc (.cells #[.int .i64 a] 3)) b [b] rfl;have s2:=zV ((w.alloc (.cells #[.int .i64 a] 3)).alloc (.cells #[.int .i64 b] 3)) c [c] rfl;have s3:=zV (((w.alloc (.cells #[.int .i64 a] 3)).alloc (.cells #[.int .i64 b] 3)).alloc (.cells #[.int .i64 c] 3)) d [d] rfl;simp only [aL] at s1 s2 s3;have hsz:(zW w a b c d).heap.size=w.heap.size+1+1+1+1:=by unfold zW;simp only [aL]
 have hL:=Up.alloc (zW w a b c d) (.cells #[.slice (some ⟨w.heap.size,0,none⟩) 1 1,.slice (some ⟨w.heap.size+1,0,none⟩) 1 1,.slice (some ⟨w.heap.size+1+1,0,none⟩) 1 1,.slice (some ⟨w.heap.size+1+1+1,0,none⟩) 1 1] 26);have u3:=Up.alloc (((w.alloc (.cells #[.int .i64 a] 3)).alloc (.cells #[.int .i64 b] 3)).alloc (.cells #[.int .i64 c] 3)) (.cells #[.int .i64 d] 3);have u2:=Up.alloc ((w.alloc (.cells #[.int .i64 a] 3)).alloc (.cells #[.int .i64 b] 3)) (.cells #[.int .i64 c] 3);have u1:=Up.alloc (w.alloc (.cells #[.int .i64 a] 3)) (.cells #[.int .i64 b] 3)
 have u0:=Up.alloc w (.cells #[.int .i64 a] 3);refine ⟨Ja (f:=fun k=>.slice (some ⟨w.heap.size+k,0,none⟩) 1 1) rfl (fun k hk=>?_) (fun k hk=>?_),((((u0.trans u1).trans u2).trans u3).trans hL)⟩
 ·rw [<- hsz,aH]
  match k,hk with
  | 0,_=>rfl
  | 1,_=>rfl
  | 2,_=>rfl
  | 3,_=>rfl
 ·match k,hk with
  | 0,_=>exact ay.keep s0 ((((u1.trans u2).trans u3).trans hL).kept _)
  | 1,_=>exact ay.keep s1 (((u2.trans u3).trans hL).kept _)
  | 2,_=>exact ay.keep s2 ((u3.trans hL).kept _)
  | 3,_=>exact ay.keep s3 (hL.kept _)
def uJ (w:World):World:=((w.alloc (.cells #[.int .i64 0,.int .i64 2] 3)).alloc (.cells #[.int .i64 0,.int .i64 (-1)] 3)).alloc (.cells #[.int .i64 1,.int .i64 3] 3)
theorem Py (w:World):bh Any ((uJ w).alloc (.cells #[.slice (some ⟨w.heap.size,0,none⟩) 2 2,.slice (some ⟨w.heap.size+1,0,none⟩) 2 2,.slice (some ⟨w.heap.size+1+1,0,none⟩) 2 2] 26)) (.slice (some ⟨w.heap.size+1+1+1,0,none⟩) 3 3) I6/\Up w ((uJ w).alloc (.cells #[.slice (some ⟨w.heap.size,0,none⟩) 2 2,.slice (some ⟨w.heap.size+1,0,none⟩) 2 2,.slice (some ⟨w.heap.size+1+1,0,none⟩) 2 2] 26)):=by
 have s0:=tu w #[.int .i64 0,.int .i64 2] 3 [0,2] rfl 2 rfl;have s1:=tu (w.alloc (.cells #[.int .i64 0,.int .i64 2] 3)) #[.int .i64 0,.int .i64 (-1)] 3 [0,-1] rfl 2 rfl;have s2:=tu ((w.alloc (.cells #[.int .i64 0,.int .i64 2] 3)).alloc (.cells #[.int .i64 0,.int .i64 (-1)] 3)) #[.int .i64 1,.int .i64 3] 3 [1,3] rfl 2 rfl;simp only [aL] at s1 s2;have hsz:(uJ w).heap.size=w.heap.size+1+1+1:=by unfold uJ;simp only [aL]
 have hL:=Up.alloc (uJ w) (.cells #[.slice (some ⟨w.heap.size,0,none⟩) 2 2,.slice (some ⟨w.heap.size+1,0,none⟩) 2 2,.slice (some ⟨w.heap.size+1+1,0,none⟩) 2 2] 26);have u2:=Up.alloc ((w.alloc (.cells #[.int .i64 0,.int .i64 2] 3)).alloc (.cells #[.int .i64 0,.int .i64 (-1)] 3)) (.cells #[.int .i64 1,.int .i64 3] 3);have u1:=Up.alloc (w.alloc (.cells #[.int .i64 0,.int .i64 2] 3)) (.cells #[.int .i64 0,.int .i64 (-1)] 3);have u0:=Up.alloc w (.cells #[.int .i64 0,.int .i64 2] 3)
 refine ⟨Ja (f:=fun k=>.slice (some ⟨w.heap.size+k,0,none⟩) 2 2) rfl (fun k hk=>?_) (fun k hk=>?_),(((u0.trans u1).trans u2).trans hL)⟩
 ·rw [<- hsz,aH]
  match k,hk with
  | 0,_=>rfl
  | 1,_=>rfl
  | 2,_=>rfl
 ·match k,hk with
  | 0,_=>exact ay.keep s0 (((u1.trans u2).trans hL).kept _)
  | 1,_=>exact ay.keep s1 ((u2.trans hL).kept _)
  | 2,_=>exact ay.keep s2 (hL.kept _)
theorem Yo (k:Nat):(gs rH k).size<=70000:=iL (M:=70000) (by decide) k
theorem Jb {l:List (List Int)} (h:∀x∈l,x.length<=1000000) (k:Nat):(gl l k).length<=1000000:=by
 by_cases hk:k<l.length
 ·have:gl l k=l[k]:=by simp [gl,hk]
  rw [this];exact h _ (lz hk)
 ·have:gl l k=[]:=by simp [gl,show l.length<=k by omega]
  rw [this];simp
theorem Pz (w:World):Calls Tryz.prog 26 #[] w fun e w'=>e=.returned (.bool true)/\Up w w':=by
 have eY:Mr 7=945/\Mq 7=0:=by decide +kernel
 have bw:=Up.alloc w (.cells #[.string ⟨#[65]⟩,.string ⟨#[66]⟩,.string ⟨#[67]⟩,.string ⟨#[68]⟩] 9);have Vt:=Hp w #[.string ⟨#[65]⟩,.string ⟨#[66]⟩,.string ⟨#[67]⟩,.string ⟨#[68]⟩] 9 rH rfl 4 rfl;have b9:=aa bw;have HN1:=aa Vt;clear bw Vt
 go_enter Tryz.func26,Tryz.ntmps26
 go_wp2_with fail;refine (O1 7 (by decide) w).mono ?_;rintro e w0 ⟨rfl,rfl⟩;rw [eY.1,eY.2];clear eY;have Tx:=aa (Px (w.alloc (.cells #[.string ⟨#[65]⟩,.string ⟨#[66]⟩,.string ⟨#[67]⟩,.string ⟨#[68]⟩] 9)) 0 0 1 1);have x5:=aa (Bv Any _ _ _ rH wh (av.keep HN1.out (Tx.out.2.kept _)) (by decide) Yo Tx.out.1 (by decide) (Jb (by decide)) (.inl (by decide)));have bY:=aa (b9.out.trans Tx.out.2);simp only [aL] at x5 bY;unfold zW at x5 bY;go_wp2_with fail;refine x5.out.mono ?_;rintro e w2 ⟨aJ,v2,rfl,ht2⟩
 have e1:xC rH wh=1:=by unfold xC;rw [I7,if_pos rfl,I8]
 have e2:xD rH wh=[tJ]:=by unfold xD;rw [if_pos I7,UC]
 rw [e2] at ht2;rw [e1,I7];obtain ⟨p2,c2,rfl,-⟩:=o6 ht2;have ek:=aa (bY.out.trans aJ);have uk:Hid (ew Any w2 (.slice p2 1 c2) [tJ]):=ht2;have h1:=tu w2 #[.int .i64 (-1),.int .i64 0,.int .i64 0,.int .i64 2,.int .i64 2,.int .i64 4,.int .i64 4] 3 tJ.ps rfl 7 rfl;have h2:=Hp (w2.alloc (.cells #[.int .i64 (-1),.int .i64 0,.int .i64 0,.int .i64 2,.int .i64 2,.int .i64 4,.int .i64 4] 3)) #[.string ⟨#[]⟩,.string ⟨#[65]⟩,.string ⟨#[]⟩,.string ⟨#[66]⟩,.string ⟨#[]⟩,.string ⟨#[67]⟩,.string ⟨#[68]⟩] 9 tJ.ns rfl 7 rfl
 have u1:=Up.alloc w2 (.cells #[.int .i64 (-1),.int .i64 0,.int .i64 0,.int .i64 2,.int .i64 2,.int .i64 4,.int .i64 4] 3);have u2:=Up.alloc (w2.alloc (.cells #[.int .i64 (-1),.int .i64 0,.int .i64 0,.int .i64 2,.int .i64 2,.int .i64 4,.int .i64 4] 3)) (.cells #[.string ⟨#[]⟩,.string ⟨#[65]⟩,.string ⟨#[]⟩,.string ⟨#[66]⟩,.string ⟨#[]⟩,.string ⟨#[67]⟩,.string ⟨#[68]⟩] 9)
 have u3:=Up.alloc ((w2.alloc (.cells #[.int .i64 (-1),.int .i64 0,.int .i64 0,.int .i64 2,.int .i64 2,.int .i64 4,.int .i64 4] 3)).alloc (.cells #[.string ⟨#[]⟩,.string ⟨#[65]⟩,.string ⟨#[]⟩,.string ⟨#[66]⟩,.string ⟨#[]⟩,.string ⟨#[67]⟩,.string ⟨#[68]⟩] 9)) (.cells #[.slice (some ⟨w2.heap.size,0,none⟩) 7 7,.slice (some ⟨w2.heap.size+1,0,none⟩) 7 7] 39)
 have k0:=fO ((w2.alloc (.cells #[.int .i64 (-1),.int .i64 0,.int .i64 0,.int .i64 2,.int .i64 2,.int .i64 4,.int .i64 4] 3)).alloc (.cells #[.string ⟨#[]⟩,.string ⟨#[65]⟩,.string ⟨#[]⟩,.string ⟨#[66]⟩,.string ⟨#[]⟩,.string ⟨#[67]⟩,.string ⟨#[68]⟩] 9)) (.slice (some ⟨w2.heap.size,0,none⟩) 7 7) (.slice (some ⟨w2.heap.size+1,0,none⟩) 7 7) 39
 have k1:=fP ((w2.alloc (.cells #[.int .i64 (-1),.int .i64 0,.int .i64 0,.int .i64 2,.int .i64 2,.int .i64 4,.int .i64 4] 3)).alloc (.cells #[.string ⟨#[]⟩,.string ⟨#[65]⟩,.string ⟨#[]⟩,.string ⟨#[66]⟩,.string ⟨#[]⟩,.string ⟨#[67]⟩,.string ⟨#[68]⟩] 9)) (.slice (some ⟨w2.heap.size,0,none⟩) 7 7) (.slice (some ⟨w2.heap.size+1,0,none⟩) 7 7) 39;simp only [aL] at h2 k0 k1;have HTW:=aa (aC.keep (S:=Any) (t:=tJ) ⟨_,_,rfl,ay.keep h1 (u2.kept _),h2⟩ (u3.kept _));have Yp:=aa ((u1.trans u2).trans u3);have yP:=aa (And.intro k0 k1)
 have HST:Hid ((((w2.alloc (.cells #[.int .i64 (-1),.int .i64 0,.int .i64 0,.int .i64 2,.int .i64 2,.int .i64 4,.int .i64 4] 3)).alloc (.cells #[.string ⟨#[]⟩,.string ⟨#[65]⟩,.string ⟨#[]⟩,.string ⟨#[66]⟩,.string ⟨#[]⟩,.string ⟨#[67]⟩,.string ⟨#[68]⟩] 9)).alloc (.cells #[.slice (some ⟨w2.heap.size,0,none⟩) 7 7,.slice (some ⟨w2.heap.size+1,0,none⟩) 7 7] 39)).heap.size=w2.heap.size+1+1+1):=by unfold Hid;simp only [aL]
 clear aJ ht2 e1 e2 x5 Tx bY HN1 b9 h1 h2 u1 u2 u3 k0 k1;have HL3:Hid (∀W:World,W.heap.size=w2.heap.size+1+1+1->bh Any ((uJ W).alloc (.cells #[.slice (some ⟨w2.heap.size+1+1+1,0,none⟩) 2 2,.slice (some ⟨w2.heap.size+1+1+1+1,0,none⟩) 2 2,.slice (some ⟨w2.heap.size+1+1+1+1+1,0,none⟩) 2 2] 26)) (.slice (some ⟨w2.heap.size+1+1+1+1+1+1,0,none⟩) 3 3) I6/\Up W ((uJ W).alloc (.cells #[.slice (some ⟨w2.heap.size+1+1+1,0,none⟩) 2 2,.slice (some ⟨w2.heap.size+1+1+1+1,0,none⟩) 2 2,.slice (some ⟨w2.heap.size+1+1+1+1+1,0,none⟩) 2 2] 26))):=fun W hW=>by have h:=Py W;rw [hW] at h;exact h
 go_wp2_with fail;generalize ((w2.alloc (.cells #[.int .i64 (-1),.int .i64 0,.int .i64 0,.int .i64 2,.int .i64 2,.int .i64 4,.int .i64 4] 3)).alloc (.cells #[.string ⟨#[]⟩,.string ⟨#[65]⟩,.string ⟨#[]⟩,.string ⟨#[66]⟩,.string ⟨#[]⟩,.string ⟨#[67]⟩,.string ⟨#[68]⟩] 9)).alloc (.cells #[.slice (some ⟨w2.heap.size,0,none⟩) 7 7,.slice (some ⟨w2.heap.size+1,0,none⟩) 7 7] 39)=w7 at *;obtain ⟨hr,Yq⟩:=HL3.out w7 HST.out;unfold uJ at hr Yq;have HUR:=aa Yq;have Tw:=aa (Pw Any _ _ I6 hr (by decide) (Jb (by decide)));clear hr Yq HL3
 generalize ((((w7.alloc (.cells #[.int .i64 0,.int .i64 2] 3)).alloc (.cells #[.int .i64 0,.int .i64 (-1)] 3)).alloc (.cells #[.int .i64 1,.int .i64 3] 3)).alloc (.cells #[.slice (some ⟨w2.heap.size+1+1+1,0,none⟩) 2 2,.slice (some ⟨w2.heap.size+1+1+1+1,0,none⟩) 2 2,.slice (some ⟨w2.heap.size+1+1+1+1+1,0,none⟩) 2 2] 26))=w8 at *;refine Tw.out.mono ?_;rintro e w9 ⟨rfl,uH⟩;have e3:MB I6=2:=by unfold MB;rw [if_pos Bw.1,Bw.2]
 have e4:MA I6=0:=by unfold MA;rw [if_pos Bw.1]
 rw [e3,e4];have uK:=HUR.out.trans uH;have k0:=uK.cell yP.out.1;have k1:=uK.cell yP.out.2;have HT9:=aa (uk.out.keep ((Yp.out.trans uK).kept _));have HW9:=aa (HTW.out.keep (uK.kept _));have Tm:=aa (ek.out.trans (Yp.out.trans uK));have bq:=Up.alloc w9 (.cells #[.slice (some ⟨w2.heap.size,0,none⟩) 7 7,.slice (some ⟨w2.heap.size+1,0,none⟩) 7 7] 39);have bG:Hid (ew Any (w9.alloc (.cells #[.slice (some ⟨w2.heap.size,0,none⟩) 7 7,.slice (some ⟨w2.heap.size+1,0,none⟩) 7 7] 39)) (.slice (some ⟨w9.heap.size,0,none⟩) 1 1) [tJ]):=by
  refine ⟨_,_,rfl,ah _,.inr ⟨_,0,rfl,trivial,fun k hk=>?_⟩⟩;obtain rfl:k=0:=by have:k<1:=hk;omega
  exact ⟨_,_,fO w9 _ _ _,fP w9 _ _ _,HW9.out.keep (bq.kept _)⟩
 have HSM:=aa (Fo Any Any _ _ _ [tJ] [tJ] (HT9.out.keep (bq.kept _)) bG.out (by decide) (fun k=>by
  match k with
  | 0=>exact ⟨by decide,by decide⟩
  | k+1=>exact ⟨aI _,aI _⟩))
 have aaV:=aa (Tm.out.trans bq);clear uH uK bq e3 e4 Tw yP HTW uk HUR Yp HST HT9 HW9 ek Tm bG;go_wp2_with fail;refine HSM.out.mono ?_;rintro e w11 ⟨rfl,Yr⟩;have Cj:=aa (aaV.out.trans Yr);simp only [decide_true];clear Yr HSM;go_wp2_with fail;go_ret;exact ⟨rfl,Cj.out⟩
theorem Fp (s:ByteArray) (h:s.size - 1<s.size) (S1:16<s.size) (Aq:((s[s.size - 1].toNat:Int)==42)=true):bu s.data.toList=false:=by
 have hl:=size_data s;have h2:s[s.size - 1]=42:=by
  have h3:(s[s.size - 1].toNat:Int)=42:=by simpa using Aq
  have h4:s[s.size - 1].toNat=42:=by omega
  exact UInt8.toNat_inj.1 h4
 unfold bu;rw [Ba s h,h2,if_pos rfl,hl,decide_eq_false (by omega),Bool.and_false]
theorem PA (s:ByteArray) (hs:s.size<=70000) (w:World):Calls Tryz.prog 150 #[.string s] w fun e w'=>e=.returned (.bool (bu s.data.toList))/\Below w.heap.size w w':=by
 go_enter Tryz.func150,Tryz.ntmps150
 go_wp2_with fail
 ·have hf:=aa (Ck s (by omega) (by omega) ‹_›)
  refine (l7 _ (by simp;omega) _).mono ?_
  rintro e w1 ⟨rfl,hb⟩
  rw [<- hf.out]
  go_wp2_with fail
  go_ret
  exact ⟨rfl,hb⟩
 ·have hf:=aa (Fp s (by omega) (by omega) ‹_›)
  go_ret
  exact ⟨bA (by rw [hf.out]),cN _ _⟩
 ·have hf:=aa (Ar s (by omega) ‹_›)
  refine (l7 _ hs _).mono ?_
  rintro e w1 ⟨rfl,hb⟩
  rw [<- hf.out]
  go_wp2_with fail
  go_ret
  exact ⟨rfl,hb⟩
 ·have hf:=aa (Ey s (by omega))
  refine (l7 _ hs _).mono ?_
  rintro e w1 ⟨rfl,hb⟩
  rw [<- hf.out]
  go_wp2_with fail
  go_ret
  exact ⟨rfl,hb⟩
theorem ME (S:Nat->Prop) (w:World) (v:Value) (acw:List ByteArray) (s:ByteArray) (h:av S w v acw) (hn:acw.length<=1000000) :
  Calls Tryz.prog 143 #[v,.string s] w fun e w'=>e=.returned (.int .i64 (iW acw s))/\w=w':=by
 obtain ⟨p,cap,rfl,hcap,-⟩:=aA.open h;have h:av S w (.slice p acw.length cap) acw:=h;have HF:Hid (iW acw s=cF (fun j=>decide (s=gs acw j)) acw.length):=rfl;have HN:=aa h;clear h
 go_enter Tryz.func143,Tryz.ntmps143
 go_wp2_with fail
 go_loop [4,5] (fun _ i=>∃k:Nat,k<=acw.length/\i=.int .i64 k/\Hid (∀j,j<k->decide (s=gs acw j)=false)) (fun _ i=>acw.length - (intOf i).toNat)
 case atStart=>exact ⟨0,aI _,rfl,fun j hj=>absurd hj (bS _)⟩
 case round =>
  obtain ⟨k,hk,rfl,hd⟩:=hrel;by_cases hlt:k<acw.length
  ·obtain ⟨b,off,rfl,hc⟩:=cA HN.out hlt
   (have uL:Hid (decide (s=gs acw k)=true->(k:Int)=iW acw s):=fun h1=>by rw [HF.out];exact (mq (p:=fun j=>decide (s=gs acw j)) hlt hd.out h1).symm);have HX:Hid (∀j,j<k+1->¬j=k->decide (s=gs acw j)=false):=fun j hj h1=>hd.out j (by omega);(have HK:Hid (∀j,j<k+1->decide (s=gs acw k)=false->decide (s=gs acw j)=false):=fun j hj h1=>if e:j=k then by subst e;exact h1 else HX.out j hj e);generalize gs acw k=nm at *;go_wp2_with fail
   ·have hx:=CS ‹(nm.toList==s.toList)=true›
    go_ret;exact ⟨aN (uL.out (by simpa using hx.symm)),rfl⟩
   ·have hx:=FL ‹(nm.toList==s.toList)=false›
    go_round
    case rel=>exact ⟨k+1,by omega,by go_num,fun j hj=>HK.out j hj (by simpa using fun e=>hx e.symm)⟩
    case measure=>simp [intOf];omega
  ·obtain rfl:k=acw.length:=by omega
   (have HE:Hid (iW acw s = -1):=by unfold Hid;rw [HF.out];exact jX hd.out);go_wp2_with fail;go_ret;exact ⟨aN HE.out.symm,rfl⟩
end
end Go.Proofs.YthgabkgmkolobaaGreat
