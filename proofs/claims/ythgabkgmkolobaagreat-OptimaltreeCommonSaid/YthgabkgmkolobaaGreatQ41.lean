/- Lists of lists that a call grows; a store into a list of the call's own. slices.Sort at .. -/
import Derived.Test.YthgabkgmkolobaaGreatQ25
set_option maxRecDepth 100000
set_option maxHeartbeats 4000000
namespace Go.Proofs.YthgabkgmkolobaaGreat
section
open Go.RowKit Go.Deep
theorem ZZ {l:List Int} {m:Nat} (h:m<l.length):l.take (m+1)=l.take m++[gi l m]:=by
 rw [jY h];simp [gi,h]
end
section
open Go.RowKit Go.Shelf Go.Deep Go.Sort
theorem sort_t (w w1:World) (v:Value) (xs:List Int) (hu:Up w w1) (ho:ax w.heap.size 3 w1 v (xs.map (Value.int .i64))) (hlen:xs.length<=1000000) :
  Calls Tryz.prog 71 #[v] w1 fun e w'=>e=.returned (.tuple #[])/\Up w w'/\ax w.heap.size 3 w' v ((jC xs).map (Value.int .i64)):=by
 rcases ho.2 with ⟨rfl,h0⟩ | ⟨g,cap,cur,rfl,hg,hc,hn,hcm,hcs,ht⟩
 ·have hx:xs=[]:=by cases xs with | nil=>rfl | cons _ _=>simp at h0
  subst hx;refine (AnyM.slices_Sort_int_none Tryz.sortZ none 0 w1).mono ?_;rintro e w' ⟨rfl,rfl⟩;exact ⟨rfl,hu,by unfold jC;simpa using ho⟩
 ·simp only [aG] at hn ht ho ⊢
  refine (AnyM.slices_Sort_int Tryz.sortZ g 0 cap xs w1 (holds_of_blockI hc (by simpa using ht)) (fR.1 hc).1 (by omega)).mono ?_;rintro e w' ⟨rfl,n,os,rfl⟩;refine ⟨rfl,zA hu (grownBy_sortedI _) hu.size (fun j hj=>by cases hj;exact hg),?_⟩;have h:=ownsRow_sortedI (n:=n) (os:=os) (ss:=xs) (ts:=jC xs) (qZ xs) hg hc hn hcm (by simpa using hcs);unfold ax;rw [aG,qZ];exact h
end
section
end
section
section
variable {t:az} {st:List Int}
def eN (st:List Int):List Int:=st.filter fun s=>decide (0<=s)
end
end
section
def JF (aad:List (List Int)) (p:Nat):Nat:=(dd (eN (bg aad p))).length
def lH (aad:List (List Int)) (p:Nat):Int:=if JF aad p=0 then 0 else (JF aad p:Int) - 1
def lI (aad:List (List Int)):Int:=bJ (lH aad) (gl aad 0).length
def Mr (aad:List (List Int)):Int:=if fo aad=0 then 0 else 1
def Ms (aad:List (List Int)):Int:=if fo aad=0 then lI aad else 0
theorem gC (aad:List (List Int)) (p:Nat):(bg aad p).length=aad.length:=by unfold bg;rw [aG]
theorem ddP_le (aad:List (List Int)) (p:Nat):JF aad p<=aad.length:=by
 unfold JF;have h1:(dd (eN (bg aad p))).length<=(eN (bg aad p)).length:=(vI _).length_le_of_subset fun x hx=>mE.1 hx;have h2:(eN (bg aad p)).length<=(bg aad p).length:=pG _ _;rw [gC] at h2;omega
theorem Z0 (aad:List (List Int)) (p:Nat):0<=lH aad p/\lH aad p<=aad.length:=by
 have:=ddP_le aad p;unfold lH;split<;>omega
end
end Go.Proofs.YthgabkgmkolobaaGreat
namespace Go.Proofs
open Go.Shelf
def Tryz.compactZ_ren:Go.Shelf.Ren:=⟨fun | 20=>72 | n=>n,fun | 22=>26 | 3=>3 | 4=>4 | 0=>0 | n=>n,fun | n=>n⟩
theorem Tryz.compactZ:Go.Proofs.Lays2.n20 Tryz.prog Tryz.compactZ_ren:={
 mixed:=by kernel_rfl
 f20:=Tryz.func72.trans (congrArg some (by kernel_rfl))
 t0:=Tryz.underlying0
 a0:=Tryz.isAgg0
 z0:=Tryz.sizeOf0
 v0:=Tryz.zeroValue0
 t3:=Tryz.underlying3
 a3:=Tryz.isAgg3
 z3:=Tryz.sizeOf3
 v3:=Tryz.zeroValue3
 t4:=Tryz.underlying4
 a4:=Tryz.isAgg4
 z4:=Tryz.sizeOf4
 v4:=Tryz.zeroValue4
 t22:=Tryz.underlying26
 a22:=Tryz.isAgg26
 z22:=Tryz.sizeOf26
 v22:=Tryz.zeroValue26
 i3:=by kernel_rfl }
end Go.Proofs
namespace Go.Proofs.YthgabkgmkolobaaGreat
section
open Go.RowKit Go.Shelf Go.Deep Go.Sort
theorem X9 {w:World} {g n:Nat} (d:Array Int):w.grownBy (putRow (Value.int .i64) (Sort.ahead w n) g 0 d) (some g):=by
 refine ⟨rfl,rfl,rfl,by simp [putRow,mapBlock,Sort.ahead],fun k hk hne=>?_⟩;have:g≠k:=fun e=>hne (by rw [e]);simp [putRow,mapBlock,Sort.ahead,Array.getElem?_modify,this]
theorem compact_t (w w1:World) (v:Value) (xs:List Int) (hu:Up w w1) (ho:ax w.heap.size 3 w1 v (xs.map (Value.int .i64))) (hlen:xs.length<=1000000) :
  Calls Tryz.prog 72 #[v] w1 fun e w'=>(∃p cap,e=.returned (.slice p (Lib.compact xs).length cap))/\Up w w':=by
 rcases ho.2 with ⟨rfl,h0⟩ | ⟨g,cap,cur,rfl,hg,hc,hn,hcm,hcs,ht⟩
 ·have hx:xs=[]:=by cases xs with | nil=>rfl | cons _ _=>simp at h0
  subst hx;refine (Any.slices_Compact_int_empty Tryz.compactZ none 0 w1).mono ?_;rintro e w' ⟨rfl,rfl⟩;exact ⟨⟨_,_,rfl⟩,hu⟩
 ·simp only [aG] at hn ht ho ⊢
  refine (Any.slices_Compact_int Tryz.compactZ g 0 cap xs w1 (holds_of_blockI hc (by simpa using ht)) (by omega) (by omega)).mono ?_;rintro e w' ⟨rfl,q,rfl⟩;exact ⟨⟨_,_,rfl⟩,zA hu (X9 _) hu.size (fun j hj=>by cases hj;exact hg)⟩
end
section
open Go
theorem Ya {st:List Int} {k:Nat} (hk:k<st.length):eN (st.take (k+1))=eN (st.take k)++(if 0<=gi st k then [gi st k] else []):=by
 rw [ZZ hk];unfold eN;rw [vg];congr 1;by_cases h:0<=gi st k
 ·rw [if_pos h];simp [h]
 ·rw [if_neg h];simp [h]
theorem knownL_le (st:List Int) (k:Nat):(eN (st.take k)).length<=k:=aJ (pG _ _) (by simp;omega)
end
section
open Go.RowKit Go.Deep
theorem compact_le (xs:List Int):(Lib.compact (jC xs)).length<=xs.length:=by
 rw [RG];exact (vI xs).length_le_of_subset fun x hx=>mE.1 hx
def JG (w:World) (aad:List (List Int)) (e:Ending) (w':World):Prop:=e=.returned (.tuple #[.int .i64 (Ms aad),.int .i64 (Mr aad)])/\Up w w'
theorem JH (S:Nat->Prop) (w:World) (vs:Value) (aad:List (List Int)) (hS:aR S w vs aad) (ud:aad.length<=1000000) (hr:∀k,(gl aad k).length<=1000000) :
  Calls Tryz.prog 18 #[vs] w (JG w aad):=by
 have EX:=aa (Qm S w vs aad hS ud hr);obtain ⟨sp,sc,rfl,-,-⟩:=dW hS;have HS:=aa hS;have HE:Hid (Mr aad=if fo aad=0 then 0 else 1):=rfl;have HR:Hid (Ms aad=if fo aad=0 then lI aad else 0):=rfl;have HAK:Hid (fo aad=0->0<aad.length/\aad.length<=32/\(gl aad 0).length<=4096/\∀k,k<aad.length->(gl aad k).length=(gl aad 0).length):=fun h=>by obtain ⟨a1,a2⟩:=yM h;obtain ⟨a3,a4⟩:=Vo h;exact ⟨a1,a3,a4,fun k hk=>(a2 k hk).1⟩
 clear hS ud hr
 go_enter Tryz.func18,Tryz.ntmps18
 go_wp2_with fail;refine EX.out.mono ?_;rintro e w1 ⟨rfl,hq⟩;have cA:Hid (Up w w1):=hq ▸ Up.refl _;by_cases c1:fo aad=0
 ·obtain ⟨a0,a1,a2,a3⟩:=HAK.out c1
  have HA:=aa (And.intro a0 (And.intro a1 (And.intro a2 a3)));have kA:Hid (∀W,Up w W->JG w aad (.returned (.tuple #[.int .i64 (lI aad),.int .i64 0])) W):=fun W hW=>⟨by rw [HE.out,HR.out,if_pos c1,if_pos c1],hW⟩;have lN:=aa (aR.keep HS.out (cA.out.kept S));obtain ⟨sb,so,s0,s1,rfl,hc0,jg⟩:=gP lN.out a0;rw [jZ] at hc0;have i1:(0:Int)<(aad.length:Int):=by omega
  rw [c1];clear EX HE HR HAK hq c1 a0 a1 a2 a3 jg;have Z1:Hid (∀n,0<=bJ (lH aad) n/\bJ (lH aad) n<=100000*n):=fun n=>J9 fun p _=>by have h1:=Z0 aad p;have:=HA.out.2.1;omega
  have lK:Hid (∀n,bJ (lH aad) (n+1)=bJ (lH aad) n+lH aad n):=fun n=>rfl;have vW:Hid (lI aad=bJ (lH aad) (gl aad 0).length):=rfl;go_wp2_with fail
  go_loopw [4,5,6,8,16,21] (fun s _ _ _ i _ wr=>∃n:Nat,n<=(gl aad 0).length/\i=.int .i64 n/\s=.int .i64 (bJ (lH aad) n)/\Hid (Up w1 wr)) (fun _ _ _ _ i _ _=>(gl aad 0).length - (intOf i).toNat)
  case atStart=>exact ⟨0,aL _,rfl,rfl,Up.refl _⟩
  case round =>
   obtain ⟨n,hn,rfl,rfl,hU⟩:=hrel;obtain ⟨wo,rfl⟩:∃wo:World,wo=wr:=⟨_,rfl⟩;by_cases hlt:n<(gl aad 0).length
   ·have i2:(n:Int)<((gl aad 0).length:Int):=by omega
    (have i3:(n:Int)<4096:=by have:=HA.out.2.2.1;omega);(have i4:(0:Int)<=(n:Int):=by omega);have bu:=aa hlt;have Fe:=aa (And.intro (Z1.out n) (Z0 aad n));have oV:=aa hU.out;generalize ud:bJ (lH aad) n=fn at *;have GN:=aa ud;clear hlt hU ud;go_wp2_with fail
    go_loopw [6,8,21] (fun l _ k wr=>∃j:Nat,j<=aad.length/\k=.int .i64 j/\Hid (ax wo.heap.size 3 wr l ((eN ((bg aad n).take j)).map (Value.int .i64)))/\Hid (Up wo wr)) (fun _ _ k _=>aad.length - (intOf k).toNat)
    case atStart=>exact ⟨0,aL _,rfl,ax.nil _ _ _,Up.refl _⟩
    case round =>
     obtain ⟨j,hj,rfl,hA,dY⟩:=hrel;obtain ⟨wi,rfl⟩:∃wi:World,wi=wr:=⟨_,rfl⟩;by_cases hlj:j<aad.length
     ·obtain ⟨rb,ro,r0,r1,er,K3,hir⟩:=gP (aR.keep lN.out ((oV.out.trans dY.out).kept S)) hlj
      injection er with er;injection er with er1 er2;subst er1;subst er2;rw [HA.out.2.2.2 j hlj] at K3;obtain ⟨yb,yo,rfl,hcy⟩:=dG hir (k:=n) (by rw [HA.out.2.2.2 j hlj];exact bu.out);have oy:=aa (Ya (st:=bg aad n) (k:=j) (by rw [gC];exact hlj));rw [r7 _ _ hlj] at oy;have gz:=knownL_le (bg aad n) j;have hsz:=dY.out.size;have Di:=aa hlj;(have k1:(0:Int)<=(j:Int):=by omega);(have k2:(j:Int)<(aad.length:Int):=by omega);(have k3:(j:Int)<64:=by have:=HA.out.2.1;omega);generalize gi (gl aad j) n=y at *;clear hir hlj;by_cases h0:0<=y
      ·have gI:Hid (((eN ((bg aad n).take j)).map (Value.int .i64)).length=(eN ((bg aad n).take j)).length):=by unfold Hid;rw [aG]
       (have Vk:Hid (eN ((bg aad n).take (j+1))=eN ((bg aad n).take j)++[y]):=by unfold Hid;rw [oy.out,if_pos h0]);(have d0:decide (0<=y)=true:=by simp [h0]);generalize hm:(eN ((bg aad n).take j)).length=m at *;go_wp2_with (at_builtin;refine DN wi rfl _ _ 26 rfl wo.heap.size 3 _ 8 Tryz.underlying26 Tryz.kE rfl (by decide) hA.out rfl _ rfl rfl m gI.out (by omega) hsz ?_;intro g cap w8 hown1 hg1 o7)
       (have HO2:Hid (ax wo.heap.size 3 w8 (.slice (some ⟨g,0,none⟩) (m+1) cap) ((eN ((bg aad n).take (j+1))).map (Value.int .i64))):=by unfold Hid;rw [Vk.out,cg];exact hown1);have qQ:Hid (Up wo w8):=iH dY.out o7;clear hown1 hg1 o7
       go_roundw
       case rel=>exact ⟨j+1,Di.out,by go_num,HO2,qQ⟩
       case measure=>have:=Di.out;simp [intOf];omega
      ·have d0:decide (0<=y)=false:=by simp;omega
       (have Vk:Hid (eN ((bg aad n).take (j+1))=eN ((bg aad n).take j)):=by unfold Hid;rw [oy.out,if_neg h0,gN]);clear h0;go_wp2_with fail
       go_roundw
       case rel=>exact ⟨j+1,Di.out,by go_num,by rw [Vk.out];exact hA,dY⟩
       case measure=>have:=Di.out;simp [intOf];omega
     ·obtain rfl:j=aad.length:=by omega
      (have htk:(bg aad n).take aad.length=bg aad n:=by rw [<- gC aad n,gh]);rw [htk] at hA;obtain ⟨kp,kc,rfl,_⟩:=hA.out.form (n:=(eN (bg aad n)).length) (by rw [aG]);(have gz:(eN (bg aad n)).length<=aad.length:=by rw [<- gC aad n];exact pG _ _);have kK:Hid ((eN (bg aad n)).length<=32):=aJ gz HA.out.2.1;have pW:=aa (sort_t wo wi _ (eN (bg aad n)) dY.out hA.out (by have:=kK.out;omega))
      have K6:Hid (lH aad n=if (dd (eN (bg aad n))).length=0 then 0 else ((dd (eN (bg aad n))).length:Int) - 1):=rfl;rw [<- RG] at K6;clear htk hA dY gz hj;go_wp2_with fail;refine pW.out.mono ?_;rintro e w7 ⟨rfl,qa,ho7⟩;have wU:=aa (compact_t wo w7 _ (jC (eN (bg aad n))) qa ho7 (by rw [qZ];have:=kK.out;omega));have qT:Hid ((Lib.compact (jC (eN (bg aad n)))).length<=32):=aJ (compact_le _) kK.out;clear qa ho7 pW;go_wp2_with fail;refine wU.out.mono ?_;rintro e w8 ⟨⟨p8,c8,rfl⟩,gK⟩
      have qQ:=aa (oV.out.trans gK);have ry:=aa (lK.out n);rw [GN.out,K6.out] at ry;have xe:=Fe.out;have qV:=qT.out;clear gK wU K6 qT;generalize lH aad n=bk at *;generalize (Lib.compact (jC (eN (bg aad n)))).length=D at *;(have i6:fn<=409600000/\0<=fn:=by constructor<;>omega);obtain ⟨i7,i8⟩:=i6;clear xe;go_wp2_with fail
      go_roundw
      case rel=>exact ⟨n+1,bu.out,by go_num,by rw [ry.out];congr 1;omega,qQ.out⟩
      case measure=>have:=bu.out;simp [intOf];omega
   ·obtain rfl:n=(gl aad 0).length:=by omega
    have tC:=aa (kA.out wo (cA.out.trans hU.out));rw [vW.out] at tC;clear hlt;go_wp2_with fail;go_ret2;exact tC.out
 ·have kA:Hid (JG w aad (.returned (.tuple #[.int .i64 0,.int .i64 1])) w1):=⟨by rw [HE.out,HR.out,if_neg c1,if_neg c1],cA.out⟩
  generalize fo aad=a at *;clear hq EX;go_wp2_with fail;go_ret2;exact kA.out
end
end Go.Proofs.YthgabkgmkolobaaGreat
