/- contamination: choice, counter. optimaltree.entries: all binary trees with their texts, .. -/
import Derived.Test.YtfomhlbhcifgbaaGreatDoorQ39
import Derived.Test.YtfomhlbhcifgbaaGreatDoorQ40
set_option maxRecDepth 100000
set_option maxHeartbeats 2000000
namespace Go.Proofs.YtfomhlbhcifgbaaGreatDoor
section
open Go.RowKit Go.Deep
def qi (P:List (List Int)) (k:Nat):List Int:=((List.range k).filter fun i=>decide (0<(gl P i).length)).map fun i:Nat=>(i:Int)
def lZ (P:List (List Int)):List Int:=qi P P.length
theorem IE (P:List (List Int)) (k:Nat):qi P (k+1)=if 0<(gl P k).length then qi P k++[(k:Int)] else qi P k:=by
 unfold qi;rw [sL,o8,cm];by_cases h:0<(gl P k).length
 ·rw [if_pos h];simp [h]
 ·rw [if_neg h];simp [h]
theorem Dh (P:List (List Int)) (k:Nat):(qi P k).length<=k:=by
 unfold qi;rw [aD];exact aV (mP _ _) (by simp)
theorem UY {P:List (List Int)} {k:Nat} {x:Int} (h:x∈qi P k):∃i:Nat,x=(i:Int)/\i<k/\0<(gl P i).length:=by
 unfold qi at h;obtain ⟨i,hi,rfl⟩:=ek.1 h;obtain ⟨h1,h2⟩:=nO.1 hi;exact ⟨i,rfl,bX.1 h1,of_decide_eq_true h2⟩
def jJ (P:List (List Int)) (all:List Int) (l:List Int):Int:=(l.map fun i=>j8 P all i.toNat).sum
theorem EF (P:List (List Int)) (all l:List Int) (x:Int):jJ P all (l++[x])=jJ P all l+j8 P all x.toNat:=by
 unfold jJ;simp
theorem IG (P:List (List Int)) (all:List Int):∀k,jJ P all (qi P k)=aY (j8 P all) k
 | 0=>rfl
 | k+1=>by
  have ih:=IG P all k
  rw [IE]
  show _=aY (j8 P all) k+j8 P all k
  split
  ·rw [EF,ih,ei]
  ·rename_i h0
   have:j8 P all k=0:=by
    unfold j8
    rw [if_neg]
    rintro ⟨h1,_⟩
    exact h0 (yQ.2 h1)
   rw [ih,this,Int.add_zero]
theorem II (P:List (List Int)) (all:List Int):jJ P all (lZ P)=dx P all:=IG P all _
theorem Di (P:List (List Int)) (all:List Int):∀l:List Int,0<=jJ P all l/\jJ P all l<=l.length
 | []=>by simp [jJ]
 | x::l=>by
  have ih:=Di P all l
  have e:jJ P all (x::l)=j8 P all x.toNat+jJ P all l:=by simp [jJ]
  have h1:j8 P all x.toNat=0\/j8 P all x.toNat=1:=by unfold j8;split<;>simp
  rw [e,bB]
  omega
def wF (P:List (List Int)) (all:List Int) (i:Nat):Bool:=(List.range (gl P i).length).any fun j=>decide (gi all (gi (gl P i) j).toNat=gi all i)
theorem UZ {P:List (List Int)} {all:List Int} {i:Nat} (h:0<(gl P i).length):j8 P all i=if wF P all i then 0 else 1:=by
 unfold j8 wF;by_cases hh:∃p∈gl P i,gi all p.toNat=gi all i
 ·rw [if_neg (fun e=>by obtain ⟨p,hp,he⟩:=hh;exact e.2 p hp he),if_pos]
  obtain ⟨p,hp,he⟩:=hh;obtain ⟨j,hj,e⟩:=sG hp;refine cR.2 ⟨j,bX.2 hj,?_⟩;have:gi (gl P i) j=p:=by simp [gi,hj,e]
  rw [this];exact decide_eq_true he
 ·rw [if_pos ⟨yQ.1 h,fun p hp e=>hh ⟨p,hp,e⟩⟩,if_neg]
  rw [cR];rintro ⟨j,hj,e⟩;have hj:=bX.1 hj;exact hh ⟨gi (gl P i) j,by simp [gi,hj],of_decide_eq_true e⟩
theorem OS (S:Nat->Prop) (w:World) (ba bi:Nat) (va:Value) (all:List Int) (i p:Nat) (hI:af S w va all) (hca:w.cell? ⟨ba,0,none⟩=some va) (hci:w.cell? ⟨bi,0,none⟩=some (.int .i64 i)) (hi:i<all.length) (hp:p<all.length) (h7:all.length<=7) :
  Calls Tryz.prog 139 #[.int .i64 p,.pointer (some ⟨ba,0,none⟩),.pointer (some ⟨bi,0,none⟩)] w fun e w'=>e=.returned (.bool (decide (gi all p=gi all i)))/\∃q,w'=w.drewN q:=by
 obtain ⟨ip,ic,rfl,-,-⟩:=aB.open hI;have hI:af S w (.slice ip all.length ic) all:=hI;obtain ⟨b,o,rfl,h1⟩:=dh hI hi;have h2:=xL hI hp;have j1:(i:Int)<(all.length:Int):=by omega
 have j2:(p:Int)<(all.length:Int):=by omega
 have j3:(i:Int)<8:=by omega
 have j4:(p:Int)<8:=by omega
 have k1:(0:Int)<=(i:Int):=by omega
 have k2:(0:Int)<=(p:Int):=by omega
 clear hI;generalize gi all i=x at *;generalize gi all p=y at *;generalize all.length=n at *;cases hxy:decide (y=x)
 ·have d1:(y==x)=false:=by simpa using hxy
  clear hxy;go_in;go_wp2;go_quiet (fail)
  go_wp2;go_ret;exact ⟨rfl,_,rfl⟩
 ·have d1:(y==x)=true:=by simpa using hxy
  clear hxy;go_in;go_wp2;go_quiet (fail)
  go_wp2;go_ret;exact ⟨rfl,_,rfl⟩
theorem OT (S:Nat->Prop) (w:World) (ba bi:Nat) (va:Value) (all:List Int) (i p:Nat) (hI:af S w va all) (hca:w.cell? ⟨ba,0,none⟩=some va) (hci:w.cell? ⟨bi,0,none⟩=some (.int .i64 i)) (hi:i<all.length) (hp:p<all.length) (h7:all.length<=7) :
  VR 139 #[.pointer (some ⟨ba,0,none⟩),.pointer (some ⟨bi,0,none⟩)] #[.int .i64 p] (.bool (decide (gi all p=gi all i))) w:=fun m=>by
 have hd:=Up.drewN w m
 refine (OS S (w.drewN m) ba bi va all i p (af.keep hI (hd.kept S)) (hd.cell hca) (hd.cell hci) hi hp h7).mono ?_
 rintro e w' ⟨rfl,q,rfl⟩
 exact ⟨rfl,_,World.drewN_drewN _ _ _⟩
theorem RZ (S T:Nat->Prop) (w:World) (v va:Value) (s:kI) (all:List Int) (i:Nat) (h:aP S w v s) (hs:fD s.ns s.P) (hI:af T w va all) (ha:all.length=s.ns.length) (hi:i<s.ns.length) :
  Calls Tryz.prog 107 #[v,va,.int .i64 i] w fun e w'=>Up w w'/\∃c:Int,e=.returned (.int .i64 c)/\decide (c<0)=!wF s.P all i:=by
 obtain ⟨np,nc,bp,bc,pp,pc,rfl,hN,hB,hP⟩:=aP.open h;obtain ⟨ip,ic,rfl,-,-⟩:=aB.open hI;have hI:af T w (.slice ip all.length ic) all:=hI;have hl:=hs.len;have DV:s.ns.length<=7:=hs.le;obtain ⟨w3,hw3⟩:∃w3,w3=((w.alloc (.cells #[.slice np s.ns.length nc,.slice bp s.bs.length bc,.slice pp s.P.length pc] 36)).alloc (.cells #[.slice ip all.length ic] 27)).alloc (.cells #[.int .i64 i] 3):=⟨_,rfl⟩;obtain ⟨sb,eG⟩:∃sb,sb=w.heap.size:=⟨_,rfl⟩;have ct:Up w w3:=by rw [hw3];exact ((Up.alloc _ _).trans (Up.alloc _ _)).trans (Up.alloc _ _)
 have hx:w3.heap[sb]? = some (Obj.cells #[.slice np s.ns.length nc,.slice bp s.bs.length bc,.slice pp s.P.length pc] 36 (0,0)):=by rw [hw3,eG];exact (aO ((Up.alloc (w.alloc _) _).trans (Up.alloc _ _)) _ (by simp)).trans (fQ w _ _ _ _)
 have ca:w3.cell? ⟨sb+1,0,none⟩=some (.slice ip all.length ic):=by have h1:=(Up.alloc ((w.alloc (.cells #[.slice np s.ns.length nc,.slice bp s.bs.length bc,.slice pp s.P.length pc] 36)).alloc (.cells #[.slice ip all.length ic] 27)) (.cells #[.int .i64 i] 3)).cell (mE (w.alloc (.cells #[.slice np s.ns.length nc,.slice bp s.bs.length bc,.slice pp s.P.length pc] 36)) (.slice ip all.length ic) 27);rw [aN] at h1;rw [hw3,eG];exact h1
 have ci:w3.cell? ⟨sb+1+1,0,none⟩=some (.int .i64 i):=by have h1:=mE ((w.alloc (.cells #[.slice np s.ns.length nc,.slice bp s.bs.length bc,.slice pp s.P.length pc] 36)).alloc (.cells #[.slice ip all.length ic] 27)) (.int .i64 i) 3;rw [aN,aN] at h1;rw [hw3,eG];exact h1
 obtain ⟨x0,x1,x2,-,-,-⟩:=aQ hx;obtain ⟨pb,po,q,qc,rfl,jw,hq⟩:=dV (aS.keep hP (ct.kept S)) (k:=i) (by rw [hl];exact hi);have hrl:=nZ hs.row (i:=i) (by rw [hl];exact hi);have hro:=(hs.row i (by rw [hl];exact hi)).1
 have hIX:=MH 139 #[.pointer (some ⟨sb+1,0,none⟩),.pointer (some ⟨sb+1+1,0,none⟩)] (enters_of Tryz.func139 (by kernel_rfl) rfl) S w3 _ (gl s.P i).length _ (fun j=>decide (gi all (gi (gl s.P i) j).toNat=gi all i)) hq (by omega) (fun j hj=>by
  have hm:=hro (gi (gl s.P i) j) (by simp [gi,hj]);have e:gi (gl s.P i) j=((gi (gl s.P i) j).toNat:Int):=by omega
  have h2:=OT T w3 (sb+1) (sb+1+1) _ all i (gi (gl s.P i) j).toNat (af.keep hI (ct.kept T)) ca ci (by omega) (by omega) (by omega)
  rwa [<- e] at h2)
 have rH:=aa hIX;have BI:Hid (wF s.P all i=(List.range (gl s.P i).length).any fun j=>decide (gi all (gi (gl s.P i) j).toNat=gi all i)):=rfl;have DF:Hid (∀j,j<(gl s.P i).length->0<=gi (gl s.P i) j):=fun j hj=>(hro _ (by simp [gi,hj])).1;have ny:=aa (gO (fun j=>decide (gi all (gi (gl s.P i) j).toNat=gi all i)) (gl s.P i).length);have jA:=aa ct;have HQ:=aa hq;have j1:(i:Int)<(s.P.length:Int):=by omega
 have j2:(i:Int)<8:=by omega
 have j3:(0:Int)<=(i:Int):=by omega
 have Et:=aa (vA (fun j=>decide (gi all (gi (gl s.P i) j).toNat=gi all i)) (gl s.P i).length);rw [hw3] at ci x0 x1 x2 jw;clear h hN hB hP hI ha hl hs hrl hro hq hIX ct hx ca;generalize s.ns.length=n at *;generalize s.bs.length=nb at *;generalize s.P.length=ji at *;generalize all.length=al at *;generalize (fun j=>decide (gi all (gi (gl s.P i) j).toNat=gi all i))=P at *;go_in;go_wp2_with fail;rw [<- hw3] at ci x0 x1 x2 jw ⊢;rw [<- eG];clear hw3;refine rH.out.mono ?_;rintro e w4 ⟨rfl,m,rfl⟩
 have c2:(w3.drewN m).cell? ⟨sb,2,none⟩=some (.slice (some ⟨pb,po,none⟩) ji pc):=x2;have cc:(w3.drewN m).cell? ⟨pb,po+i,none⟩=some (.slice q (gl s.P i).length qc):=jw;have ci':(w3.drewN m).cell? ⟨sb+1+1,0,none⟩=some (.int .i64 i):=ci;have gF:=aa (jA.out.trans (Up.drewN w3 m));have HQ4:=aa (af.keep HQ.out ((Up.drewN w3 m).kept S));obtain ⟨fl1,fl2,fl3⟩:=Et.out;clear rH jA HQ x0 x1 x2 ci jw Et eG;generalize w3.drewN m=w4 at *;generalize bZ P (gl s.P i).length=k at *;by_cases hk:k<0
 ·have d1:decide (k<0)=true:=by simp [hk]
  have YL:Hid (wF s.P all i=false):=by unfold Hid;rw [BI.out,<- ny.out];exact decide_eq_false (by omega)
  clear fl1 fl2 fl3;go_wp2;go_ret;exact ⟨gF.out,-1,rfl,by rw [YL.out];rfl⟩
 ·obtain ⟨kn,rfl⟩:∃kn:Nat,k=kn:=⟨k.toNat,by omega⟩
  have hkn:kn<(gl s.P i).length:=by omega
  obtain ⟨rb,ro,rfl,OI⟩:=dh HQ4.out hkn;have YL:Hid (wF s.P all i=true):=by unfold Hid;rw [BI.out,<- ny.out];exact decide_eq_true (by omega)
  have kF:Hid (0<=gi (gl s.P i) kn):=DF.out kn hkn;have m1:(kn:Int)<((gl s.P i).length:Int):=by omega
  have m2:(0:Int)<=(kn:Int):=by omega
  clear fl1 fl2 fl3 hk;generalize (gl s.P i).length=rl at *;generalize gi (gl s.P i) kn=x at *;go_wp2;go_ret;exact ⟨gF.out,x,rfl,by rw [YL.out];exact decide_eq_false (by have:=kF.out;omega)⟩
def Dj (S:Nat->Prop) (W:World) (bc bs:Nat) (s:kI):Prop :=
 (∃v,W.cell? ⟨bc,0,none⟩=some v/\af S W v (lZ s.P))/\∃a b c,W.heap[bs]? = some (Obj.cells #[a,b,c] 36 (0,0))/\aP S W (.agg #[a,b,c]) s
theorem Dj.up {S:Nat->Prop} {W W':World} {bc bs:Nat} {s:kI} (h:Dj S W bc bs s) (hu:Up W W'):Dj S W' bc bs s:=by
 obtain ⟨⟨v,h1,h2⟩,a,b,c,h3,h4⟩:=h;exact ⟨⟨v,hu.cell h1,af.keep h2 (hu.kept S)⟩,a,b,c,(aO hu _ (bq.1 h3).1).trans h3,h4.keep (hu.kept S)⟩
theorem LY (S T:Nat->Prop) (w:World) (va:Value) (bc bs:Nat) (s:kI) (all:List Int) (h:Dj S w bc bs s) (hs:fD s.ns s.P) (hI:af T w va all) (ha:all.length=s.ns.length) :
  Calls Tryz.prog 106 #[va,.pointer (some ⟨bc,0,none⟩),.pointer (some ⟨bs,0,none⟩)] w fun e w'=>e=.returned (.int .i64 (dx s.P all))/\Up w w':=by
 obtain ⟨⟨v,c1,c2⟩,a,b,c,c3,c4⟩:=h;obtain ⟨np,nc,bp,bc',pp,pc,e0,hN,hB,hP⟩:=aP.open c4;injection e0 with e0;injection e0 with e0;injection e0 with e1 e2;injection e2 with e2 e3;injection e3 with e3 _;subst e1;subst e2;subst e3;obtain ⟨cq,cc,rfl,-,-⟩:=aB.open c2;obtain ⟨ip,ic,rfl,-,-⟩:=aB.open hI;have hI:af T w (.slice ip all.length ic) all:=hI;have c2:af S w (.slice cq (lZ s.P).length cc) (lZ s.P):=c2;have hl:=hs.len
 have HCH:Hid (∀W,Up w W->∀i:Nat,i<s.ns.length->Calls Tryz.prog 107 #[.agg #[.slice np s.ns.length nc,.slice bp s.bs.length bc',.slice pp s.P.length pc],.slice ip all.length ic,.int .i64 i] W fun e w'=>Up W w'/\∃c:Int,e=.returned (.int .i64 c)/\decide (c<0)=!wF s.P all i):=fun W hW i hi=>RZ S T W _ _ s all i (c4.keep (hW.kept S)) hs (af.keep hI (hW.kept T)) ha hi;have oo:=aa c1;have yH:=aa c2;have S5:=aa c3;have GU:=aa (II s.P all);have b6:Hid ((lZ s.P).length<=7):=aV (Dh _ _) (by rw [hl];exact hs.le)
 have Ai:Hid (∀j,j<(lZ s.P).length->∃i:Nat,gi (lZ s.P) j=(i:Int)/\i<s.ns.length/\0<(gl s.P i).length):=fun j hj=>by obtain ⟨i,h1,h2,h3⟩:=UY (P:=s.P) (k:=s.P.length) (x:=gi (lZ s.P) j) (by show _∈lZ s.P;simp [gi,hj]);exact ⟨i,h1,by omega,h3⟩
 clear c2 c3 c4 hN hB hP hI ha hl hs;generalize hL:lZ s.P=L at *;have HL:=aa hL;clear hL;go_in;go_wp2_with fail;clear c1
 go_loopw [5,7,10] (fun o _ i wr=>∃j:Nat,j<=L.length/\i=.int .i64 j/\Hid (o=.int .i64 (jJ s.P all (L.take j)))/\Hid (Up w wr)) (fun _ _ i _=>L.length - (intOf i).toNat)
 case atStart=>exact ⟨0,bg _,rfl,rfl,Up.refl _⟩
 case round =>
  obtain ⟨j,hj,rfl,ho,hU⟩:=hrel;obtain rfl:=ho.out;clear ho;obtain ⟨wo,rfl⟩:=e9 wr;have hbd:=Di s.P all (L.take j);have Bk:=b6.out;rw [iy] at hbd;by_cases hlt:j<L.length
  ·obtain ⟨cb,co,rfl,hcc⟩:=dh (af.keep yH.out (hU.out.kept S)) hlt
   obtain ⟨i,hi1,hi2,DK⟩:=Ai.out j hlt;have hx:=(aO hU.out _ (bq.1 S5.out).1).trans S5.out;obtain ⟨x0,x1,x2,-,-,-⟩:=aQ hx;have FL:=aa (HCH.out wo hU.out i hi2);(have qa:Hid (jJ s.P all (L.take (j+1))=jJ s.P all (L.take j)+if wF s.P all i then 0 else 1):=by unfold Hid;rw [iL hlt,EF];(have e:L[j]=(i:Int):=by rw [<- hi1];simp [gi,hlt]);rw [e,ei,UZ DK]);rw [hi1] at hcc;have bf:=aa hlt;(have j1:(j:Int)<(L.length:Int):=by omega);have j2:(j:Int)<8:=by omega
   have hb1:0<=jJ s.P all (L.take j):=hbd.1;(have hb2:jJ s.P all (L.take j)<=8:=by omega);clear hx DK hi1 hlt hbd;generalize jJ s.P all (L.take j)=cs at *;generalize wF s.P all i=hb at *;generalize s.ns.length=n at *;generalize s.bs.length=nb at *;generalize s.P.length=ji at *;go_wp2_with fail;refine FL.out.mono ?_;rintro e w3 ⟨ct,cv,rfl,hcv⟩;have jA:=aa (hU.out.trans ct);clear ct FL;cases hb
   ·have sr:Hid (jJ s.P all (L.take (j+1))=cs+1):=by unfold Hid;rw [qa.out];simp
    have hcv:decide (cv<0)=true:=hcv;go_wp2
    go_roundw
    case rel=>exact ⟨j+1,bf.out,by go_num,by rw [sr.out];go_num,jA.out⟩
    case measure=>have:=bf.out;simp [intOf];omega
   ·have sr:Hid (jJ s.P all (L.take (j+1))=cs):=by unfold Hid;rw [qa.out];simp
    have hcv:decide (cv<0)=false:=hcv;go_wp2
    go_roundw
    case rel=>exact ⟨j+1,bf.out,by go_num,by rw [sr.out];(first | exact rfl | exact True.intro),jA.out⟩
    case measure=>have:=bf.out;simp [intOf];omega
  ·obtain rfl:j=L.length:=by omega
   (have tJ:Hid (jJ s.P all (L.take L.length)=dx s.P all):=by unfold Hid;rw [gq];exact GU.out);rw [tJ.out];clear hbd;go_wp2;go_ret;exact ⟨rfl,hU.out⟩
theorem Dk {s:ByteArray} (h:bD s.data.toList=true):s.size<=20:=by
 have hl:s.data.toList.length=s.size:=size_data s;unfold bD fA at h;split at h
 ·simp only [fN,decide_eq_true_eq] at h;omega
 ·simp only [fN,decide_eq_true_eq] at h;omega
theorem OU {S:Nat->Prop} {w:World} {b o n cap:Nat} {xs:List ByteArray} (h:aC S w (.slice (some ⟨b,o,none⟩) n cap) xs) (hn:2<=xs.length):aC S w (.slice (some ⟨b,o+1,none⟩) (xs.length - 1) (cap - 1)) xs.tail:=by
 obtain ⟨p,c,e,hc,h⟩:=h;injection e with e1 e2 e3;subst e1;subst e3;refine ⟨_,_,by rw [vt],by rw [vt];omega,?_⟩;rcases h with h | ⟨b',o',e4,hS,h⟩
 ·omega
 ·injection e4 with e4
  injection e4 with e5 e6;subst e5;subst e6;refine .inr ⟨b,o+1,rfl,hS,fun k hk=>?_⟩;rw [vt] at hk;have:=h (k+1) (by omega);rw [show o+1+k=o+(k+1) by omega,this];show some (Value.string (gs xs (k+1)))=some (Value.string (gs xs.tail k));have:gs xs.tail k=gs xs (k+1):=by
   unfold gs;cases xs with
   | nil=>simp at hn
   | cons a l=>rfl
  rw [this]
def xe (acF:List ByteArray) (s:ByteArray):ByteArray:=⟨#[40]⟩++gs acF 0++⟨#[44]⟩++s++⟨#[41,59]⟩
structure EnF (acF:List ByteArray) (r:BT ByteArray):Prop where
 YM:nH (xe acF (oF r)).data.toList=some (iW (uB acF r))
 psz:(xe acF (oF r)).size<=1000
 te:aF (flat (iW (uB acF r)))=0
 can:r7 (flat (iW (uB acF r)))=flat (uR acF r)
 te2:aF (flat (uR acF r))=0
 tx:Ep (flat (uR acF r))=dc (uR acF r)
 len:aX (iW (uB acF r))<=9/\aX (uR acF r)<=9
 sz:∀k,(gs (flat (iW (uB acF r))).ns k).size<=70000
 sz2:∀k,(gs (flat (uR acF r)).ns k).size<=70000
theorem pM {r:RT} (h:lX r) (k:Nat):(gs (flat r).ns k).size<=70000:=by
 refine q9 (M:=70000) (fun x hx=>?_) k;have hx:x∈dH r:=hx;rw [o5] at hx;obtain ⟨s,hs,rfl⟩:=ek.1 hx;by_cases e:s.kids=[]
 ·exact aV (Dk (h.lf s hs e)) (by decide)
 ·rw [h.Kb s hs e];exact bg _
theorem enF {acF:List ByteArray} (h:iE acF) {r:BT ByteArray} (hr:r∈mh acF.tail):EnF acF r:=by
 have hp:r.gN.Perm acF.tail:=xu _ _ _ hr;have ho:=Tt h hp;have hg:=ho.Tr.good;have hhi:=h.hi;have hlo:=h.lo;have hl:=(uQ h hp).length_eq;have hs:=y9 (uB acF r);have hz:∀x∈acF,x.size<=20:=fun x hx=>Dk (h.nm x hx);have ht:=yx hg (by omega);have zL:r∈rt acF.length acF.tail:=by have:rt acF.length acF.tail=mh acF.tail:=q8 _ _ _ (by simp) (aj _);rw [this];exact hr
 obtain ⟨_,_,q3,_,q5,_⟩:=iX h (Hy.2 ⟨r,zL,rfl⟩);refine ⟨?_,?_,ht,by rw [Ec ht,vT];rfl,q5,by rw [XW q5,vT];rfl,by omega,pM hg,pM (r:=uR acF r) hg.sort⟩
 ·have e:(xe acF (oF r)).data.toList=dO (iW (uB acF r))++[59]:=by
   unfold xe oF uB
   rw [Ts,iW,AO]
   simp
  rw [e];exact Hu hg.nR
 ·have h1:=wu r fun x hx=>hz x (List.mem_of_mem_tail (hp.mem_iff.1 hx))
  have h2:=hp.length_eq;have h3:=q9 hz 0;rw [vt] at h2;unfold xe;simp only [ByteArray.size_append];show 1+(gs acF 0).size+1+(oF r).size+2<=1000;omega
def OV (w:World) (acF:List ByteArray) (e:Ending) (w':World):Prop:=Up w w'/\∃v,e=.returned (.tuple #[v,.int .i64 0])/\uW w' v (dN acF)
theorem EG {base n size:Nat} {e:TypeId} {w w':World} {v:Value} {vs:List Value} (h:w.ownsRow base e size v n vs) (k:∀b,v.ownBlock=some b->w'.heap[b]? = w.heap[b]?):w'.ownsRow base e size v n vs:=by
 refine ⟨h.1,?_⟩;rcases h.2 with h2 | ⟨g,cap,cur,hv,hg,hc,h3⟩
 ·exact .inl h2
 ·exact .inr ⟨g,cap,cur,hv,hg,(k g (by rw [hv];rfl)).trans hc,h3⟩
theorem iY.up {base:Nat} {w w':World} {v:Value} {es:List mM} (h:iY base w v es) (hu:Up w w'):iY base w' v es :=
 ⟨EG h.1 fun b hb=>aO hu b (mq h.1 b hb).2,fun x hx=>(h.2 x hx).keep (hu.kept _)⟩
def gB (R:List (BT ByteArray)) (n:Nat):BT ByteArray:=R.getD n (.leaf ByteArray.empty)
theorem YN {L:List ByteArray} {n:Nat} (h:n<(mh L).length):gs (bK L) n=oF (gB (mh L) n)/\gB (mh L) n∈mh L:=by
 unfold gs gB bK;constructor
 ·simp [h]
 ·simp [h]
def kR:List Int->List Int:=List.foldl (fun s x=>if x∈s then s else s++[x]) []
theorem wG (l:List Int) (x:Int):kR (l++[x])=if x∈kR l then kR l else kR l++[x]:=by
 unfold kR;rw [List.foldl_append];rfl
theorem Ci (P:List Int->Prop) (h0:P []) (h1:∀l y,P l->P (l++[y])) (l:List Int):P l:=by
 have h:∀l:List Int,P l.reverse:=fun l=>by
  induction l with
  | nil=>exact h0
  | cons y l ih=>rw [List.reverse_cons];exact h1 _ _ ih
 have:=h l.reverse
 rwa [List.reverse_reverse] at this
theorem EH {l:List Int} {x:Int}:x∈kR l↔x∈l:=by
 revert x
 refine Ci (fun l=>∀ {x:Int},x∈kR l↔x∈l) (by simp [kR]) (fun l y ih=>?_) l
 ·intro x
  rw [wG,eD,eN]
  split
  ·rename_i h
   rw [ih]
   exact ⟨.inl,fun h2=>h2.elim id fun e=>by subst e;exact ih.1 h⟩
  ·rw [eD,eN,ih]
theorem EI (l:List Int):(kR l).length=(dd l).length:=by
 refine Ci (fun l=>(kR l).length=(dd l).length) rfl (fun l y ih=>?_) l
 ·show (kR (l++[y])).length=(dd (l++[y])).length
  rw [wG,UM];by_cases h:y∈l
  ·rw [if_pos (EH.2 h),if_pos h,ih];rfl
  ·rw [if_neg fun e=>h (EH.1 e),if_neg h,bG,ih];rfl
theorem R1 (l:List Int):(kR l).length<=l.length:=by
 rw [EI];exact (rA l).length_le_of_subset fun x hx=>nT.1 hx
theorem U0 {acF:List ByteArray} (h5:acF.length<=5\/7<acF.length) (h0:js acF=0):acF.length<=5:=by
 rcases h5 with h5 | h5
 ·exact h5
 ·unfold js at h0;rw [if_pos (.inr h5)] at h0;cases h0
theorem Cj {acF:List ByteArray} {acG:List (List Int)} (h5:acF.length<=5\/7<acF.length) (h0:fG acF acG=0):lG acF acG:=by
 have h1:js acF=0:=by
  unfold fG at h0;split at h0
  ·rename_i h;exact absurd h0 h
  ·rename_i h;omega
 exact (Ru (U0 h5 h1)).1 h0
end
section
theorem OW:∀i,i<7->bD (⟨(120::Lib.decDigits i).toArray⟩:ByteArray).data.toList=true:=by decide +kernel
theorem R2 {t:aA} {acF:List ByteArray} (hn:iE acF) (ho:qy t acF) (h7:t.ps.length<=7) (hd:qm t=false):fD (bI t) (aH t):=by
 obtain ⟨j9,_,hnl,hok,_⟩:=aG ho.te;refine ⟨by rw [di];omega,by rw [di];exact h7,by rw [cG,di],fun i hi=>?_,fun i j hij hj=>?_,yK ho.te⟩
 ·rw [di] at hi
  rw [uA hi];unfold mF;split
  ·exact OW i (by omega)
  ·rename_i h0
   obtain ⟨b,hb,e,_⟩:=B5 ho hi h0;rw [<- e];exact hn.nm _ (by simp [gs,hb])
 ·rw [di] at hj
  rw [uA (by omega),uA hj];intro e;have h1:=yP.1 hd j (bX.2 hj);have h2:∀x,x<j->¬mF t x=mF t j:=by simpa using h1
  exact h2 i hij e
end
end Go.Proofs.YtfomhlbhcifgbaaGreatDoor
