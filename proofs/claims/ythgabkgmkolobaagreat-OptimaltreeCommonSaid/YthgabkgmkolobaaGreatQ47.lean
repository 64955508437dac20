/- The contracts of parsimony.Table, Assign. optimaltree: Count, leaf, checkNames, check. .. -/
import Derived.Test.YthgabkgmkolobaaGreatQ41
import Derived.Test.YthgabkgmkolobaaGreatQ40
import Derived.Test.YthgabkgmkolobaaGreatQ28
set_option maxRecDepth 100000
set_option maxHeartbeats 4000000
namespace Go.Proofs.YthgabkgmkolobaaGreat
section
open Go.RowKit Go.Deep
theorem rows_nil (S:Nat->Prop) (w:World):aR S w (.slice none 0 0) []:=⟨fun _=>undef,⟨none,0,rfl,af _,.inl rfl⟩,fun _ hk=>absurd hk (bG _)⟩
def yy:Nat->Int
 | 0=>1
 | m+1=>yy m*(2*(m:Int)+3)
def cntE (n:Int):Int:=if n<2\/7<n then 2 else 0
def cntR (n:Int):Int:=if n<2\/7<n then 0 else yy (n - 3).toNat
theorem count34_t (n:Int) (hn:-9223372036854775808<=n/\n<=9223372036854775807) (w:World):Calls Tryz.prog 28 #[.int .i64 n] w fun e w'=>e=.returned (.tuple #[.int .i64 (cntR n),.int .i64 (cntE n)])/\w=w':=by
 have HC:Hid (cntE n=if n<2\/7<n then 2 else 0):=rfl;have HR:Hid (cntR n=if n<2\/7<n then 0 else yy (n - 3).toNat):=rfl;by_cases h1:n<2
 ·go_enter Tryz.func28,Tryz.ntmps28
  go_wp2_with fail;go_ret2;rw [HC.out,HR.out,if_pos (.inl h1),if_pos (.inl h1)];exact ⟨rfl,rfl⟩
 by_cases h2:7<n
 ·go_enter Tryz.func28,Tryz.ntmps28
  go_wp2_with fail;go_ret2;rw [HC.out,HR.out,if_pos (.inr h2),if_pos (.inr h2)];exact ⟨rfl,rfl⟩
 obtain ⟨k,rfl⟩:∃k:Nat,n=k:=⟨n.toNat,by omega⟩;have HF:Hid (cntE (k:Int)=0/\cntR (k:Int)=yy (k - 3)):=by unfold Hid;rw [HC.out,HR.out,if_neg (by omega),if_neg (by omega),show ((k:Int) - 3).toNat=k - 3 by omega];exact ⟨rfl,rfl⟩
 clear HC HR hn;have hk:k=2\/k=3\/k=4\/k=5\/k=6\/k=7:=by omega
 have e0:=HF.out.1;have e1:=HF.out.2;rw [e0,e1];clear HF e0 e1
 go_enter Tryz.func28,Tryz.ntmps28
 go_wp2_with fail
 go_loop [4,5] (fun o i=>∃m:Nat,m<=k - 3/\i=.int .i64 (2*(m:Int)+3)/\o=.int .i64 (yy m)) (fun _ i=>20 - (intOf i).toNat)
 case atStart=>exact ⟨0,aL _,rfl,rfl⟩
 case round =>
  obtain ⟨m,hm,rfl,rfl⟩:=hrel;have hm4:m<=4:=by omega
  by_cases hlt:m<k - 3
  ·have hb:yy (m+1)=yy m*(2*(m:Int)+3)/\1<=yy m/\yy m<=105/\1<=yy (m+1)/\yy (m+1)<=945:=by
    have:m=0\/m=1\/m=2\/m=3:=by omega
    rcases this with rfl | rfl | rfl | rfl<;>refine ⟨rfl,by decide,by decide,by decide,by decide⟩
   obtain ⟨b0,b1,b2,b3,b4⟩:=hb
   have hc:2*(m:Int)+3<=2*(k:Int) - 5:=by omega
   generalize hcm:yy (m+1)=c' at *
   generalize yy m=c at *
   go_wp2_with fail
   go_round
   case rel=>exact ⟨m+1,hlt,by go_num,by rw [hcm,b0]⟩
   case measure=>simp [intOf];omega
  ·obtain rfl:m=k - 3:=by omega
   (have hc:¬2*((k - 3:Nat):Int)+3<=2*(k:Int) - 5:=by omega);go_wp2_with fail;go_ret2;exact ⟨rfl,rfl⟩
end
section
def Fj:List (List Int):=[[0],[0],[1],[1]]
def WZ:List (List Int):=[[0,2],[0,-1],[1,3]]
theorem W4:gL jK Fj=0:=by decide +kernel
theorem aw_s:bz p9 jK Fj=1/\bz uy jK Fj=2/\bz sw jK Fj=2:=by decide +kernel
theorem W5:cB jK Fj=1:=by
 obtain ⟨h1,h2,h3⟩:=aw_s;unfold cB;rw [E0];show sS (fun k=>bz (gt [uy,sw,p9] k) jK Fj) 3=1;have e0:bz (gt [uy,sw,p9] 0) jK Fj=2:=h2;have e1:bz (gt [uy,sw,p9] 1) jK Fj=2:=h3;have e2:bz (gt [uy,sw,p9] 2) jK Fj=1:=h1;simp [sS,e0,e1,e2]
theorem aw_best:eE jK Fj=[p9]:=by
 obtain ⟨h1,h2,h3⟩:=aw_s;unfold eE;rw [E0,W5];simp [h1,h2,h3]
theorem Mw:fo WZ=0/\lI WZ=2:=by decide +kernel
end
section
open Go.RowKit Go.Deep
theorem trees_same {a b:List az} (hl:a.length=b.length):(a=b)↔∀k,k<a.length->gt a k=gt b k:=by
 constructor
 ·rintro rfl k _;rfl
 ·intro h
  refine wM hl fun i h1 h2=>?_;have:=h i h1;simpa [gt,h1,h2] using this
theorem SQ (S T:Nat->Prop) (w:World) (v u:Value) (a b:List az) (h:fQ S w v a) (h2:fQ T w u b) (hn:a.length<=1000000) (hz:∀k,(gt a k).ps.length<=1000000/\(gt a k).ns.length<=1000000) :
  Calls Tryz.prog 44 #[v,u] w fun e w'=>e=.returned (.bool (decide (a=b)))/\Up w w':=by
 obtain ⟨p,cap,rfl,hcap⟩:=iM h;obtain ⟨q,fS,rfl,JW⟩:=iM h2;have HX:=aa h;have HY:=aa h2;have HZ:=aa hz;clear h h2 hz;by_cases hl:a.length=b.length
 ·have HS:=aa (trees_same hl)
  have kI:((a.length:Int) != (b.length:Int))=false:=by simp [hl]
  have HL:=aa hl;clear hl
  go_enter Tryz.func44,Tryz.ntmps44
  go_wp2_with fail;clear kI
  go_loopw [4,5] (fun _ i wr=>∃k:Nat,k<=a.length/\i=.int .i64 k/\Hid (Up w wr/\∀j,j<k->gt a j=gt b j)) (fun _ i _=>a.length - (intOf i).toNat)
  case atStart=>exact ⟨0,aL _,rfl,Up.refl _,fun j hj=>absurd hj (bG _)⟩
  case round =>
   obtain ⟨k,hk,rfl,hI⟩:=hrel;obtain ⟨wo,rfl⟩:∃wo:World,wo=wr:=⟨_,rfl⟩;by_cases hlt:k<a.length
   ·obtain ⟨ab,ao,pp,pc,np,nc,rfl,c0,c1,hT⟩:=qd (HX.out.keep (hI.out.1.kept S)) hlt
    obtain ⟨bb,bo,z7,z8,Cx,Cy,rfl,d0,d1,V6⟩:=qd (HY.out.keep (hI.out.1.kept T)) (k:=k) (by rw [<- HL.out];exact hlt);have HST:=aa (AO S T wo _ _ _ _ hT V6 (HZ.out k).1 (HZ.out k).2);(have i1:(0:Int)<=(k:Int):=by omega);(have i2:(k:Int)<(a.length:Int):=by omega);(have i3:(k:Int)<(b.length:Int):=by have:=HL.out;omega);have Hf:Hid (gt a k≠gt b k->decide (a=b)=false):=fun hne=>decide_eq_false fun e=>hne (HS.out.1 e k hlt);have Rl:Hid (gt a k=gt b k->Up w wo/\∀j,j<k+1->gt a j=gt b j):=fun e=>⟨hI.out.1,fun j hj=>if e2:j=k then by subst e2;exact e else hI.out.2 j (by omega)⟩
    have oV:=aa hI.out.1;replace HST:Hid (Calls Tryz.prog 37 #[.agg #[.slice pp (gt a k).ps.length pc,.slice np (gt a k).ns.length nc],.agg #[.slice z7 (gt b k).ps.length z8,.slice Cx (gt b k).ns.length Cy]] wo.drew fun e w'=>e=.returned (.bool (decide (gt a k=gt b k)))/\Up wo w'):=(AO S T wo.drew _ _ _ _ (hT.keep ((Up.drewN wo 1).kept _)) (V6.keep ((Up.drewN wo 1).kept _)) (HZ.out k).1 (HZ.out k).2).mono fun e w' ⟨h1,h2⟩=>⟨h1,(Up.drewN wo 1).trans h2⟩;clear hT V6 hI;generalize gt a k=x at *;generalize gt b k=y at *;by_cases e:x=y
    ·have d9:decide (x=y)=true:=decide_eq_true e
     rw [d9] at HST;have HIK2:=aa (Rl.out e);clear e d9 Hf Rl;go_wp2_with fail;refine gQ (by kernel_rfl) 9 (fun w'=>w'.cell? ⟨ab,ao+k*2,none⟩=some (.slice pp x.ps.length pc)/\w'.cell? ⟨ab,ao+k*2+1,none⟩=some (.slice np x.ns.length nc)/\w'.cell? ⟨bb,bo+k*2,none⟩=some (.slice z7 y.ps.length z8)/\w'.cell? ⟨bb,bo+k*2+1,none⟩=some (.slice Cx y.ns.length Cy)) ⟨c0,c1,d0,d1⟩ (fun hS=>?_);simp only [eW,aT,dO,Nat.reduceAdd,ji,jk,eV,cH,cr];refine aj.tk 0 hS ?_
     (try simp only [Act.put,aA,aB,aC]);refine aj.tk 1 hS ?_;(try simp only [Act.put,aA,aB,aC]);refine aj.tk 2 hS ?_;(try simp only [Act.put,aA,aB,aC]);refine aj.tk 3 hS ?_;(try simp only [Act.put,aA,aB,aC]);refine aj.tk 4 hS ?_;(try simp only [Act.put,aA,aB,aC]);refine aj.tk 5 hS ?_
     (try simp only [Act.put,aA,aB,aC]);refine aj.tk 6 hS ?_;(try simp only [Act.put,aA,aB,aC]);refine aj.tk 7 hS ?_;(try simp only [Act.put,aA,aB,aC]);refine aj.step (i:=8) rfl (by kernel_rfl) (fun K' hK=>?_);go_simp;refine HST.out.mono ?_;rintro e w2 ⟨rfl,hu⟩;refine hK.out _ _ (aO (by kernel_rfl)) (fun hS=>?_);try simp only [aA,aB,aC]
     refine aj.step (i:=9) rfl (by kernel_rfl) (fun K' hK=>?_);go_simp;refine hK.out _ _ (aO (by kernel_rfl)) (fun hS=>?_);refine aj.done (by kernel_rfl) ?_;have ZE:Hid (Up w w2/\∀j,j<k+1->gt a j=gt b j):=⟨HIK2.out.1.trans hu,HIK2.out.2⟩;clear hu;go_wp2_with fail
     go_roundw
     case rel=>exact ⟨k+1,by omega,by go_num,ZE.out⟩
     case measure=>simp [intOf];omega
    ·have d9:decide (x=y)=false:=decide_eq_false e
     rw [d9] at HST;have HF:=aa (Hf.out e);clear e d9 Hf Rl;go_wp2_with fail;refine gQ (by kernel_rfl) 9 (fun w'=>w'.cell? ⟨ab,ao+k*2,none⟩=some (.slice pp x.ps.length pc)/\w'.cell? ⟨ab,ao+k*2+1,none⟩=some (.slice np x.ns.length nc)/\w'.cell? ⟨bb,bo+k*2,none⟩=some (.slice z7 y.ps.length z8)/\w'.cell? ⟨bb,bo+k*2+1,none⟩=some (.slice Cx y.ns.length Cy)) ⟨c0,c1,d0,d1⟩ (fun hS=>?_);simp only [eW,aT,dO,Nat.reduceAdd,ji,jk,eV,cH,cr];refine aj.tk 0 hS ?_
     (try simp only [Act.put,aA,aB,aC]);refine aj.tk 1 hS ?_;(try simp only [Act.put,aA,aB,aC]);refine aj.tk 2 hS ?_;(try simp only [Act.put,aA,aB,aC]);refine aj.tk 3 hS ?_;(try simp only [Act.put,aA,aB,aC]);refine aj.tk 4 hS ?_;(try simp only [Act.put,aA,aB,aC]);refine aj.tk 5 hS ?_
     (try simp only [Act.put,aA,aB,aC]);refine aj.tk 6 hS ?_;(try simp only [Act.put,aA,aB,aC]);refine aj.tk 7 hS ?_;(try simp only [Act.put,aA,aB,aC]);refine aj.step (i:=8) rfl (by kernel_rfl) (fun K' hK=>?_);go_simp;refine HST.out.mono ?_;rintro e w2 ⟨rfl,hu⟩;refine hK.out _ _ (aO (by kernel_rfl)) (fun hS=>?_);try simp only [aA,aB,aC]
     refine aj.step (i:=9) rfl (by kernel_rfl) (fun K' hK=>?_);go_simp;refine hK.out _ _ (aO (by kernel_rfl)) (fun hS=>?_);refine aj.done (by kernel_rfl) ?_;have bD:=aa (oV.out.trans hu);clear hu;go_wp2_with fail;go_ret;exact ⟨aV HF.out.symm,bD.out⟩
   ·obtain rfl:k=a.length:=by omega
    have HF:Hid (decide (a=b)=true):=decide_eq_true (HS.out.2 hI.out.2);go_wp2_with fail;go_ret;exact ⟨aV HF.out.symm,hI.out.1⟩
 ·have HF:Hid (decide (a=b)=false):=decide_eq_false fun e=>hl (by rw [e])
  have kI:((a.length:Int) != (b.length:Int))=true:=by simp;omega
  clear hl
  go_enter Tryz.func44,Tryz.ntmps44
  go_wp2_with fail;go_ret;exact ⟨aV HF.out.symm,Up.refl _⟩
theorem Kn (w:World) (x:Int) (xs:List Int) (h:xs=[x]):ah Any (w.alloc (.cells #[.int .i64 x] 3)) (.slice (some ⟨w.heap.size,0,none⟩) 1 1) xs:=ya w _ _ xs (by rw [h];rfl) 1 (by rw [h];rfl)
def Ko (w:World) (a b c d:Int):World:=(((w.alloc (.cells #[.int .i64 a] 3)).alloc (.cells #[.int .i64 b] 3)).alloc (.cells #[.int .i64 c] 3)).alloc (.cells #[.int .i64 d] 3)
theorem lit4_rows (w:World) (a b c d:Int):aR Any ((Ko w a b c d).alloc (.cells #[.slice (some ⟨w.heap.size,0,none⟩) 1 1,.slice (some ⟨w.heap.size+1,0,none⟩) 1 1,.slice (some ⟨w.heap.size+1+1,0,none⟩) 1 1,.slice (some ⟨w.heap.size+1+1+1,0,none⟩) 1 1] 26)) (.slice (some ⟨w.heap.size+1+1+1+1,0,none⟩) 4 4) [[a],[b],[c],[d]]/\Up w ((Ko w a b c d).alloc (.cells #[.slice (some ⟨w.heap.size,0,none⟩) 1 1,.slice (some ⟨w.heap.size+1,0,none⟩) 1 1,.slice (some ⟨w.heap.size+1+1,0,none⟩) 1 1,.slice (some ⟨w.heap.size+1+1+1,0,none⟩) 1 1] 26)):=by
 have s0:=Kn w a [a] rfl;have s1:=Kn (w.alloc (.cells #[.int .i64 a] 3)) b [b] rfl;have s2:=Kn ((w.alloc (.cells #[.int .i64 a] 3)).alloc (.cells #[.int .i64 b] 3)) c [c] rfl;have s3:=Kn (((w.alloc (.cells #[.int .i64 a] 3)).alloc (.cells #[.int .i64 b] 3)).alloc (.cells #[.int .i64 c] 3)) d [d] rfl;simp only [aQ] at s1 s2 s3;have hsz:(Ko w a b c d).heap.size=w.heap.size+1+1+1+1:=by unfold Ko;simp only [aQ]
 have hL:=Up.alloc (Ko w a b c d) (.cells #[.slice (some ⟨w.heap.size,0,none⟩) 1 1,.slice (some ⟨w.heap.size+1,0,none⟩) 1 1,.slice (some ⟨w.heap.size+1+1,0,none⟩) 1 1,.slice (some ⟨w.heap.size+1+1+1,0,none⟩) 1 1] 26);have u3:=Up.alloc (((w.alloc (.cells #[.int .i64 a] 3)).alloc (.cells #[.int .i64 b] 3)).alloc (.cells #[.int .i64 c] 3)) (.cells #[.int .i64 d] 3);have u2:=Up.alloc ((w.alloc (.cells #[.int .i64 a] 3)).alloc (.cells #[.int .i64 b] 3)) (.cells #[.int .i64 c] 3);have u1:=Up.alloc (w.alloc (.cells #[.int .i64 a] 3)) (.cells #[.int .i64 b] 3)
 have u0:=Up.alloc w (.cells #[.int .i64 a] 3);refine ⟨F9 (f:=fun k=>.slice (some ⟨w.heap.size+k,0,none⟩) 1 1) rfl (fun k hk=>?_) (fun k hk=>?_),((((u0.trans u1).trans u2).trans u3).trans hL)⟩
 ·rw [<- hsz,aS]
  match k,hk with
  | 0,_=>rfl
  | 1,_=>rfl
  | 2,_=>rfl
  | 3,_=>rfl
 ·match k,hk with
  | 0,_=>exact ah.keep s0 ((((u1.trans u2).trans u3).trans hL).kept _)
  | 1,_=>exact ah.keep s1 (((u2.trans u3).trans hL).kept _)
  | 2,_=>exact ah.keep s2 ((u3.trans hL).kept _)
  | 3,_=>exact ah.keep s3 (hL.kept _)
def DF (w:World):World:=((w.alloc (.cells #[.int .i64 0,.int .i64 2] 3)).alloc (.cells #[.int .i64 0,.int .i64 (-1)] 3)).alloc (.cells #[.int .i64 1,.int .i64 3] 3)
theorem lit3_rows (w:World):aR Any ((DF w).alloc (.cells #[.slice (some ⟨w.heap.size,0,none⟩) 2 2,.slice (some ⟨w.heap.size+1,0,none⟩) 2 2,.slice (some ⟨w.heap.size+1+1,0,none⟩) 2 2] 26)) (.slice (some ⟨w.heap.size+1+1+1,0,none⟩) 3 3) WZ/\Up w ((DF w).alloc (.cells #[.slice (some ⟨w.heap.size,0,none⟩) 2 2,.slice (some ⟨w.heap.size+1,0,none⟩) 2 2,.slice (some ⟨w.heap.size+1+1,0,none⟩) 2 2] 26)):=by
 have s0:=ya w #[.int .i64 0,.int .i64 2] 3 [0,2] rfl 2 rfl;have s1:=ya (w.alloc (.cells #[.int .i64 0,.int .i64 2] 3)) #[.int .i64 0,.int .i64 (-1)] 3 [0,-1] rfl 2 rfl;have s2:=ya ((w.alloc (.cells #[.int .i64 0,.int .i64 2] 3)).alloc (.cells #[.int .i64 0,.int .i64 (-1)] 3)) #[.int .i64 1,.int .i64 3] 3 [1,3] rfl 2 rfl;simp only [aQ] at s1 s2;have hsz:(DF w).heap.size=w.heap.size+1+1+1:=by unfold DF;simp only [aQ]
 have hL:=Up.alloc (DF w) (.cells #[.slice (some ⟨w.heap.size,0,none⟩) 2 2,.slice (some ⟨w.heap.size+1,0,none⟩) 2 2,.slice (some ⟨w.heap.size+1+1,0,none⟩) 2 2] 26);have u2:=Up.alloc ((w.alloc (.cells #[.int .i64 0,.int .i64 2] 3)).alloc (.cells #[.int .i64 0,.int .i64 (-1)] 3)) (.cells #[.int .i64 1,.int .i64 3] 3);have u1:=Up.alloc (w.alloc (.cells #[.int .i64 0,.int .i64 2] 3)) (.cells #[.int .i64 0,.int .i64 (-1)] 3);have u0:=Up.alloc w (.cells #[.int .i64 0,.int .i64 2] 3)
 refine ⟨F9 (f:=fun k=>.slice (some ⟨w.heap.size+k,0,none⟩) 2 2) rfl (fun k hk=>?_) (fun k hk=>?_),(((u0.trans u1).trans u2).trans hL)⟩
 ·rw [<- hsz,aS]
  match k,hk with
  | 0,_=>rfl
  | 1,_=>rfl
  | 2,_=>rfl
 ·match k,hk with
  | 0,_=>exact ah.keep s0 (((u1.trans u2).trans hL).kept _)
  | 1,_=>exact ah.keep s1 ((u2.trans hL).kept _)
  | 2,_=>exact ah.keep s2 (hL.kept _)
theorem Sm (w:World):Calls Tryz.prog 26 #[] w fun e w'=>e=.returned (.bool true)/\Up w w':=by
 have jt:cntR 7=945/\cntE 7=0:=by decide +kernel
 have bA:=Up.alloc w (.cells #[.string ⟨#[65]⟩,.string ⟨#[66]⟩,.string ⟨#[67]⟩,.string ⟨#[68]⟩] 9);have Tv:=LP w #[.string ⟨#[65]⟩,.string ⟨#[66]⟩,.string ⟨#[67]⟩,.string ⟨#[68]⟩] 9 jK rfl 4 rfl;have cA:=aa bA;have zv:=aa Tv;clear bA Tv
 go_enter Tryz.func26,Tryz.ntmps26
 go_wp2_with fail;refine (count34_t 7 (by decide) w).mono ?_;rintro e w0 ⟨rfl,rfl⟩;rw [jt.1,jt.2];clear jt;have Fi:=aa (lit4_rows (w.alloc (.cells #[.string ⟨#[65]⟩,.string ⟨#[66]⟩,.string ⟨#[67]⟩,.string ⟨#[68]⟩] 9)) 0 0 1 1);have qb:=aa (yg Any _ _ _ jK Fj (au.keep zv.out (Fi.out.2.kept _)) (by decide) Vw Fi.out.1 (by decide) (Cc (by decide)) (.inl (by decide)));have bD:=aa (cA.out.trans Fi.out.2);simp only [aQ] at qb bD;unfold Ko at qb bD;go_wp2_with fail;refine qb.out.mono ?_;rintro e w2 ⟨aK,v2,rfl,ht2⟩
 have e1:rR jK Fj=1:=by unfold rR;rw [W4,if_pos rfl,W5]
 have e2:l5 jK Fj=[p9]:=by unfold l5;rw [if_pos W4,aw_best]
 rw [e2] at ht2;rw [e1,W4];obtain ⟨p2,c2,rfl,-⟩:=iM ht2;have eo:=aa (bD.out.trans aK);have uj:Hid (fQ Any w2 (.slice p2 1 c2) [p9]):=ht2;have h1:=ya w2 #[.int .i64 (-1),.int .i64 0,.int .i64 0,.int .i64 2,.int .i64 2,.int .i64 4,.int .i64 4] 3 p9.ps rfl 7 rfl;have h2:=LP (w2.alloc (.cells #[.int .i64 (-1),.int .i64 0,.int .i64 0,.int .i64 2,.int .i64 2,.int .i64 4,.int .i64 4] 3)) #[.string ⟨#[]⟩,.string ⟨#[65]⟩,.string ⟨#[]⟩,.string ⟨#[66]⟩,.string ⟨#[]⟩,.string ⟨#[67]⟩,.string ⟨#[68]⟩] 9 p9.ns rfl 7 rfl
 have u1:=Up.alloc w2 (.cells #[.int .i64 (-1),.int .i64 0,.int .i64 0,.int .i64 2,.int .i64 2,.int .i64 4,.int .i64 4] 3);have u2:=Up.alloc (w2.alloc (.cells #[.int .i64 (-1),.int .i64 0,.int .i64 0,.int .i64 2,.int .i64 2,.int .i64 4,.int .i64 4] 3)) (.cells #[.string ⟨#[]⟩,.string ⟨#[65]⟩,.string ⟨#[]⟩,.string ⟨#[66]⟩,.string ⟨#[]⟩,.string ⟨#[67]⟩,.string ⟨#[68]⟩] 9)
 have u3:=Up.alloc ((w2.alloc (.cells #[.int .i64 (-1),.int .i64 0,.int .i64 0,.int .i64 2,.int .i64 2,.int .i64 4,.int .i64 4] 3)).alloc (.cells #[.string ⟨#[]⟩,.string ⟨#[65]⟩,.string ⟨#[]⟩,.string ⟨#[66]⟩,.string ⟨#[]⟩,.string ⟨#[67]⟩,.string ⟨#[68]⟩] 9)) (.cells #[.slice (some ⟨w2.heap.size,0,none⟩) 7 7,.slice (some ⟨w2.heap.size+1,0,none⟩) 7 7] 39)
 have k0:=iU ((w2.alloc (.cells #[.int .i64 (-1),.int .i64 0,.int .i64 0,.int .i64 2,.int .i64 2,.int .i64 4,.int .i64 4] 3)).alloc (.cells #[.string ⟨#[]⟩,.string ⟨#[65]⟩,.string ⟨#[]⟩,.string ⟨#[66]⟩,.string ⟨#[]⟩,.string ⟨#[67]⟩,.string ⟨#[68]⟩] 9)) (.slice (some ⟨w2.heap.size,0,none⟩) 7 7) (.slice (some ⟨w2.heap.size+1,0,none⟩) 7 7) 39
 have k1:=iV ((w2.alloc (.cells #[.int .i64 (-1),.int .i64 0,.int .i64 0,.int .i64 2,.int .i64 2,.int .i64 4,.int .i64 4] 3)).alloc (.cells #[.string ⟨#[]⟩,.string ⟨#[65]⟩,.string ⟨#[]⟩,.string ⟨#[66]⟩,.string ⟨#[]⟩,.string ⟨#[67]⟩,.string ⟨#[68]⟩] 9)) (.slice (some ⟨w2.heap.size,0,none⟩) 7 7) (.slice (some ⟨w2.heap.size+1,0,none⟩) 7 7) 39;simp only [aQ] at h2 k0 k1;have Sn:=aa (aI.keep (S:=Any) (t:=p9) ⟨_,_,rfl,ah.keep h1 (u2.kept _),h2⟩ (u3.kept _));have HUT:=aa ((u1.trans u2).trans u3);have IE:=aa (And.intro k0 k1)
 have HST:Hid ((((w2.alloc (.cells #[.int .i64 (-1),.int .i64 0,.int .i64 0,.int .i64 2,.int .i64 2,.int .i64 4,.int .i64 4] 3)).alloc (.cells #[.string ⟨#[]⟩,.string ⟨#[65]⟩,.string ⟨#[]⟩,.string ⟨#[66]⟩,.string ⟨#[]⟩,.string ⟨#[67]⟩,.string ⟨#[68]⟩] 9)).alloc (.cells #[.slice (some ⟨w2.heap.size,0,none⟩) 7 7,.slice (some ⟨w2.heap.size+1,0,none⟩) 7 7] 39)).heap.size=w2.heap.size+1+1+1):=by unfold Hid;simp only [aQ]
 clear aK ht2 e1 e2 qb Fi bD zv cA h1 h2 u1 u2 u3 k0 k1;have HL3:Hid (∀W:World,W.heap.size=w2.heap.size+1+1+1->aR Any ((DF W).alloc (.cells #[.slice (some ⟨w2.heap.size+1+1+1,0,none⟩) 2 2,.slice (some ⟨w2.heap.size+1+1+1+1,0,none⟩) 2 2,.slice (some ⟨w2.heap.size+1+1+1+1+1,0,none⟩) 2 2] 26)) (.slice (some ⟨w2.heap.size+1+1+1+1+1+1,0,none⟩) 3 3) WZ/\Up W ((DF W).alloc (.cells #[.slice (some ⟨w2.heap.size+1+1+1,0,none⟩) 2 2,.slice (some ⟨w2.heap.size+1+1+1+1,0,none⟩) 2 2,.slice (some ⟨w2.heap.size+1+1+1+1+1,0,none⟩) 2 2] 26))):=fun W hW=>by have h:=lit3_rows W;rw [hW] at h;exact h
 go_wp2_with fail;generalize ((w2.alloc (.cells #[.int .i64 (-1),.int .i64 0,.int .i64 0,.int .i64 2,.int .i64 2,.int .i64 4,.int .i64 4] 3)).alloc (.cells #[.string ⟨#[]⟩,.string ⟨#[65]⟩,.string ⟨#[]⟩,.string ⟨#[66]⟩,.string ⟨#[]⟩,.string ⟨#[67]⟩,.string ⟨#[68]⟩] 9)).alloc (.cells #[.slice (some ⟨w2.heap.size,0,none⟩) 7 7,.slice (some ⟨w2.heap.size+1,0,none⟩) 7 7] 39)=w7 at *;obtain ⟨hr,hur⟩:=HL3.out w7 HST.out;unfold DF at hr hur;have HUR:=aa hur;have Fe:=aa (JH Any _ _ WZ hr (by decide) (Cc (by decide)));clear hr hur HL3
 generalize ((((w7.alloc (.cells #[.int .i64 0,.int .i64 2] 3)).alloc (.cells #[.int .i64 0,.int .i64 (-1)] 3)).alloc (.cells #[.int .i64 1,.int .i64 3] 3)).alloc (.cells #[.slice (some ⟨w2.heap.size+1+1+1,0,none⟩) 2 2,.slice (some ⟨w2.heap.size+1+1+1+1,0,none⟩) 2 2,.slice (some ⟨w2.heap.size+1+1+1+1+1,0,none⟩) 2 2] 26))=w8 at *;refine Fe.out.mono ?_;rintro e w9 ⟨rfl,kN⟩;have e3:Ms WZ=2:=by unfold Ms;rw [if_pos Mw.1,Mw.2]
 have e4:Mr WZ=0:=by unfold Mr;rw [if_pos Mw.1]
 rw [e3,e4];have dX:=HUR.out.trans kN;have k0:=dX.cell IE.out.1;have k1:=dX.cell IE.out.2;have HT9:=aa (uj.out.keep ((HUT.out.trans dX).kept _));have HW9:=aa (Sn.out.keep (dX.kept _));have zX:=aa (eo.out.trans (HUT.out.trans dX));have cE:=Up.alloc w9 (.cells #[.slice (some ⟨w2.heap.size,0,none⟩) 7 7,.slice (some ⟨w2.heap.size+1,0,none⟩) 7 7] 39);have bu:Hid (fQ Any (w9.alloc (.cells #[.slice (some ⟨w2.heap.size,0,none⟩) 7 7,.slice (some ⟨w2.heap.size+1,0,none⟩) 7 7] 39)) (.slice (some ⟨w9.heap.size,0,none⟩) 1 1) [p9]):=by
  refine ⟨_,_,rfl,af _,.inr ⟨_,0,rfl,trivial,fun k hk=>?_⟩⟩;obtain rfl:k=0:=by have:k<1:=hk;omega
  exact ⟨_,_,iU w9 _ _ _,iV w9 _ _ _,HW9.out.keep (cE.kept _)⟩
 have ZV:=aa (SQ Any Any _ _ _ [p9] [p9] (HT9.out.keep (cE.kept _)) bu.out (by decide) (fun k=>by
  match k with
  | 0=>exact ⟨by decide,by decide⟩
  | k+1=>exact ⟨aL _,aL _⟩))
 have JC:=aa (zX.out.trans cE);clear kN dX cE e3 e4 Fe IE Sn uj HUR HUT HST HT9 HW9 eo zX bu;go_wp2_with fail;refine ZV.out.mono ?_;rintro e jh ⟨rfl,Wu⟩;have IG:=aa (JC.out.trans Wu);simp only [decide_true];clear Wu ZV;go_wp2_with fail;go_ret;exact ⟨rfl,IG.out⟩
def zK (aac:List ByteArray):Bool:=!oD aac []&&decide (aac.length<=5)&&decide (dm aac=0)
theorem nmd_ok {aac:List ByteArray} (h:zK aac=true):gT aac:=by
 unfold zK at h;rw [gD,gD,decide_eq_true_iff,decide_eq_true_iff] at h;exact (mQ h.1.2).1 h.2
theorem Sq (S:Nat->Prop) (w:World) (v:Value) (aac:List ByteArray) (h:au S w v aac) (hn:aac.length<=9223372036854775807) (hz:∀k,(gs aac k).size<=9223372036854775807) :
  Calls Tryz.prog 25 #[v] w fun e w'=>e=.returned (.bool (zK aac))/\Up w w':=by
 obtain ⟨p,cap,rfl,hcap,-⟩:=ay.open h;have h:au S w (.slice p aac.length cap) aac:=h;have EI:=aa (RH S Any w _ _ aac [] h (rows_nil _ _) hn hz (by decide) (fun k=>by simp [gl]));have HB:Hid (zK aac=(!oD aac []&&decide (aac.length<=5)&&decide (dm aac=0))):=rfl;have HH:=aa h;have Sg:Hid (oD aac []=false->Px aac []):=E1;clear h hz
 go_enter Tryz.func25,Tryz.ntmps25
 go_wp2_with fail;refine EI.out.mono ?_;rintro e w1 ⟨rfl,rfl⟩;cases hg:oD aac []
 ·have HG:=aa (Sg.out hg)
  rw [hg] at HB;clear hg EI Sg;by_cases h5:aac.length<=5
  ·have kM:=aa (VJ S w _ aac HH.out (by omega) (fun k=>by have:=HG.out.nm k;omega) (.inl h5))
   (have ry:Hid (zK aac=decide (dm aac=0)):=by unfold Hid;rw [HB.out];simp [h5]);(have i5:¬(5:Int)<(aac.length:Int):=by omega);(have d5:decide ((5:Int)<(aac.length:Int))=false:=by simp;omega);clear HB;go_wp2_with fail;refine kM.out.mono ?_;rintro e w2 ⟨aK,v2,rfl,-⟩;have bD:=aa aK;clear aK kM;generalize dm aac=c at *;go_wp2_with fail;go_ret;exact ⟨aV (by rw [ry.out];first | done | (by_cases e:c=0<;>simp [e])),bD.out⟩
  ·have ry:Hid (zK aac=false):=by unfold Hid;rw [HB.out];simp [h5]
   (have d5:decide ((5:Int)<(aac.length:Int))=true:=by simp;omega);go_wp2_with fail
   all_goals (go_ret;exact ⟨aV ry.out.symm,Up.refl _⟩)
 ·have ry:Hid (zK aac=false):=by unfold Hid;rw [HB.out,hg];rfl
  clear hg;go_wp2_with fail
  all_goals (go_ret;exact ⟨aV ry.out.symm,Up.refl _⟩)
end
end Go.Proofs.YthgabkgmkolobaaGreat
