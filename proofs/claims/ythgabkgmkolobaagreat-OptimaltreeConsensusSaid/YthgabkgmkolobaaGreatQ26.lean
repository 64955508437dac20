/- cmp.Compare at ints, slices.Compare at .. -/
import Derived.Test.YthgabkgmkolobaaGreatQ21
set_option maxRecDepth 100000
set_option maxHeartbeats 4000000
namespace Go.Proofs.YthgabkgmkolobaaGreat
section
open Go.RowKit Go.Deep
def sG (x y:Int):Int:=if x<y then -1 else if y<x then 1 else 0
theorem adV (x:Int) (w:World):Calls Tryz.prog 131 #[.int .i64 x] w fun e w'=>e=.returned (.bool false)/\w=w':=by
 go_in;go_wp2;go_ret;exact ⟨aO (by simp),rfl⟩
theorem YY (x y:Int) (w:World):Calls Tryz.prog 80 #[.int .i64 x,.int .i64 y] w fun e w'=>e=.returned (.int .i64 (sG x y))/\w=w':=by
 have HX:=aa (adV x w);have HY:=aa (adV y w);have HC:Hid (sG x y=if x<y then -1 else if y<x then 1 else 0):=rfl;by_cases h1:x<y
 ·have h2:¬y<x:=by omega
  go_in;go_wp2_with fail;refine HX.out.mono ?_;rintro e w' ⟨rfl,rfl⟩;go_wp2_with fail;refine HY.out.mono ?_;rintro e w' ⟨rfl,rfl⟩;go_wp2;go_ret;exact ⟨aC (by rw [HC.out,if_pos h1]),rfl⟩
 by_cases h2:y<x
 ·go_in
  go_wp2_with fail;refine HX.out.mono ?_;rintro e w' ⟨rfl,rfl⟩;go_wp2_with fail;refine HY.out.mono ?_;rintro e w' ⟨rfl,rfl⟩;go_wp2;go_ret;exact ⟨aC (by rw [HC.out,if_neg (by omega),if_pos h2]),rfl⟩
 ·go_in
  go_wp2_with fail;refine HX.out.mono ?_;rintro e w' ⟨rfl,rfl⟩;go_wp2_with fail;refine HY.out.mono ?_;rintro e w' ⟨rfl,rfl⟩;go_wp2;go_ret;exact ⟨aC (by rw [HC.out,if_neg (by omega),if_neg (by omega)]),rfl⟩
theorem abZ (b:List Int):cmpL [] b=if b.length=0 then 0 else -1:=by cases b<;>simp [cmpL]
theorem AR {a b:List Int}:∀ {k:Nat},k<=a.length->k<=b.length->(∀j,j<k->gi a j=gi b j)->cmpL a b=cmpL (a.drop k) (b.drop k)
 | 0,_,_,_=>by simp
 | k+1,ha,hb,h=>by
  rw [AR (k:=k) (by omega) (by omega) fun j hj=>h j (by omega)]
  rw [CO (show k<a.length by omega),CO (show k<b.length by omega)]
  have e:=h k (by omega)
  simp only [gi,rP,kQ (show k<a.length by omega),kQ (show k<b.length by omega),Option.getD_some] at e
  rw [cmpL,if_neg (by omega),if_neg (by omega)]
theorem aeN {a b:List Int} {k:Nat} (ha:k<a.length) (hb:k<b.length) (h:∀j,j<k->gi a j=gi b j) (hne:sG (gi a k) (gi b k)≠0):cmpL a b=sG (gi a k) (gi b k):=by
 rw [AR (by omega) (by omega) h,CO ha,CO hb];have e1:gi a k=a[k]:=by simp [gi,ha]
 have e2:gi b k=b[k]:=by simp [gi,hb]
 rw [e1,e2] at hne ⊢;unfold sG at hne ⊢;rw [cmpL];split
 ·rfl
 ·rename_i h1
  rw [if_neg h1] at hne;split
  ·rfl
  ·rename_i h2;rw [if_neg h2] at hne;exact absurd rfl hne
theorem YZ (S T:Nat->Prop) (w:World) (v u:Value) (a b:List Int) (h:af S w v a) (h2:af T w u b) (hn:a.length<=1000000) (_:b.length<=1000000) :
  Calls Tryz.prog 81 #[v,u] w fun e w'=>e=.returned (.int .i64 (cmpL a b))/\w=w':=by
 obtain ⟨p,cap,rfl,-,-⟩:=aq.open h;obtain ⟨q,qI,rfl,-,-⟩:=aq.open h2;have H:Hid (af S w (.slice p a.length cap) a):=h;have H2:Hid (af T w (.slice q b.length qI) b):=h2;clear h h2;go_in;go_wp2
 go_loop [5,6,7,8,11] (fun _ _ _ _ i=>∃k:Nat,k<=a.length/\k<=b.length/\i=.int .i64 k/\Hid (∀j,j<k->gi a j=gi b j)) (fun _ _ _ _ i=>a.length - (intOf i).toNat)
 case atStart=>exact ⟨0,aF _,aF _,rfl,fun j hj=>absurd hj (aZ _)⟩
 case round =>
  obtain ⟨k,hk,hk2,rfl,hd⟩:=hrel;by_cases hlt:k<a.length
  ·obtain ⟨b1,o1,rfl,hc⟩:=bU H.out hlt
   have k1:(0:Int)<=(k:Int):=vP _;have k2:(k:Int)<(a.length:Int):=tX.2 hlt;by_cases hlt2:k<b.length
   ·obtain ⟨b2,o2,rfl,hc2⟩:=bU H2.out hlt2
    have k3:(k:Int)<(b.length:Int):=tX.2 hlt2;(have k4:¬(b.length:Int)<=(k:Int):=by omega);have mG:Hid (sG (gi a k) (gi b k)≠0->cmpL a b=sG (gi a k) (gi b k)):=aeN hlt hlt2 hd.out;have Y0:Hid (sG (gi a k) (gi b k)=0->gi a k=gi b k):=fun e=>by
     unfold sG at e;split at e
     ·cases e
     ·split at e
      ·cases e
      ·omega
    have HC:=aa (YY (gi a k) (gi b k) w);generalize hgx:gi a k=x at *;generalize hgy:gi b k=y at *;have wL:=aa hgx;have Ra:=aa hgy;clear hgx hgy;generalize sG x y=c at *;by_cases h0:c=0
    ·have HE:=aa (Y0.out h0)
     subst h0;go_wp2_with fail;refine HC.out.mono ?_;rintro e w' ⟨rfl,rfl⟩;go_wp2
     go_round
     case rel=>exact ⟨k+1,by omega,by omega,by go_num,fun j hj=>by
      by_cases e:j=k
      ·subst e;rw [wL.out,Ra.out];exact HE.out
      ·exact hd.out j (by omega)⟩
     case measure=>simp [intOf];omega
    ·have HZ:=aa h0
     (have d1:(c==0)=false:=by simpa using h0);(have d2:(c != 0)=true:=by simpa using h0);clear h0;go_wp2_with fail;refine HC.out.mono ?_;rintro e w' ⟨rfl,rfl⟩;go_wp2;go_ret;exact ⟨aC (mG.out HZ.out).symm,rfl⟩
   ·obtain rfl:k=b.length:=by omega
    have k4:(b.length:Int)<=(b.length:Int):=qm _;have HL:=aa hlt;go_wp2;go_ret;exact ⟨aC (by rw [AR hk (ah _) hd.out,List.drop_length,CO HL.out];rfl),rfl⟩
  ·obtain rfl:k=a.length:=by omega
   (have HR:Hid (cmpL a b=if b.length - a.length=0 then 0 else -1):=by unfold Hid;rw [AR (ah _) hk2 hd.out,List.drop_length,abZ,xN]);by_cases hl:a.length<b.length
   ·have hl2:(a.length:Int)<(b.length:Int):=tX.2 hl
    go_wp2;go_ret;exact ⟨aC (by rw [HR.out,if_neg (by omega)]),rfl⟩
   ·have hl2:¬(a.length:Int)<(b.length:Int):=by omega
    have HL:=aa hl;go_wp2;go_ret;exact ⟨aC (by rw [HR.out,if_pos (by have:=HL.out;omega)]),rfl⟩
def dH (P:Nat->Bool) (j:Nat):List Nat:=(List.range j).filter fun i=>!P i
theorem aeO (P:Nat->Bool) (j:Nat):(dH P j).length<=j:=by
 unfold dH;refine aB (mN _ _) ?_;rw [vQ];exact ah _
theorem tF (P:Nat->Bool) (j:Nat):dH P (j+1)=if P j then dH P j else dH P j++[j]:=by
 unfold dH;rw [pU,rO];cases h:P j
 ·rw [if_neg (by decide),FZ (by rw [h];rfl)];rfl
 ·rw [if_pos rfl,FY (by rw [h];decide)];simp
theorem Lt {P:Nat->Bool} {j:Nat} (h:∀i,i<j->P i=false):dH P j=List.range j:=by
 unfold dH;rw [List.filter_eq_self];intro i hi;rw [h i (bu.1 hi)];rfl
def mP (vs:List Value) (j:Nat):Value:=vs.getD j undef
structure mH (vs:List Value) (P:Nat->Bool) (base:Nat) (w wr:World) (g cap j:Nat) (X:List Value):Prop where
 own:au base 26 wr (.slice (some ⟨g,0,none⟩) vs.length cap) X
 len:X.length=vs.length
 head:X.take (dH P j).length=(dH P j).map (mP vs)
 rest:∀q,(dH P j).length<=q->X[q]? = vs[q]?
 up:w.grownBy wr (some g)
section
variable {vs:List Value} {P:Nat->Bool} {base:Nat} {w wr:World} {g cap:Nat} {X:List Value}
theorem vH {j:Nat} (hj:j<vs.length):vs[j]? = some (mP vs j):=by unfold mP;rw [rP,kQ hj];rfl
theorem mH.start (h:au base 26 w (.slice (some ⟨g,0,none⟩) vs.length cap) vs) {j:Nat} (hj:j<vs.length) (hno:∀i,i<j->P i=false) (hP:P j=true) (m:Nat) :
  mH vs P base w (w.drewN m) g cap (j+1) vs/\(dH P (j+1)).length=j:=by
 have e:dH P (j+1)=List.range j:=by rw [tF,hP,if_pos rfl,Lt hno]
 refine ⟨⟨h.eH fun _ _=>rfl,rfl,?_,fun _ _=>rfl,jZ (Up.drewN w m) _⟩,by rw [e,vQ]⟩;rw [e,vQ];apply xL;intro i;by_cases hi:i<j
 ·rw [List.getElem?_take_of_lt hi,kr,List.getElem?_range hi,vH (by omega)];rfl
 ·rw [List.getElem?_take_eq_none (by omega),xM (by simp;omega)]
theorem mH.skip {j:Nat} (h:mH vs P base w wr g cap j X) (hP:P j=true) (m:Nat):mH vs P base w (wr.drewN m) g cap (j+1) X:=by
 have e:dH P (j+1)=dH P j:=by rw [tF,if_pos hP]
 exact ⟨h.own.eH fun _ _=>rfl,h.len,by rw [e];exact h.head,by rw [e];exact h.rest,jw h.up (jZ (Up.drewN wr m) _)⟩
theorem mH.aiI {j:Nat} (h:mH vs P base w wr g cap j X) (m:Nat):mH vs P base w (wr.drewN m) g cap j X :=
 ⟨h.own.eH fun _ _=>rfl,h.len,h.head,h.rest,jw h.up (jZ (Up.drewN wr m) _)⟩
theorem mH.cells {j:Nat} (h:mH vs P base w wr g cap j X) {q:Nat} (hq:(dH P j).length<=q) (hl:q<vs.length):wr.cell? ⟨g,q,none⟩=some (mP vs q) :=
 (tR h.own (by rw [h.rest q hq];exact vH hl)).1
theorem mH.push {j:Nat} (h:mH vs P base w wr g cap j X) (hj:j<vs.length) (hP:P j=false) (hk:(dH P j).length<j) :
  (∃x,wr.cell? ⟨g,(dH P j).length,none⟩=some x)/\wr.frozen? ⟨g,(dH P j).length,none⟩=false/\(dH P (j+1)).length=(dH P j).length+1 /\
   ∃X',mH vs P base w (wr.setCell ⟨g,(dH P j).length,none⟩ (mP vs j)) g cap (j+1) X':=by
 obtain ⟨g2,dF,e1,_,_,hc,hf,hs⟩:=h.own.set (j:=(dH P j).length) (by rw [h.len];omega);injection e1 with a1 a2 a3;injection a1 with a1;injection a1 with a1;subst a1;have hkk:=tF P j;rw [if_neg (by rw [hP];decide)] at hkk;have hl:(dH P (j+1)).length=(dH P j).length+1:=by rw [hkk,bg];rfl
 refine ⟨⟨_,hc⟩,hf,hl,X.set (dH P j).length (mP vs j),hs _,by rw [List.length_set];exact h.len,?_,fun q hq=>?_,jw h.up MV⟩
 ·rw [hl,hkk,cg,<- h.head]
  have hlt:(dH P j).length<(X.set (dH P j).length (mP vs j)).length:=by rw [List.length_set,h.len];omega
  rw [jQ hlt,List.take_set_of_le (ah _),List.getElem_set_self];rfl
 ·rw [hl] at hq
  rw [List.getElem?_set_ne (by omega)];exact h.rest q (by omega)
theorem mH.done {m:Nat} (h:mH vs P base w wr g cap vs.length X) (hm:(dH P vs.length).length=m) (hlt:m<vs.length) :
  (∀i,i<vs.length - m->(wr.cell? ⟨g,m+i,none⟩).isSome=true)/\(∀i,i<vs.length - m->wr.frozen? ⟨g,m+i,none⟩=false) /\
   au base 26 (wr.setCells g m (List.replicate (vs.length - m) (.slice none 0 0))) (.slice (some ⟨g,0,none⟩) m cap) ((dH P vs.length).map (mP vs)) /\
   w.grownBy (wr.setCells g m (List.replicate (vs.length - m) (.slice none 0 0))) (some g):=by
 have hcell:∀i,i<vs.length - m->wr.cell? ⟨g,m+i,none⟩=some (X.getD (m+i) undef)/\wr.frozen? ⟨g,m+i,none⟩=false:=fun i hi=>by
  have hl:m+i<X.length:=by rw [h.len];omega
  exact tR h.own (by rw [rP,kQ hl];rfl)
 refine ⟨fun i hi=>by rw [(hcell i hi).1];rfl,fun i hi=>(hcell i hi).2,?_,jw h.up (JV _ _ _)⟩;refine JW _ _ _ (ah _) ?_;have:=MW h.own (m:=m) (by omega);rw [<- hm,h.head] at this;rw [<- hm];exact this
end
theorem Tryz.Ut:∀w,(zeroValue 26).run Tryz.prog w=.ok (.slice none 0 0) w:=fun w=>by simp [Tryz.zeroValue26]
theorem Ws {P:Nat->Bool} (g:Nat) (lb:Array Value) (eg:∀args w,(callFunc g args).run Tryz.prog w=.ok (.enter g args) w) {base:Nat} {w:World} {bk cap:Nat} {vs:List Value} (h:au base 26 w (.slice (some ⟨bk,0,none⟩) vs.length cap) vs) (hn:vs.length<=1000000) (Uu:P 0=false)
  (kF:∀j,j<vs.length->∃q n c,mP vs j=.slice q n c)
  (hp:∀j,0<j->j<vs.length->∀W,w.grownBy W (some bk)->Calls Tryz.prog g (#[mP vs j,mP vs (j - 1)]++lb) W fun e W'=>e=.returned (.bool (P j))/\∃m,W'=W.drewN m) :
  Calls Tryz.prog 82 #[.slice (some ⟨bk,0,none⟩) vs.length cap,.func (.func g) #[] lb] w fun e w'=>∃m,e=.returned (.slice (some ⟨bk,0,none⟩) m cap)/\au base 26 w' (.slice (some ⟨bk,0,none⟩) m cap) ((dH P vs.length).map (mP vs))/\w.grownBy w' (some bk):=by
 have HO:=aa h;have HP:=aa hp;have sN:=aa kF;have agY:Hid ((∀i,i<vs.length->P i=false)->(dH P vs.length).map (mP vs)=vs):=fun hno=>by
  rw [Lt hno];apply xL;intro i;by_cases hi:i<vs.length
  ·rw [kr,List.getElem?_range hi,vH hi];rfl
  ·rw [xM (by simp;omega),xM (by omega)]
 have hcap:vs.length<=cap:=Qu h;clear h hp kF;by_cases h2:vs.length<2
 ·have h2i:(vs.length:Int)<2:=by omega
  have HN:Hid (∀i,i<vs.length->P i=false):=fun i hi=>by rw [show i=0 by omega];exact Uu
  clear h2;go_in;go_wp2;go_ret;exact ⟨_,rfl,by rw [agY.out HN.out];exact HO.out,x6 _ _⟩
 have h2i:¬(vs.length:Int)<2:=by omega
 have n6:(vs.length:Int)<=1000000:=by omega
 have HP0:=aa Uu;go_in;go_wp2
 go_loopw [5,6,7] (fun x _ _ wr=>∃k:Nat,1<=k/\k<=vs.length/\x=.int .i64 k/\Hid (∀i,i<k->P i=false)/\Hid (∃m,wr=w.drewN m)) (fun x _ _ _=>vs.length - (intOf x).toNat)
 case atStart=>exact ⟨1,ah _,by omega,by go_num,fun i hi=>by rw [show i=0 by omega];exact HP0.out,0,rfl⟩
 case round =>
  obtain ⟨k,hk1,hk,rfl,hno,hm⟩:=hrel;obtain ⟨m1,Rb⟩:=hm.out;obtain ⟨wo,rfl⟩:=eM wr;have HWO:=aa Rb;have cQ:w.grownBy wo (some bk):=by rw [Rb];exact jZ (Up.drewN w m1) _
  have Ox:au base 26 wo (.slice (some ⟨bk,0,none⟩) vs.length cap) vs:=by rw [Rb];exact HO.out.eH fun _ _=>rfl
  clear hm Rb;by_cases hlt:k<vs.length
  ·have c1:=(tR Ox (vH hlt)).1
   have c2:=(tR Ox (vH (show k - 1<vs.length by omega))).1;(have i1:(0:Int)<=(k:Int):=by omega);(have i2:(k:Int)<(vs.length:Int):=by omega);(have i3:(k:Int)<1000000:=by omega);(have j1:(0:Int)<=(k:Int) - 1:=by omega);(have j2:(k:Int) - 1<(vs.length:Int):=by omega);(have j3:((k:Int) - 1).toNat=k - 1:=by omega);(have j4:wrap64 ((k:Int) - 1)=(k:Int) - 1:=by unfold wrap64;omega);obtain ⟨q1,n1,d1,e1⟩:=sN.out k hlt;obtain ⟨q2,n2,d2,e2⟩:=sN.out (k - 1) (by omega);(have Cj:Hid (∀n,Calls Tryz.prog g (#[.slice q1 n1 d1,.slice q2 n2 d2]++lb) (wo.drewN n) fun e W'=>e=.returned (.bool (P k))/\∃q,W'=wo.drewN q):=fun n=>by rw [<- e1,<- e2];refine (HP.out k hk1 hlt (wo.drewN n) (jw cQ (jZ (Up.drewN wo n) _))).mono ?_;rintro e W' ⟨rfl,q,rfl⟩;exact ⟨rfl,n+q,by rw [kY]⟩);rw [e1] at c1;rw [e2] at c2;have r8:Hid (∃x,P k=x):=⟨_,rfl⟩;clear cQ e1 e2;cases Uv:P k
   ·rw [Uv] at Cj
    have oB:Hid (∀i,i<k+1->P i=false):=fun i hi=>by
     by_cases e:i=k
     ·rw [e];exact Uv
     ·exact hno.out i (by omega)
    clear Uv;go_wp2_with fail;(go_big_quiet (first | with_reducible exact Cj.out _));go_wp2_with fail;clear j4
    go_roundw
    case rel=>exact ⟨k+1,by omega,by omega,by go_num,oB,m1+nq,by rw [HWO.out,kY]⟩
    case measure=>simp [intOf];omega
   ·rw [Uv] at Cj
    have HST:Hid (∀m,mH vs P base w (w.drewN m) bk cap (k+1) vs/\(dH P (k+1)).length=k):=fun m=>mH.start HO.out hlt hno.out Uv m;clear Uv;go_wp2_with fail;(go_big_quiet (first | with_reducible exact Cj.out _));have lg:=aa (HST.out (m1+nq));rw [<- kY,<- HWO.out] at lg;generalize wo.drewN nq=w1 at *;clear j4 c1 c2 Cj HWO Ox;(have n3:(k:Int)<=(vs.length:Int):=by omega);(have n4:(k:Int)<=(cap:Int):=by omega);go_wp2_with fail;obtain ⟨M,hM⟩:∃M,vs.length=k+M:=⟨vs.length - k,by omega⟩;have HM:=aa hM;(have hM2:vs.length - k=M:=by omega);(have M0:0<M:=by omega);(have M6:(M:Int)<=1000000:=by omega);rw [hM2];clear hM hM2
    go_loopw [5,7] (fun x y wr=>∃d:Nat,1<=d/\d<=M/\y=.int .i64 d/\x=.int .i64 ((dH P (k+d)).length:Nat)/\Hid (∃X,mH vs P base w wr bk cap (k+d) X)/\Hid ((dH P (k+d)).length<k+d)) (fun _ y _=>M - (intOf y).toNat)
    case atStart=>exact ⟨1,ah _,by omega,by go_num,by rw [lg.out.2],⟨_,lg.out.1⟩,by unfold Hid;rw [lg.out.2];omega⟩
    case round =>
     obtain ⟨d,hd1,hd,rfl,rfl,hX,hK⟩:=hrel;obtain ⟨wz,rfl⟩:=eM wr;obtain ⟨X,hX⟩:=hX.out;by_cases ajI:d<M
     ·have hjl:k+d<vs.length:=by have:=HM.out;omega
      have c1:=hX.cells (q:=k+d) (by have:=hK.out;omega) hjl;have c2:=hX.cells (q:=k+(d - 1)) (by have:=hK.out;omega) (by omega);obtain ⟨q3,n3',d3,e3⟩:=sN.out (k+d) hjl;obtain ⟨q4,n4',d4,e4⟩:=sN.out (k+(d - 1)) (by omega);have sO:Hid (∀n,Calls Tryz.prog g (#[.slice q3 n3' d3,.slice q4 n4' d4]++lb) (wz.drewN n) fun e W'=>e=.returned (.bool (P (k+d)))/\∃q,W'=wz.drewN q):=fun n=>by rw [<- e3,<- e4];have h:=HP.out (k+d) (by omega) hjl (wz.drewN n) (jw hX.up (jZ (Up.drewN wz n) _));rw [show k+d - 1=k+(d - 1) by omega] at h;refine h.mono ?_;rintro e W' ⟨rfl,q,rfl⟩;exact ⟨rfl,n+q,by rw [kY]⟩
      have Y1:Hid (∀m,P (k+d)=false->(∃x,(wz.drewN m).cell? ⟨bk,(dH P (k+d)).length,none⟩=some x)/\(wz.drewN m).frozen? ⟨bk,(dH P (k+d)).length,none⟩=false/\(dH P (k+d+1)).length=(dH P (k+d)).length+1 /\
       ∃X',mH vs P base w ((wz.drewN m).setCell ⟨bk,(dH P (k+d)).length,none⟩ (.slice q3 n3' d3)) bk cap (k+d+1) X'):=fun m hPf=>by
       have h:=(hX.aiI m).push hjl hPf hK.out;rw [e3] at h;exact h
      have Ac:Hid (∀m,P (k+d)=true->mH vs P base w (wz.drewN m) bk cap (k+d+1) X/\(dH P (k+d+1)).length=(dH P (k+d)).length):=fun m hPt=>⟨hX.skip hPt m,by rw [tF,if_pos hPt]⟩;(have gA:Hid (∀m,(wz.drewN m).cell? ⟨bk,k+d,none⟩=some (.slice q3 n3' d3)):=fun m=>by rw [<- e3];exact (Up.drewN wz m).cell c1);rw [e3] at c1;rw [e4] at c2;(have a1:(0:Int)<=(d:Int):=by omega);(have a2:(d:Int)<(M:Int):=by omega);(have a3:(d:Int)<1000000:=by omega);(have b1:(0:Int)<=(d:Int) - 1:=by omega);(have b2:(d:Int) - 1<(M:Int):=by omega);(have b3:((d:Int) - 1).toNat=d - 1:=by omega);(have b4:wrap64 ((d:Int) - 1)=(d:Int) - 1:=by unfold wrap64;omega);have pX:=aa (aeO P (k+d));have HJL:=aa hjl;have ux:Hid (vs.length<=1000000):=hn;clear e3 e4 hX hjl;cases Uw:P (k+d)
      ·rw [Uw] at sO
       have agZ:Hid (∀m,_):=fun m=>Y1.out m Uw;clear Uw Y1 Ac;(have k0:(0:Int)<=((dH P (k+d)).length:Int):=by omega);(have k1':((dH P (k+d)).length:Int)<(vs.length:Int):=by have:=hK.out;have:=HJL.out;omega);(have k2':((dH P (k+d)).length:Int)<1000000:=by have:=ux.out;omega);go_wp2_with fail;(go_big_quiet (first | with_reducible exact sO.out _));obtain ⟨⟨cx,qx⟩,hff,hl,X',Y2⟩:=agZ.out nq;have c1:=gA.out nq;have HX':=aa Y2;have HL:=aa hl;clear Y2 hl b4 c2 sO agZ;generalize wz.drewN nq=wy at *;go_wp2
       go_roundw
       case rel=>exact ⟨d+1,by omega,by omega,by go_num,by rw [show k+(d+1)=k+d+1 by omega,HL.out];go_num,⟨X',HX'.out⟩,by unfold Hid;rw [show k+(d+1)=k+d+1 by omega,HL.out];have:=hK.out;omega⟩
       case measure=>simp [intOf];omega
      ·rw [Uw] at sO
       have ag1:Hid (∀m,_):=fun m=>Ac.out m Uw;clear Uw Y1 Ac;go_wp2_with fail;(go_big_quiet (first | with_reducible exact sO.out _));obtain ⟨hx1,hl⟩:=ag1.out nq;have k8:=aa hx1;have HL:=aa hl;clear hx1 hl b4 c1 c2 sO ag1;go_wp2
       go_roundw
       case rel=>exact ⟨d+1,by omega,by omega,by go_num,by rw [show k+(d+1)=k+d+1 by omega,HL.out],⟨X,k8.out⟩,by unfold Hid;rw [show k+(d+1)=k+d+1 by omega,HL.out];have:=hK.out;omega⟩
       case measure=>simp [intOf];omega
     ·obtain rfl:d=M:=by omega
      have hMl:=HM.out;rw [<- hMl] at hX hK ⊢;obtain ⟨mm,hmm⟩:∃mm,(dH P vs.length).length=mm:=⟨_,rfl⟩;(have hml:mm<vs.length:=by rw [<- hmm];exact hK.out);obtain ⟨hc,hf,ho,hg⟩:=hX.done hmm hml;have Y3:=aa ho;have HG2:=aa hg;have D4:=Lib.run_clear_slice (P:=Tryz.prog) wz 23 26 0 (.slice none 0 0) Tryz.underlying23 Tryz.Ut rfl rfl bk mm (vs.length - mm) (cap - mm) (by omega) hc hf;rw [hmm];(have e1:(0:Int)<=(mm:Int):=by omega);(have e2:(mm:Int)<=(vs.length:Int):=by omega);(have e3:(mm:Int)<(vs.length:Int):=by omega);(have e4:mm<=cap:=by omega);(have e5:(mm:Int)<=(cap:Int):=by omega);clear hc hf ho hg hX hK hmm hMl HM M0 M6 hd hd1 ajI;go_wp2;go_ret;exact ⟨mm,rfl,Y3.out,HG2.out⟩
  ·obtain rfl:k=vs.length:=by omega
   go_wp2;go_ret;exact ⟨_,rfl,by rw [agY.out hno.out];exact Ox,cQ⟩
end
end Go.Proofs.YthgabkgmkolobaaGreat
namespace Go.Proofs
open Go.Shelf
def Tryz.sortRow_ren:Go.Shelf.Ren:=⟨fun | 6=>77 | 15=>127 | 14=>130 | 28=>181 | 29=>182 | 20=>185 | 21=>186 | 22=>187 | 23=>188 | 24=>189 | 25=>190 | 26=>191 | 27=>192 | 46=>243 | 47=>235 | 48=>236 | 49=>244 | 50=>245 | 57=>273 | n=>n,fun | 22=>23 | 24=>26 | 25=>106 | 3=>3 | 39=>154 | 0=>0 | 53=>191 | 55=>193 | 4=>4 | 46=>183 | 45=>182 | 50=>188 | 5=>5 | 9=>9 | 66=>238 | 70=>242 | 76=>267 | 77=>177 | n=>n,fun | n=>n⟩
theorem Tryz.sortRow:Go.Proofs.SlLaysF.n6 Tryz.prog Tryz.sortRow_ren:={
 mixed:=by kernel_rfl
 f6:=⟨Tryz.f77.name,by decide,Tryz.func77.trans (congrArg some (by kernel_rfl))⟩
 f14:=⟨Tryz.f130.name,by decide,Tryz.func130.trans (congrArg some (by kernel_rfl))⟩
 f15:=Tryz.func127.trans (congrArg some (by kernel_rfl))
 f20:=⟨Tryz.f185.name,by decide,Tryz.func185.trans (congrArg some (by kernel_rfl))⟩
 f21:=⟨Tryz.f186.name,by decide,Tryz.func186.trans (congrArg some (by kernel_rfl))⟩
 f22:=⟨Tryz.f187.name,by decide,Tryz.func187.trans (congrArg some (by kernel_rfl))⟩
 f23:=⟨Tryz.f188.name,by decide,Tryz.func188.trans (congrArg some (by kernel_rfl))⟩
 f24:=⟨Tryz.f189.name,by decide,Tryz.func189.trans (congrArg some (by kernel_rfl))⟩
 f25:=⟨Tryz.f190.name,by decide,Tryz.func190.trans (congrArg some (by kernel_rfl))⟩
 f26:=⟨Tryz.f191.name,by decide,Tryz.func191.trans (congrArg some (by kernel_rfl))⟩
 f27:=⟨Tryz.f192.name,by decide,Tryz.func192.trans (congrArg some (by kernel_rfl))⟩
 f28:=Tryz.func181.trans (congrArg some (by kernel_rfl))
 f29:=Tryz.func182.trans (congrArg some (by kernel_rfl))
 f46:=⟨Tryz.f243.name,by decide,Tryz.func243.trans (congrArg some (by kernel_rfl))⟩
 f47:=Tryz.func235.trans (congrArg some (by kernel_rfl))
 f48:=Tryz.func236.trans (congrArg some (by kernel_rfl))
 f49:=⟨Tryz.f244.name,by decide,Tryz.func244.trans (congrArg some (by kernel_rfl))⟩
 f50:=⟨Tryz.f245.name,by decide,Tryz.func245.trans (congrArg some (by kernel_rfl))⟩
 f57:=⟨Tryz.f273.name,by decide,Tryz.func273.trans (congrArg some (by kernel_rfl))⟩
 t0:=Tryz.underlying0
 a0:=Tryz.isAgg0
 z0:=Tryz.sizeOf0
 v0:=Tryz.zeroValue0
 t3:=Tryz.underlying3
 a3:=Tryz.isAgg3
 z3:=Tryz.sizeOf3
 v3:=Tryz.zeroValue3
 t4:=Tryz.underlying4
 a4:=Tryz.isAgg4
 z4:=Tryz.sizeOf4
 v4:=Tryz.zeroValue4
 t5:=Tryz.underlying5
 a5:=Tryz.isAgg5
 z5:=Tryz.sizeOf5
 v5:=Tryz.zeroValue5
 t9:=Tryz.underlying9
 a9:=Tryz.isAgg9
 z9:=Tryz.sizeOf9
 v9:=Tryz.zeroValue9
 t22:=Tryz.underlying23
 a22:=Tryz.isAgg23
 z22:=Tryz.sizeOf23
 v22:=Tryz.zeroValue23
 a24:=Tryz.isAgg26
 z24:=Tryz.sizeOf26
 t25:=Tryz.underlying106
 a25:=Tryz.isAgg106
 z25:=Tryz.sizeOf106
 v25:=Tryz.zeroValue106
 t39:=Tryz.underlying154
 a39:=Tryz.isAgg154
 z39:=Tryz.sizeOf154
 v39:=Tryz.zeroValue154
 t45:=Tryz.underlying182
 a45:=Tryz.isAgg182
 z45:=Tryz.sizeOf182
 v45:=Tryz.zeroValue182
 t46:=Tryz.underlying183
 a46:=Tryz.isAgg183
 z46:=Tryz.sizeOf183
 v46:=Tryz.zeroValue183
 t50:=Tryz.underlying188
 a50:=Tryz.isAgg188
 z50:=Tryz.sizeOf188
 v50:=Tryz.zeroValue188
 t53:=Tryz.underlying191
 a53:=Tryz.isAgg191
 z53:=Tryz.sizeOf191
 v53:=Tryz.zeroValue191
 t55:=Tryz.underlying193
 a55:=Tryz.isAgg193
 z55:=Tryz.sizeOf193
 v55:=Tryz.zeroValue193
 t66:=Tryz.underlying238
 a66:=Tryz.isAgg238
 z66:=Tryz.sizeOf238
 v66:=Tryz.zeroValue238
 t70:=Tryz.underlying242
 a70:=Tryz.isAgg242
 z70:=Tryz.sizeOf242
 v70:=Tryz.zeroValue242
 t76:=Tryz.underlying267
 a76:=Tryz.isAgg267
 z76:=Tryz.sizeOf267
 v76:=Tryz.zeroValue267
 t77:=Tryz.underlying177
 a77:=Tryz.isAgg177
 z77:=Tryz.sizeOf177
 v77:=Tryz.zeroValue177 }
end Go.Proofs
namespace Go.Proofs.YthgabkgmkolobaaGreat
section
open Go.RowKit Go.Deep Go.Sort Go.Shelf Go.Lib
structure sk (base:Nat) (w:World) (v:Value) (ps:List (List Int×Value)):Prop where
 own:au base 26 w v (ps.map (·.2))
 shape:∀p∈ps,∃q c,p.2=.slice q p.1.length c
 row:∀p∈ps,af (fun b=>v.ownBlock≠some b) w p.2 p.1
theorem ag2 {α:Type} {f:α->List Int} {cf:List Int->List Int->Int} (h0:∀a,cf a a=0) (hz:∀ {a b},cf a b=0->a=b) (ha:∀a b,cf b a = - cf a b) (ht:∀ {a b c},cf a b<0->cf b c<0->cf a c<0):SWO (ltOf fun (x y:α)=>cf (f x) (f y)) where
 irrefl x:=by simp [ltOf,h0]
 trans x y z h1 h2:=by
  simp only [ltOf,decide_eq_true_eq] at *
  exact ht h1 h2
 ntrans x y z h1 h2:=by
  simp only [ltOf,decide_eq_false_iff_not] at *
  intro h3
  by_cases e:cf (f x) (f y)=0
  ·rw [hz e] at h3;exact h2 h3
  ·have h4:cf (f y) (f x)<0:=by have:=ha (f x) (f y);omega
   exact h2 (ht h4 h3)
theorem Kf {cf:List Int->List Int->Int} (h0:∀a,cf a a=0) (hz:∀ {a b},cf a b=0->a=b) (ha:∀a b,cf b a = - cf a b) (ht:∀ {a b c},cf a b<0->cf b c<0->cf a c<0)
  (g:Nat) (cb:Array Value) (eg:∀args w,(callFunc g args).run Tryz.prog w=.ok (.enter g args) w) {base:Nat} {w:World} {v:Value} {ps:List (List Int×Value)} (h:sk base w v ps) (hn:ps.length<=1000000)
  (hc:∀p∈ps,∀q∈ps,∀W,w.grownBy W v.ownBlock->Calls Tryz.prog g (#[p.2,q.2]++cb) W fun e w'=>e=.returned (.int .i64 (cf p.1 q.1))/\∃n os,w'=grow (W.drewN n) os) :
  Calls Tryz.prog 77 #[v,.func (.func g) #[] cb] w fun e w'=>e=.returned (.tuple #[])/\w.grownBy w' v.ownBlock/\∃ps',(ps'.map (·.1)).Perm (ps.map (·.1))/\(ps'.map (·.1)).Pairwise (fun a b=>cf a b<=0)/\sk base w' v ps'/\∀p∈ps',p∈ps:=by
 by_cases hp:ps=[]
 ·subst hp
  have ho:=h.own;obtain ⟨q,c,hv,_⟩:=ho.form (n:=0) (by simp);subst hv;refine (AnyF.slices_SortFunc_none (P:=Tryz.prog) (ρ:=Tryz.sortRow_ren) { Tryz.sortRow with } q c _ w).mono ?_;rintro e w' ⟨rfl,rfl⟩;exact ⟨rfl,x6 _ _,[],.nil,.nil,h,fun p hp=>hp⟩
 obtain ⟨p0,xg⟩:∃p,p∈ps:=CP _ hp;letI:Inhabited {p // p∈ps}:=⟨⟨p0,xg⟩⟩;have hown:=h.own;obtain ⟨q,cap,hv,_⟩:=hown.form (n:=ps.length) (by simp);obtain ⟨blk,hq⟩:∃blk,q=some ⟨blk,0,none⟩:=by
  obtain ⟨_,⟨h1,_⟩ | ⟨g',cap',cur,h1,_⟩⟩:=hown
  ·rw [hv] at h1
   injection h1 with _ h1 _;exact absurd (xO.1 h1) hp
  ·rw [hv] at h1
   injection h1 with h1 _ _;exact ⟨g',h1⟩
 subst hq;subst hv;have Ae:=(av hown rfl).2;have Ae:blk<w.heap.size:=Ae;have hsize:(ps.attach.toArray).size=ps.length:=by simp
 have og:(ps.map (·.2)).length=ps.length:=by simp
 have hH:Holds (fun (x:{p // p∈ps})=>x.1.2) w blk 0 ps.attach.toArray:=by
  intro j hj;rw [hsize] at hj;obtain ⟨p,c,e,_,H⟩:=hown.uf.open;injection e with e1;subst e1;obtain ⟨b,off,e,hcc⟩:=H j (by rw [og];exact hj);injection e with e;injection e with e1 e2;subst e1;subst e2;refine ⟨?_,?_⟩
  ·rw [hcc,getElem!_pos _ _ (by simpa using hj)];simp [hj]
  ·obtain ⟨_,⟨h1,_⟩ | ⟨g',cap',cur,hs',_,hc',_⟩⟩:=hown
   ·cases h1
   ·injection hs' with hs1
    injection hs1 with hs1;injection hs1 with hs1;subst hs1;simp [World.frozen?,hc']
 have hgb:∀(m:Nat) (os:Array Obj) (dk:Array {p // p∈ps}),w.grownBy (sortWorld (fun (x:{p // p∈ps})=>x.1.2) w blk 0 m dk os) (some blk):=fun m os dk=>⟨rfl,rfl,rfl,B8 _ _ _ _ _,fun b hb hne=>gI (fun e=>hne (by rw [e])) hb⟩;have hcmp:CmpLays1 Tryz.prog g cb (fun (x:{p // p∈ps})=>x.1.2) (fun x y=>cf x.1.1 y.1.1) blk 0 ps.attach.toArray.size w:=by intro m os dk hdk x y;refine (hc x.1 x.2 y.1 y.2 _ (hgb m os dk)).mono fun e w' ⟨he,n,os',hw⟩=>⟨he,n,os',hw⟩
 have hcon:=Any.slices_SortFunc Tryz.sortRow (fun (x:{p // p∈ps})=>x.1.2) (fun x=>by obtain ⟨q,c,e⟩:=h.shape x.1 x.2;show x.1.2.oneCell'=true;rw [e];rfl) (fun x y=>cf x.1.1 y.1.1) (ag2 (f:=fun (x:{p // p∈ps})=>x.1.1) h0 hz ha ht) g cb blk 0 cap ps.attach.toArray w eg hcmp hH Ae (by rw [hsize];omega);rw [hsize] at hcon;refine hcon.mono fun e w' ⟨he,d',m,os,D5,zm,hw⟩=>⟨he,by rw [hw];exact hgb m os d',d'.toList.map (·.1),?_,?_,?_,fun p hp=>by obtain ⟨x,_,rfl⟩:=bI.1 hp;exact x.2⟩
 ·obtain ⟨hsz,_,kB⟩:=D5
  have e1:d'.extract 0 ps.length=d':=by rw [<- hsize,<- hsz];exact Array.extract_size
  have e2:ps.attach.toArray.extract 0 ps.length=ps.attach.toArray:=by rw [<- hsize];exact Array.extract_size
  rw [e1,e2] at kB;have h3:(d'.toList.map (·.1)).Perm ps:=by have h2:=kB.map (fun (x:{p // p∈ps})=>x.1);rw [List.toList_toArray,List.attach_map_subtype_val] at h2;exact h2
  exact h3.map _
 ·obtain ⟨hsz,_,_⟩:=D5
  rw [hsize] at hsz;rw [jA,sI,mY];intro i j hi hj hij;have hi':i<d'.size:=by simpa using hi
  have hj':j<d'.size:=by simpa using hj
  have h3:=zm i j (aF _) hij (by omega);rw [getElem!_pos d' j hj',getElem!_pos d' i hi'] at h3;simp only [ltOf,decide_eq_false_iff_not] at h3;have h4:=ha ((d'[i]'hi').1.1) ((d'[j]'hj').1.1);show cf ((d'.toList[i]'(by simpa using hi)).1.1) ((d'.toList[j]'(by simpa using hj)).1.1)<=0;rw [Array.getElem_toList,Array.getElem_toList];omega
 ·have hd:d'.toList.length=ps.length:=by have:=D5.1;rw [hsize] at this;simpa using this
  have hmem:∀p∈d'.toList.map (·.1),p∈ps:=fun p hp=>by obtain ⟨x,_,rfl⟩:=bI.1 hp;exact x.2
  refine ⟨?_,fun p hp=>h.shape p (hmem p hp),fun p hp=>?_⟩
  ·have h4:=au.sorted (enc:=fun (x:{p // p∈ps})=>x.1.2) (n:=m) (os:=os) (ts:=d'.toList) (vs:=ps.map (·.2)) (by rw [og];exact hown) (by rw [og];exact hd)
   rw [og] at h4;rw [hw,jA];exact h4
  ·have h5:=h.row p (hmem p hp)
   rw [hw];refine aq.keep h5 fun b hb hbl=>(hgb m os d').block b hbl fun e=>hb e.symm
theorem Y4 (W:World):∃n os,W=grow (W.drewN n) os:=⟨0,#[],by rw [grow_empty];rfl⟩
end
section
open Go.RowKit Go.Deep
theorem Nt (b:List Int):∀l:List (List Int),jd (l++[b])=if l.getLast? = some b then jd l else jd l++[b]
 | []=>by simp [jd]
 | [a]=>by
  by_cases h:a=b
  ·subst h;simp [jd]
  ·have h2:¬b=a:=fun e=>h e.symm
   simp [jd,h,h2]
 | a::c::l=>by
  have ih:=Nt b (c::l)
  have e1:(a::c::l).getLast? = (c::l).getLast?:=by simp [List.getLast?_cons_cons]
  rw [cm,jd,ih,e1]
  have e2:((c::l)++[b]).head? = some c:=rfl
  have e3:jd (a::c::l)=if (c::l).head? = some a then jd (c::l) else a::jd (c::l):=by rw [jd]
  have e4:(c::l).head? = some c:=rfl
  rw [e2,e3,e4]
  by_cases h:some c=some a<;>by_cases h2:(c::l).getLast? = some b
  ·rw [if_pos h,if_pos h2,if_pos h2];exact (if_pos h).symm
  ·rw [if_pos h,if_neg h2,if_neg h2,if_pos h]
  ·rw [if_neg h,if_pos h2,if_pos h2,if_neg h]
  ·rw [if_neg h,if_neg h2,if_neg h2,if_neg h];rfl
def BF (xs:List (List Int)) (j:Nat):Bool:=decide (0<j/\gl xs j=gl xs (j - 1))
theorem Ux (xs:List (List Int)):∀j,j<=xs.length->(dH (BF xs) j).map (gl xs)=jd (xs.take j)
 | 0,_=>by simp [dH,jd]
 | j+1,h=>by
  have aiJ:(xs.take j).getLast? = if j=0 then none else some (gl xs (j - 1)):=by
   by_cases h0:j=0
   ·subst h0;simp
   ·rw [if_neg h0,List.getLast?_eq_getElem?,jl,show min j xs.length=j by omega,List.getElem?_take_of_lt (by omega)]
    simp [gl,show j - 1<xs.length by omega]
  rw [tF,aek (by omega),Nt,aiJ,<- Ux xs j (by omega)]
  unfold BF
  by_cases h0:j=0
  ·subst h0;simp
  ·rw [if_neg h0]
   by_cases e:gl xs j=gl xs (j - 1)
   ·rw [decide_eq_true ⟨by omega,e⟩,if_pos rfl,if_pos (by rw [e])]
   ·rw [decide_eq_false (fun q=>e q.2),if_neg (by decide),if_neg (by intro q;injection q with q;exact e q.symm),cg];rfl
theorem Rc (f:Nat) (lb:Array Value) (eg:∀args w,(callFunc f args).run Tryz.prog w=.ok (.enter f args) w) {base:Nat} {w:World} {v:Value} {ps:List (List Int×Value)} (h:sk base w v ps) (hn:ps.length<=1000000)
  (hf:∀p∈ps,∀q∈ps,∀W,w.grownBy W v.ownBlock->Calls Tryz.prog f (#[p.2,q.2]++lb) W fun e W'=>e=.returned (.bool (decide (p.1=q.1)))/\∃m,W'=W.drewN m) :
  Calls Tryz.prog 82 #[v,.func (.func f) #[] lb] w fun e w'=>w.grownBy w' v.ownBlock/\∃v' ps',e=.returned v'/\ps'.map (·.1)=jd (ps.map (·.1))/\sk base w' v' ps'/\∀p∈ps',p∈ps:=by
 have hown:=h.own;obtain ⟨q,cap,hv,_⟩:=hown.form (n:=ps.length) (by simp);obtain ⟨_,⟨h1,h2⟩ | ⟨g,cap',cur,h1,_⟩⟩:=hown
 ·have hp:ps=[]:=by simpa using h2
  subst hp;subst h1;have h0:¬(0:Int)≥2:=by decide
  go_in;go_wp2;go_ret;exact ⟨x6 _ _,.slice none 0 0,rfl,[],rfl,h,by simp⟩
 rw [hv] at h1;injection h1 with h1 _ _;subst h1;subst hv;have hown:=h.own;have og:(ps.map (·.2)).length=ps.length:=by simp
 have hat:∀j,j<ps.length->∃p,p∈ps/\mP (ps.map (·.2)) j=p.2/\gl (ps.map (·.1)) j=p.1:=fun j hj=>⟨ps[j],jy hj,by simp [mP,hj],by simp [gl,hj]⟩;have hcon:=Ws (P:=BF (ps.map (·.1))) f lb eg (base:=base) (w:=w) (bk:=g) (cap:=cap) (vs:=ps.map (·.2)) (by rw [og];exact hown) (by rw [og];exact hn) rfl
  (fun j hj=>by
   obtain ⟨p,hp,e,_⟩:=hat j (by simpa using hj);obtain ⟨q,c,e2⟩:=h.shape p hp
   exact ⟨q,_,c,by rw [e,e2]⟩)
  (fun j h0 hj W hW=>by
   obtain ⟨p,hp,e1,e2⟩:=hat j (by simpa using hj);obtain ⟨r,hr,e3,e4⟩:=hat (j - 1) (by have:j<ps.length:=(by simpa using hj);omega);rw [e1,e3];have hd:BF (ps.map (·.1)) j=decide (p.1=r.1):=by
    unfold BF;rw [e2,e4];by_cases e:p.1=r.1
    ·rw [decide_eq_true ⟨h0,e⟩,decide_eq_true e]
    ·rw [decide_eq_false (fun q=>e q.2),decide_eq_false e]
   rw [hd]
   exact hf p hp r hr W hW)
 rw [og] at hcon;refine hcon.mono ?_;rintro e w' ⟨m,rfl,ho,hg⟩;have hkm:∀p∈(dH (BF (ps.map (·.1))) ps.length).map (fun j=>ps.getD j ([],undef)),p∈ps:=fun p hp=>by obtain ⟨j,hj,rfl⟩:=bI.1 hp;have hj:j<ps.length:=bu.1 (gP.1 hj).1;rw [rP,kQ hj];exact jy hj
 have hks:∀j∈dH (BF (ps.map (·.1))) ps.length,j<ps.length:=fun j hj=>bu.1 (gP.1 hj).1;refine ⟨hg,_,(dH (BF (ps.map (·.1))) ps.length).map (fun j=>ps.getD j ([],undef)),rfl,?_,⟨?_,fun p hp=>h.shape p (hkm p hp),fun p hp=>?_⟩,hkm⟩
 ·have h5:=Ux (ps.map (·.1)) ps.length (by simp)
  rw [BW (by simp)] at h5;rw [<- h5,jA];refine lz fun j hj=>?_;have:=hks j hj;simp [gl,this]
 ·rw [jA]
  have e:(dH (BF (ps.map (·.1))) ps.length).map ((fun x=>x.2) ∘ fun j=>ps.getD j ([],undef))=(dH (BF (ps.map (·.1))) ps.length).map (mP (ps.map (·.2))):=by refine lz fun j hj=>?_;have:=hks j hj;simp [mP,this]
  rw [e];exact ho
 ·exact aq.keep (h.row p (hkm p hp)) fun b hb hbl=>hg.block b hbl fun e=>hb e.symm
theorem sk.there {base:Nat} {w W:World} {v:Value} {ps:List (List Int×Value)} (h:sk base w v ps) (hW:w.grownBy W v.ownBlock):∀s∈ps,af Any W s.2 s.1:=fun s hs=>(aq.keep (h.row s hs) fun b hb hbl=>hW.block b hbl fun e=>hb e.symm).sub fun _ _ _=>trivial
theorem D6 {base:Nat} {w:World} {v:Value} {ps:List (List Int×Value)} (h:sk base w v ps) (hn:ps.length<=1000000) (hl:∀p∈ps,p.1.length<=1000000) :
  Calls Tryz.prog 82 #[v,.func (.func 24) #[] #[]] w fun e w'=>w.grownBy w' v.ownBlock/\∃v' ps',e=.returned v'/\ps'.map (·.1)=jd (ps.map (·.1))/\sk base w' v' ps'/\∀p∈ps',p∈ps :=
 Rc 24 #[] (enters_of Tryz.func24 (by kernel_rfl) rfl) h hn fun p hp r hr W hW=>Gx Any Any W p.2 r.2 p.1 r.1 (h.there hW p hp) (h.there hW r hr) (hl p hp) (hl r hr)
end
end Go.Proofs.YthgabkgmkolobaaGreat
