/- Package intset: Intersect at sets; split.compatible, Compatible, pair, All. split.pair, .. -/
import Derived.Test.YthgabkgmkolobaaGreatQ35
set_option maxRecDepth 100000
set_option maxHeartbeats 2000000
namespace Go.Proofs.YthgabkgmkolobaaGreat
section
open Go.RowKit Go.Shelf Go.Deep
theorem combine_t (S:Nat->Prop) (w:World) (v u:Value) (a b:List Int) (h:ah S w v a) (h2:ah S w u b) (ha:qc a) (hb:qc b) (hl:a.length<=1000000) (hl2:b.length<=1000000) :
  Calls Tryz.prog 213 #[v,u,.func (.func 214) #[] #[]] w fun e w'=>Up w w'/\∃u,e=.returned (.tuple #[u,.int .i64 0])/\ax w.heap.size 3 w' u ((kB a b).map (Value.int .i64)):=by
 have sU:=Up.alloc w (.cells #[.func (.func 214) #[] #[]] 218);have hb0:=nW w (.func (.func 214) #[] #[]) 218;obtain ⟨p,cap,rfl,-,-⟩:=ay.open h;obtain ⟨p2,fS,rfl,-,-⟩:=ay.open h2;have H:Hid (ah S w (.slice p a.length cap) a):=h;have H2:Hid (ah S w (.slice p2 b.length fS) b):=h2;have HA:=aa ha;have HB:=aa hb;have EZ:=aa sU;have mX:=aa hb0
 have jG:Hid (∀W,Up w W->Calls Tryz.prog 118 #[.slice p a.length cap] W fun e w'=>e=.returned (.int .i64 0)/\W=w'):=fun W hW=>by have h:=AK S W _ a (ah.keep H.out (hW.kept _)) hl;rw [uW.2 ha] at h;exact h
 have uT:Hid (∀W,Up w W->Calls Tryz.prog 118 #[.slice p2 b.length fS] W fun e w'=>e=.returned (.int .i64 0)/\W=w'):=fun W hW=>by have h:=AK S W _ b (ah.keep H2.out (hW.kept _)) hl2;rw [uW.2 hb] at h;exact h
 have REST:Hid (∀w3 B1 B2 b5 b8 b9 c1 c2,Up w w3->w3.cell? ⟨B1,0,none⟩=some (.int .i64 64)->w3.cell? ⟨B2,0,none⟩=some (.func (.func 258) #[] #[.pointer (some ⟨b5,0,none⟩),.pointer (some ⟨b8,0,none⟩),.pointer (some ⟨b9,0,none⟩)])->w3.cell? ⟨b5,0,none⟩=some (.func (.func 214) #[] #[]) ->
   w3.cell? ⟨b8,0,none⟩=some (.func (.func 193) #[] #[.pointer (some ⟨c1,0,none⟩)])->w3.cell? ⟨b9,0,none⟩=some (.func (.func 193) #[] #[.pointer (some ⟨c2,0,none⟩)])->w3.cell? ⟨c1,0,none⟩=some (.slice p a.length cap)->w3.cell? ⟨c2,0,none⟩=some (.slice p2 b.length fS) ->
   Calls Tryz.prog 135 #[.func (.func 196) #[] #[.pointer (some ⟨B1,0,none⟩),.pointer (some ⟨B2,0,none⟩)]] w3 (E9 w3 (kB a b))):=fun w3 B1 B2 b5 b8 b9 c1 c2 hu q1 q2 q5 q8 q9 r1 r2=>by
  have hks:∀W',KS (· < w3.heap.size) w3 W'->∀b o x,w3.cell? ⟨b,o,none⟩=some x->W'.cell? ⟨b,o,none⟩=some x:=fun W' hW b o x hc=>(hW.cell (p:=⟨b,o,none⟩) (eG w3 _ hc)).trans hc
  refine OC w3 B1 B2 64 (af _) (fun x=>a.contains x&&b.contains x) 258 _ (enters_of Tryz.func258 (by kernel_rfl) rfl) q1 q2 fun k hk W' pM=>?_
  exact inter1_t (· < w3.heap.size) W' b5 b8 b9 c1 c2 _ _ a b k (hks W' pM _ _ _ q5) (hks W' pM _ _ _ q8) (hks W' pM _ _ _ q9) (hks W' pM _ _ _ r1) (ay.keep (ah.sub (ah.keep H.out (hu.kept _)) fun b _ hb=>hb) fun b hb _=>pM b hb) hl HA.out.xD (hks W' pM _ _ _ r2) (ay.keep (ah.sub (ah.keep H2.out (hu.kept _)) fun b _ hb=>hb) fun b hb _=>pM b hb) hl2 HB.out.xD
 have FIN:Hid (∀w3 e w',Up w w3->E9 w3 (kB a b) e w'->∃u,e=.returned u/\Up w w'/\ax w.heap.size 3 w' u ((kB a b).map (Value.int .i64))):=fun w3 e w' hu ⟨h1,u,he,h2⟩=>⟨u,he,hu.trans h1,by
  obtain ⟨hl,h | ⟨g,cap,cur,hv,hg,hc,hr⟩⟩:=h2
  ·exact ⟨hl,.inl h⟩
  ·exact ⟨hl,.inr ⟨g,cap,cur,hv,aJ hu.size hg,hc,hr⟩⟩⟩
 clear h h2 ha hb sU hb0
 go_enter Tryz.func213,Tryz.ntmps213
 go_wp2_with fail;generalize w.alloc (.cells #[.func (.func 214) #[] #[]] 218)=w0 at *;refine (jG.out w0 EZ.out).mono ?_;rintro e w0' ⟨rfl,rfl⟩;go_wp2_with fail;refine (uT.out w0 EZ.out).mono ?_;rintro e w0' ⟨rfl,rfl⟩;go_wp2_with fail;refine (S5 _ _ _ _).mono ?_;rintro e w1 ⟨rfl,hw1⟩;have bA:=Up.alloc w0 (.cells #[.slice p a.length cap] 26);have hb1:=nW w0 (.slice p a.length cap) 26;rw [<- hw1] at bA hb1;have cA:=aa bA;have lK:=aa hb1;clear hw1 bA hb1;go_wp2_with fail;refine (S5 _ _ _ _).mono ?_;rintro e w2 ⟨rfl,hw2⟩
 have aK:=Up.alloc w1 (.cells #[.slice p2 b.length fS] 26);have hb2:=nW w1 (.slice p2 b.length fS) 26;rw [<- hw2] at aK hb2;have bD:=aa aK;have ry:=aa hb2;clear hw2 aK hb2;go_wp2_with fail;obtain ⟨t1,t2,t3⟩:=wI w2 (.func (.func 193) #[] #[.pointer (some ⟨w0.heap.size,0,none⟩)]) (.func (.func 193) #[] #[.pointer (some ⟨w1.heap.size,0,none⟩)]) 85 85;generalize (w2.alloc (.cells #[.func (.func 193) #[] #[.pointer (some ⟨w0.heap.size,0,none⟩)]] 85)).alloc (.cells #[.func (.func 193) #[] #[.pointer (some ⟨w1.heap.size,0,none⟩)]] 85)=w3 at *
 refine (Jy _ _ _ _).mono ?_;rintro e w4 ⟨rfl,hw4⟩;obtain ⟨m1,m2,m3⟩:=wI w3 (.int .i64 64) (.func (.func 258) #[] #[.pointer (some ⟨w.heap.size,0,none⟩),.pointer (some ⟨w2.heap.size,0,none⟩),.pointer (some ⟨w2.heap.size+1,0,none⟩)]) 3 85;rw [<- hw4] at m1 m2 m3;have h24:=t1.trans m1;have h14:=bD.out.trans h24;have h04:=cA.out.trans h14;have kX:Hid (Up w w4):=EZ.out.trans h04;have HR:=aa (REST.out w4 _ _ _ _ _ _ _ kX.out m2 m3 (h04.cell mX.out) (m1.cell t2) (m1.cell t3) (h14.cell lK.out) (h24.cell ry.out));clear hw4 m1 m2 m3 t1 t2 t3 h24 h14 h04;go_wp2_with fail
 refine HR.out.mono ?_;rintro e w5 hp;obtain ⟨u,rfl,h4,h5⟩:=FIN.out w4 e w5 kX.out hp;have H4:=aa h4;have H5:=aa h5;clear hp h4 h5;go_wp2_with fail;exact ⟨rfl,.tuple #[_,_],by simp [results,Tryz.results213,go_sem],H4.out,_,rfl,H5.out⟩
theorem X7 (S:Nat->Prop) (w:World) (v u:Value) (a b:List Int) (h:ah S w v a) (h2:ah S w u b) (ha:qc a) (hb:qc b) (hl:a.length<=1000000) (hl2:b.length<=1000000) :
  Calls Tryz.prog 163 #[v,u] w fun e w'=>Up w w'/\∃u,e=.returned (.tuple #[u,.int .i64 0])/\ax w.heap.size 3 w' u ((kB a b).map (Value.int .i64)):=by
 have HC:=aa (combine_t S w v u a b h h2 ha hb hl hl2);obtain ⟨p,cap,rfl,-,-⟩:=ay.open h;obtain ⟨p2,fS,rfl,-,-⟩:=ay.open h2;clear h h2
 go_enter Tryz.func163,Tryz.ntmps163
 go_wp2_with fail;refine HC.out.mono ?_;rintro e w' ⟨h1,u,rfl,h2⟩;have H1:=aa h1;have H2:=aa h2;clear h1 h2;go_wp2_with fail;exact ⟨rfl,.tuple #[_,_],by simp [results,Tryz.results163,go_sem],H1.out,_,rfl,H2.out⟩
theorem compat_t (S:Nat->Prop) (w:World) (v u:Value) (a b:List Int) (h:ah S w v a) (h2:ah S w u b) (ha:qc a) (hb:qc b) (hl:a.length<=1000000) (hl2:b.length<=1000000) :
  Calls Tryz.prog 119 #[v,u] w fun e w'=>e=.returned (.bool (rT a b))/\Up w w':=by
 have HC:=aa (X7 S w v u a b h h2 ha hb hl hl2);have HF:Hid (rT a b=(decide ((kB a b).length=0) || decide ((kB a b).length=a.length) || decide ((kB a b).length=b.length))):=rfl;obtain ⟨p,cap,rfl,-,-⟩:=ay.open h;obtain ⟨p2,fS,rfl,-,-⟩:=ay.open h2;have HM:Hid ((kB a b).length<=64):=rS _ _;clear h h2
 go_enter Tryz.func119,Tryz.ntmps119
 go_wp2_with fail;refine HC.out.mono ?_;rintro e w' ⟨h1,u,rfl,h2⟩;obtain ⟨q,c,rfl,_⟩:=h2.form (n:=(kB a b).length) (by rw [aG]);have H1:=aa h1;clear h1 h2;generalize (kB a b).length=m at *;generalize a.length=x at *;generalize b.length=y at *;by_cases e0:m=0
 ·have d:((m:Int)==0)=true:=by simpa using e0
  have HE:=aa e0;clear e0;go_wp2_with fail;go_ret;exact ⟨aV (by rw [HF.out,decide_eq_true HE.out];rfl),H1.out⟩
 have d0:((m:Int)==0)=false:=beq_eq_false_iff_ne.2 (by omega);have Hi:=aa e0;clear e0;by_cases e1:m=x
 ·have d1:((m:Int)==(x:Int))=true:=by subst e1;simp
  have HE:=aa e1;clear e1;go_wp2_with fail;go_ret;exact ⟨aV (by rw [HF.out,decide_eq_true HE.out];simp),H1.out⟩
 have d1:((m:Int)==(x:Int))=false:=beq_eq_false_iff_ne.2 (by omega);have Na:=aa e1;clear e1;by_cases e2:m=y
 ·have d2:((m:Int)==(y:Int))=true:=by subst e2;simp
  have HE:=aa e2;clear e2;go_wp2_with fail;go_ret;exact ⟨aV (by rw [HF.out,decide_eq_true HE.out];simp),H1.out⟩
 ·have d2:((m:Int)==(y:Int))=false:=beq_eq_false_iff_ne.2 (by omega)
  have qO:=aa e2;clear e2;go_wp2_with fail;go_ret;exact ⟨aV (by rw [HF.out,decide_eq_false Hi.out,decide_eq_false Na.out,decide_eq_false qO.out];rfl),H1.out⟩
theorem R5 {s:List Int} (h:qc s):s.length<=64:=by
 have h1:=nK h.xD (vM (fun _=>true) 64) (fun x hx=>vF.2 (by have:=h.bd x hx;exact ⟨by omega,by omega,rfl⟩));have h2:=rS (fun _=>true) 64;omega
def Le (l:List (List Int)):Int:=if oL l<0 then 0 else oL l
def Lf (l:List (List Int)):Int:=if oL l<0 then 0 else pairK l
def DB (l:List (List Int)):Bool:=decide (oL l<0)
theorem pair_t (S:Nat->Prop) (w:World) (v:Value) (l:List (List Int)) (h:aR S w v l) (ho:∀k,k<l.length->qc (gl l k)) (hn:l.length<=1000) :
  Calls Tryz.prog 66 #[v] w fun e w'=>e=.returned (.tuple #[.int .i64 (Le l),.int .i64 (Lf l),.bool (DB l)])/\Up w w':=by
 obtain ⟨p,cap,rfl,-,-⟩:=dW h;have H:Hid (aR S w (.slice p l.length cap) l):=h;have HO:=aa ho;have rz:Hid ((∀a,a<l.length->decide (0<=pg l a)=false)->Le l=0/\Lf l=0/\DB l=true):=fun hno=>by have h1:oL l = -1:=fI hno;unfold Le Lf DB;rw [h1];exact ⟨rfl,rfl,rfl⟩
 have HYES:Hid (∀i k,i<l.length->k<l.length->(∀a,a<i->decide (0<=pg l a)=false)->(∀b,b<k->(decide (i<b)&&!rT (gl l i) (gl l b))=false)->i<k->rT (gl l i) (gl l k)=false->Le l=i/\Lf l=k/\DB l=false):=fun i k hi hk h1 h2 hik hc=>by
  have r:pg l i=k:=iK hk h2 (by rw [decide_eq_true hik,hc];rfl);have q:oL l=i:=iK hi h1 (by rw [r];exact decide_eq_true (by omega));have q2:pairK l=k:=by unfold pairK;rw [q,cZ];exact r
  unfold Le Lf DB;rw [q,q2,if_neg (by omega),if_neg (by omega)];exact ⟨rfl,rfl,decide_eq_false (by omega)⟩
 have FB:Hid (∀i,(∀b,b<l.length->(decide (i<b)&&!rT (gl l i) (gl l b))=false)->decide (0<=pg l i)=false):=fun i hno=>by have h1:pg l i = -1:=fI hno;rw [h1];rfl
 have n3:(l.length:Int)<=1000:=by omega
 clear h ho
 go_enter Tryz.func66,Tryz.ntmps66
 go_wp2_with fail
 go_loopw [5,6,9] (fun _ _ i wr=>∃k:Nat,k<=l.length/\i=.int .i64 k/\Hid (∀a,a<k->decide (0<=pg l a)=false)/\Hid (Up w wr)) (fun _ _ i _=>l.length - (intOf i).toNat)
 case atStart=>exact ⟨0,aL _,rfl,fun j hj=>absurd hj (bG _),Up.refl _⟩
 case round =>
  obtain ⟨i,hi,rfl,hd,hU⟩:=hrel;obtain ⟨wo,rfl⟩:∃wo:World,wo=wr:=⟨_,rfl⟩;by_cases hlt:i<l.length
  ·have i1:(0:Int)<=(i:Int):=CG _
   have i2:(i:Int)<(l.length:Int):=Ai.2 hlt;(have i3:(i:Int)<1000:=by omega);go_wp2_with fail
   go_loopw [6] (fun i2 wr=>∃k:Nat,i+1<=k/\k<=l.length/\i2=.int .i64 k/\Hid (∀b,b<k->(decide (i<b)&&!rT (gl l i) (gl l b))=false)/\Hid (Up w wr)) (fun i2 _=>l.length - (intOf i2).toNat)
   case atStart=>exact ⟨i+1,af _,by omega,by go_num,fun b hb=>by rw [decide_eq_false (by omega)];rfl,hU⟩
   case round =>
    obtain ⟨k,kW,hk,rfl,hd2,kL⟩:=hrel;obtain ⟨wq,rfl⟩:∃wq:World,wq=wr:=⟨_,rfl⟩;by_cases V9:k<l.length
    ·obtain ⟨b,off,q,c,rfl,hc,hr⟩:=gP H.out hlt
     obtain ⟨b2,off2,q2,c2,e2,hc2,hr2⟩:=gP H.out V9;cases e2;have jG:=aa (kL.out.cell hc);have uT:=aa (kL.out.cell hc2);have k1:(0:Int)<=(k:Int):=CG _;have k2:(k:Int)<(l.length:Int):=Ai.2 V9;have k3:(k:Int)<1000:=by omega
     have wU:Hid (∀W,Up wq W->Calls Tryz.prog 119 #[.slice q (gl l i).length c,.slice q2 (gl l k).length c2] W fun e w'=>e=.returned (.bool (rT (gl l i) (gl l k)))/\Up W w'):=fun W hW =>
      compat_t S W _ _ _ _ (ah.keep hr ((kL.out.trans hW).kept _)) (ah.keep hr2 ((kL.out.trans hW).kept _)) (HO.out i hlt) (HO.out k V9) (by have:=R5 (HO.out i hlt);omega) (by have:=R5 (HO.out k V9);omega)
     (have bu:Hid (i<k):=by unfold Hid;omega);clear hc hc2 hr hr2;have fT:Hid (Up wq (wq.drewN 1)):=Up.drewN wq 1;generalize hcb:rT (gl l i) (gl l k)=cb at *;have uf:=aa hcb;clear hcb;generalize (gl l i).length=x at *;generalize (gl l k).length=y at *;go_wp2_with fail
     go_region_held3 (fun w'=>Hid (Up wq w')/\w'.cell? ⟨b,off+i,none⟩=some (.slice q x c)/\w'.cell? ⟨b,off+k,none⟩=some (.slice q2 y c2)) (exact ⟨fT,fT.out.cell jG.out,fT.out.cell uT.out⟩) (first
      | (go_at_call 119;refine (wU.out _ fT.out).mono ?_;rintro e w9 ⟨rfl,Vq⟩;have fT:Hid (Up wq w9):=fT.out.trans Vq;clear Vq))
     have eo:Hid (Up w _):=kL.out.trans fT.out;clear fT wU jG uT;cases cb
     ·go_wp2_with fail
      obtain ⟨y1,y2,y3⟩:=HYES.out i k hlt V9 hd.out hd2.out bu.out uf.out;exact ⟨rfl,.tuple #[.int .i64 (i:Int),.int .i64 (k:Int),.bool false],by simp [results,Tryz.results66,go_sem],by rw [y1,y2,y3],eo.out⟩
     ·go_wp2_with fail
      go_roundw
      case rel=>exact ⟨k+1,by omega,by omega,by go_num,fun b' hb'=>by
       by_cases e:b'=k
       ·subst e;rw [uf.out];simp
       ·exact hd2.out b' (by omega),eo⟩
      case measure=>simp [intOf];omega
    ·obtain rfl:k=l.length:=by omega
     have HR:=aa (FB.out i hd2.out);go_wp2_with fail
     go_roundw
     case rel=>exact ⟨i+1,by omega,by go_num,fun a ha=>by
      by_cases e:a=i
      ·subst e;exact HR.out
      ·exact hd.out a (by omega),kL⟩
     case measure=>simp [intOf];omega
  ·obtain rfl:i=l.length:=by omega
   obtain ⟨y1,y2,y3⟩:=rz.out hd.out;have HY:Hid (Le l=0/\Lf l=0/\DB l=true):=⟨y1,y2,y3⟩;clear y1 y2 y3;go_wp2_with fail;exact ⟨rfl,.tuple #[.int .i64 0,.int .i64 0,.bool true],by simp [results,Tryz.results66,go_sem],by rw [HY.out.1,HY.out.2.1,HY.out.2.2],hU.out⟩
end
section
theorem two_le {L:List Int} {y z:Int} (h1:y∈L) (h2:z∈L) (hne:y≠z):2<=L.length:=by
 match L,h1,h2 with
 | [a],h1,h2=>exact absurd ((dP.1 h1).trans (dP.1 h2).symm) hne
 | _::_::_,_,_=>simp
def LamR (a b:List Int):Prop:=((∀x∈a,x∉b)\/∀x∈a,x∈b)/\¬∀x,x∈a↔x∈b
theorem ZP:∀(F:List (List Int)) (U:List Int),U≠[]->U.Nodup->(∀s∈F,s.Nodup/\2<=s.length/\∀x∈s,x∈U)->F.Pairwise LamR->F.length+1<=U.length
 | [],U,hU,_,_,_=>by
  have:=Ak.2 hU
  show 0+1<=U.length
  omega
 | S::F,U,hU,hN,hF,hP=>by
  obtain ⟨hSn,hS2,hSU⟩:=hF S (by simp)
  obtain ⟨x,y,r,rfl⟩:∃x y r,S=x::y::r:=by
   match S,hS2 with
   | a::b::r,_=>exact ⟨a,b,r,rfl⟩
  have hxy:x≠y:=fun e=>(iR.1 hSn).1 (by rw [e];simp)
  have hxU:=hSU x (by simp)
  have hyU:=hSU y (by simp)
  rw [iI] at hP
  obtain ⟨YO,lD⟩:=hP
  have hlen:=List.length_erase_of_mem hxU
  have hpos:=Fv hxU
  have hin:∀T∈F,(x∈T↔y∈T):=fun T hT=>by
   rcases (YO T hT).1 with h | h
   ·exact ⟨fun e=>absurd e (h x (by simp)),fun e=>absurd e (h y (by simp))⟩
   ·exact ⟨fun _=>h y (by simp),fun _=>h x (by simp)⟩
  have ih:=ZP (F.map (·.erase x)) (U.erase x) (fun e=>by
    have:y∈U.erase x:=(Fp hN).2 ⟨fun e=>hxy e.symm,hyU⟩
    rw [e] at this;cases this) (hN.erase x) (fun s hs=>by
    obtain ⟨T,hT,rfl⟩:=cm.1 hs
    obtain ⟨hTn,V6,hTU⟩:=hF T (pH _ hT)
    refine ⟨hTn.erase x,?_,fun z hz=>?_⟩
    ·rcases (YO T hT).1 with h | h
     ·rw [List.erase_of_not_mem (h x (by simp))];exact V6
     ·obtain ⟨z,hz1,hz2⟩:∃z,z∈T/\z∉x::y::r:=by
       refine tK fun hno=>(YO T hT).2 fun z=>⟨h z,fun hz=>?_⟩
       exact tK fun hz2=>hno ⟨z,hz,hz2⟩
      refine two_le (y:=y) (z:=z) ((Fp hTn).2 ⟨fun e=>hxy e.symm,h y (by simp)⟩) ((Fp hTn).2 ⟨fun e=>hz2 (by rw [e];simp),hz1⟩) (fun e=>hz2 (by rw [<- e];simp))
    ·obtain ⟨h1,h2⟩:=(Fp hTn).1 hz
     exact (Fp hN).2 ⟨h1,hTU z h2⟩) (by
    rw [uD]
    refine lD.imp_of_mem fun {a b} ha hb hab=>?_
    have TR:=(hF a (pH _ ha)).1
    have xe:=(hF b (pH _ hb)).1
    have ma:∀z,z∈a.erase x↔z≠x/\z∈a:=fun z=>Fp TR
    have mb:∀z,z∈b.erase x↔z≠x/\z∈b:=fun z=>Fp xe
    refine ⟨?_,fun hall=>hab.2 fun z=>?_⟩
    ·rcases hab.1 with h | h
     ·exact .inl fun z hz hz2=>h z ((ma z).1 hz).2 ((mb z).1 hz2).2
     ·exact .inr fun z hz=>(mb z).2 ⟨((ma z).1 hz).1,h z ((ma z).1 hz).2⟩
    ·have hall2:∀z,z≠x->(z∈a↔z∈b):=fun z hz=>by
      have h:=hall z
      rw [ma,mb] at h
      exact ⟨fun e=>(h.1 ⟨hz,e⟩).2,fun e=>(h.2 ⟨hz,e⟩).2⟩
     by_cases e:z=x
     ·rw [e,hin a ha,hin b hb];exact hall2 y fun e=>hxy e.symm
     ·exact hall2 z e)
  rw [aG] at ih
  simp only [aT]
  omega
termination_by F=>F.length
decreasing_by simp
theorem R6 {aac:List ByteArray} {l:List (List Int)} (h:lu aac l) (h3:3<=aac.length):3+(aP l).length+(aac.length - 1)<=64:=by
 have hr:=Cv (n:=aac.length) (by omega);have hle:=h.le;have fe:(dZ aac.length [0]).Nodup:=((Mk _).filter _).imp fun h e=>by omega
 have key:=ZP (aP l).reverse (dZ aac.length [0]) (fun e=>by rw [e] at hr;simp at hr;omega) fe (fun s hs=>by
  have hs:=yq.1 (List.mem_reverse.1 hs);have ho:=h.Ct s hs
  exact ⟨ho.set.xD.imp fun h e=>by omega,ho.len.1,fun x hx=>yt.2 (ho.bd x hx)⟩) (by
  rw [List.pairwise_reverse,nS];intro i k hi hk hik;have ei:gl (aP l) i=(aP l)[i]:=by simp [gl,hi]
  have ek:gl (aP l) k=(aP l)[k]:=by simp [gl,hk]
  rw [<- ei,<- ek];refine ⟨?_,fun hall=>?_⟩
  ·by_cases hc:∃x,x∈gl (aP l) k/\x∈gl (aP l) i
   ·obtain ⟨x,h1,h2⟩:=hc
    exact .inr (h.down hik hk h2 h1)
   ·exact .inl fun x h1 h2=>hc ⟨x,h1,h2⟩
  ·have:=h.up (i:=k) (k:=i) hk hi (by omega) fun x hx=>(hall x).2 hx
   omega)
 rw [List.length_reverse] at key;omega
end
end Go.Proofs.YthgabkgmkolobaaGreat
