/- The contracts of layer 32's reference: .. -/
import Derived.Test.YthgabkgmkolobaaGreatQ44
set_option maxRecDepth 100000
set_option maxHeartbeats 8000000
namespace Go.Proofs.YthgabkgmkolobaaGreat
section
open Go.RowKit Go.Deep
theorem afu (S:Nat->Prop) (w:World) (v:Value) (n:Int) (l:List (List Int)) (h:aT S w v l) (hn:l.length<=1000000) (hr:∀k,(gl l k).length<=1000000) :
  Calls Tryz.prog 161 #[.int .i64 n,v] w fun e w'=>e=.returned (.tuple #[.int .i64 (Kq n l),.int .i64 (Kr n l),.bool (Eh n l),.int .i64 (gh n l)])/\Up w w':=by
 have HF:Hid (gh n l=if 64<l.length then 4 else if n<1\/32<n then 2 else bf (fun k=>aV n (gl l k)) l.length):=rfl;obtain ⟨p,cap,rfl,-,-⟩:=dy h;have H:Hid (aT S w (.slice p l.length cap) l):=h;have HR:=aa hr;have I3:Hid (∀z,gh n l=z->z≠0->Kq n l=0/\Kr n l=0/\Eh n l=false/\gh n l=z):=fun z e h0=>by obtain ⟨a,b,c⟩:=ahh (n:=n) (l:=l) (by rw [e];exact h0);exact ⟨a,b,c,e⟩
 clear h hr;by_cases h1:64<l.length
 ·have HE:=aa (I3.out 4 (by rw [HF.out,if_pos h1]) (by decide))
  have d1:decide ((64:Int)<(l.length:Int))=true:=decide_eq_true (by omega);clear h1;go_in;go_wp2_with fail;exact ⟨rfl,.tuple #[.int .i64 0,.int .i64 0,.bool false,.int .i64 4],by simp [results,Tryz.results161,go_sem],by rw [HE.out.1,HE.out.2.1,HE.out.2.2.1,HE.out.2.2.2],Up.refl _⟩
 have d1:decide ((64:Int)<(l.length:Int))=false:=decide_eq_false (by omega);by_cases h2:n<1
 ·have HE:=aa (I3.out 2 (by rw [HF.out,if_neg h1,if_pos (.inl h2)]) (by decide))
  have d2:decide (n<1)=true:=decide_eq_true h2;clear h1 h2;go_in;go_wp2_with fail;exact ⟨rfl,.tuple #[.int .i64 0,.int .i64 0,.bool false,.int .i64 2],by simp [results,Tryz.results161,go_sem],by rw [HE.out.1,HE.out.2.1,HE.out.2.2.1,HE.out.2.2.2],Up.refl _⟩
 have d2:decide (n<1)=false:=decide_eq_false h2;by_cases h3:32<n
 ·have HE:=aa (I3.out 2 (by rw [HF.out,if_neg h1,if_pos (.inr h3)]) (by decide))
  have d3:decide (32<n)=true:=decide_eq_true h3;clear h1 h2 h3;go_in;go_wp2_with fail;exact ⟨rfl,.tuple #[.int .i64 0,.int .i64 0,.bool false,.int .i64 2],by simp [results,Tryz.results161,go_sem],by rw [HE.out.1,HE.out.2.1,HE.out.2.2.1,HE.out.2.2.2],Up.refl _⟩
 have d3:decide (32<n)=false:=decide_eq_false h3;have qA:Hid (gh n l=bf (fun k=>aV n (gl l k)) l.length):=by unfold Hid;rw [HF.out,if_neg h1,if_neg (by omega)]
 have FI:l.length<=64:=by omega
 clear HF h1 h2 h3;go_in;go_wp2
 go_loopw [8,9] (fun i _ wr=>∃k:Nat,k<=l.length/\i=.int .i64 k/\Hid (Up w wr)/\Hid (∀j,j<k->aV n (gl l j)=0)) (fun i _ _=>l.length - (intOf i).toNat)
 case atStart=>exact ⟨0,aF _,rfl,Up.refl _,fun j hj=>absurd hj (aZ _)⟩
 case round =>
  obtain ⟨k,hk,rfl,hU,hd⟩:=hrel;obtain ⟨wo,rfl⟩:=eM wr;by_cases hlt:k<l.length
  ·obtain ⟨b,off,q,c,rfl,hc,NP⟩:=eZ (aT.keep H.out (hU.out.kept S)) hlt
   have gw:=aa (U9 S wo _ n (gl l k) NP (HR.out k));(have mG:Hid (aV n (gl l k)≠0->gh n l=aV n (gl l k)):=fun e=>by rw [qA.out];exact eX (f:=fun k=>aV n (gl l k)) hlt hd.out e);(have Ej:Hid (aV n (gl l k)=0->∀j,j<k+1->aV n (gl l j)=0):=fun e j hj=>if ej:j=k then by subst ej;exact e else hd.out j (by omega));(have i1:(0:Int)<=(k:Int):=by omega);(have i2:(k:Int)<(l.length:Int):=by omega);have aR:=aa hlt;have lu:=aa hU.out;clear NP hk hlt hU;generalize (gl l k).length=x at *;by_cases e0:aV n (gl l k)=0
   ·have HG:=aa (Ej.out e0)
    rw [e0] at gw;clear e0 mG Ej;go_wp2_with fail;refine gw.out.mono ?_;rintro e w2 ⟨rfl,j8⟩;have b7:=aa (lu.out.trans j8.up);clear j8;go_wp2
    go_roundw
    case rel=>exact ⟨k+1,aR.out,by go_num,b7.out,HG.out⟩
    case measure=>have:=aR.out;simp [intOf];omega
   ·have d4:(aV n (gl l k) != 0)=true:=by simpa using e0
    have HE:=aa (I3.out _ (mG.out e0) e0);clear e0 mG Ej;generalize aV n (gl l k)=z at *;go_wp2_with fail;refine gw.out.mono ?_;rintro e w2 ⟨rfl,j8⟩;have b7:=aa (lu.out.trans j8.up);clear j8;go_wp2_with fail;exact ⟨rfl,.tuple #[.int .i64 0,.int .i64 0,.bool false,.int .i64 z],by simp [results,Tryz.results161,go_sem],by rw [HE.out.1,HE.out.2.1,HE.out.2.2.1,HE.out.2.2.2],b7.out⟩
  ·obtain rfl:k=l.length:=by omega
   (have Vp:gh n l=0:=by rw [qA.out];exact cG hd.out);have NG:=aa Vp;have lu:=aa hU.out;have HO:Hid (∀j,j<l.length->eD (gl l j)):=fun j hj=>(qh.1 (hd.out j hj)).set;(have zv7:Hid ((∀a,a<l.length->decide (0<=ig l a)=false)->Kq n l=0/\Kr n l=0/\Eh n l=true/\gh n l=0):=fun h=>by obtain ⟨y1,y2,y3⟩:=UM Vp;have h1:iY l = -1:=dZ h;rw [y1,y2,y3];unfold G5 G6 Eg;rw [h1];exact ⟨rfl,rfl,rfl,Vp⟩);(have acp:Hid (∀i k,i<l.length->k<l.length->(∀a,a<i->decide (0<=ig l a)=false)->(∀b,b<k->(decide (i<b)&&!jo (gl l i) (gl l b))=false)->i<k->jo (gl l i) (gl l k)=false->Kq n l=i/\Kr n l=k/\Eh n l=false/\gh n l=0):=fun i k hi hk h1 h2 hik hc=>by obtain ⟨y1,y2,y3⟩:=UM Vp;have r:ig l i=k:=gG hk h2 (by rw [decide_eq_true hik,hc];rfl);have q:iY l=i:=gG hi h1 (by rw [r];exact decide_eq_true (by omega));(have q2:J6 l=k:=by unfold J6;rw [q,fc];exact r);rw [y1,y2,y3];unfold G5 G6 Eg;rw [q,q2,if_neg (by omega),if_neg (by omega)];exact ⟨rfl,rfl,decide_eq_false (by omega),Vp⟩);(have ED:Hid (∀i,(∀b,b<l.length->(decide (i<b)&&!jo (gl l i) (gl l b))=false)->decide (0<=ig l i)=false):=fun i hno=>by have h1:ig l i = -1:=dZ hno;rw [h1];rfl);clear hlt hk hU hd qA Vp I3;go_wp2
   go_loopw [10,11] (fun i _ wr=>∃k:Nat,k<=l.length/\i=.int .i64 k/\Hid (∀a,a<k->decide (0<=ig l a)=false)/\Hid (Up w wr)) (fun i _ _=>l.length - (intOf i).toNat)
   case atStart=>exact ⟨0,aF _,rfl,fun j hj=>absurd hj (aZ _),lu.out⟩
   case round =>
    obtain ⟨i,hi,rfl,hd,hU⟩:=hrel;obtain ⟨wo,rfl⟩:=eM wr;by_cases hlt:i<l.length
    ·have i1:(0:Int)<=(i:Int):=vP _
     have i2:(i:Int)<(l.length:Int):=tX.2 hlt;(have i3:(i:Int)<1000:=by omega);go_wp2
     go_loopw [11] (fun i2 wr=>∃k:Nat,i+1<=k/\k<=l.length/\i2=.int .i64 k/\Hid (∀b,b<k->(decide (i<b)&&!jo (gl l i) (gl l b))=false)/\Hid (Up w wr)) (fun i2 _=>l.length - (intOf i2).toNat)
     case atStart=>exact ⟨i+1,ah _,by omega,by go_num,fun b hb=>by rw [decide_eq_false (by omega)];rfl,hU⟩
     case round =>
      obtain ⟨k,nj,hk,rfl,hd2,mC⟩:=hrel;obtain ⟨wq,rfl⟩:=eM wr;by_cases BJ:k<l.length
      ·obtain ⟨b,off,q,c,rfl,hc,hr⟩:=eZ H.out hlt
       obtain ⟨b2,off2,q2,c2,e2,hc2,hr2⟩:=eZ H.out BJ;cases e2;have gA:=aa (mC.out.cell hc);have lZ:=aa (mC.out.cell hc2);have k1:(0:Int)<=(k:Int):=vP _;have k2:(k:Int)<(l.length:Int):=tX.2 BJ;have k3:(k:Int)<1000:=by omega
       have uk:Hid (∀W,Up wq W->Calls Tryz.prog 210 #[.slice q (gl l i).length c,.slice q2 (gl l k).length c2] W fun e w'=>e=.returned (.bool (jo (gl l i) (gl l k)))/\Up W w'):=fun W hW =>
        afo S S W _ _ _ _ (af.keep hr ((mC.out.trans hW).kept _)) (af.keep hr2 ((mC.out.trans hW).kept _)) (HO.out i hlt) (HO.out k BJ)
       (have aR:Hid (i<k):=by unfold Hid;omega);clear hc hc2 hr hr2;have cQ:Hid (Up wq (wq.drewN 1)):=Up.drewN wq 1;generalize hcb:jo (gl l i) (gl l k)=cb at *;have sO:=aa hcb;clear hcb;generalize (gl l i).length=x at *;generalize (gl l k).length=y at *;go_wp2_with fail
       go_region_held3 (fun w'=>Hid (Up wq w')/\w'.cell? ⟨b,off+i,none⟩=some (.slice q x c)/\w'.cell? ⟨b,off+k,none⟩=some (.slice q2 y c2)) (exact ⟨cQ,cQ.out.cell gA.out,cQ.out.cell lZ.out⟩) (first
        | (go_at_call 210;refine (uk.out _ cQ.out).mono ?_;rintro e w9 ⟨rfl,FD⟩;have cQ:Hid (Up wq w9):=cQ.out.trans FD;clear FD))
       have eW:Hid (Up w _):=mC.out.trans cQ.out;clear cQ uk gA lZ;cases cb
       ·go_wp2_with fail
        obtain ⟨y1,y2,y3,y4⟩:=acp.out i k hlt BJ hd.out hd2.out aR.out sO.out;exact ⟨rfl,.tuple #[.int .i64 (i:Int),.int .i64 (k:Int),.bool false,.int .i64 0],by simp [results,Tryz.results161,go_sem],by rw [y1,y2,y3,y4],eW.out⟩
       ·go_wp2
        go_roundw
        case rel=>exact ⟨k+1,by omega,by omega,by go_num,fun b' hb'=>by
         by_cases e:b'=k
         ·subst e;rw [sO.out];simp
         ·exact hd2.out b' (by omega),eW⟩
        case measure=>simp [intOf];omega
      ·obtain rfl:k=l.length:=by omega
       have HR:=aa (ED.out i hd2.out);go_wp2
       go_roundw
       case rel=>exact ⟨i+1,by omega,by go_num,fun a ha=>by
        by_cases e:a=i
        ·subst e;exact HR.out
        ·exact hd.out a (by omega),mC⟩
       case measure=>simp [intOf];omega
    ·obtain rfl:i=l.length:=by omega
     obtain ⟨y1,y2,y3,y4⟩:=zv7.out hd.out;have HY:Hid (Kq n l=0/\Kr n l=0/\Eh n l=true/\gh n l=0):=⟨y1,y2,y3,y4⟩;clear y1 y2 y3 y4;go_wp2_with fail;exact ⟨rfl,.tuple #[.int .i64 0,.int .i64 0,.bool true,.int .i64 0],by simp [results,Tryz.results161,go_sem],by rw [HY.out.1,HY.out.2.1,HY.out.2.2.1,HY.out.2.2.2],hU.out⟩
theorem afv {amd:List ByteArray} {k:Nat} (hk:k<amd.length):cW amd k=false↔dD amd (gs amd k)=(k:Int):=by
 constructor
 ·intro h
  refine Sr hk rfl fun j hj e=>?_;have:=any_false h hj;rw [decide_eq_false_iff_not] at this;exact this e
 ·intro h
  obtain ⟨_,_,h3⟩:=qQ h;refine any_none fun j hj=>?_;have:=h3 j hj;rw [decide_eq_false_iff_not] at this ⊢;exact fun e=>this e.symm
theorem SR (W:World) (base:Nat) (e:TypeId) (u v:Value) (h:base<=W.heap.size):au base e (W.alloc (.cells #[u,v] e)) (.slice (some ⟨W.heap.size,0,none⟩) 2 2) [u,v] :=
 ⟨rfl,.inr ⟨W.heap.size,2,#[u,v],rfl,h,blk_alloc_new W _,ah _,by decide,rfl,rfl⟩⟩
theorem afw (amd:List ByteArray) (l:List (List Int)):ax.app ⟨[-1,0],[ByteArray.empty,gs amd 0]⟩ (jv amd l amd.length (bG amd.length [0])) 0=flat (oI amd l):=by
 unfold ax.app flat oI kj;simp [kT,fU,eo,eu,aP,aK]
theorem afx {W:World} {B:Nat} {x y p q:Value} {T:TypeId} (hb:W.heap[B]? = some (Obj.cells #[x,y] T (0,0))):((W.setCell ⟨B,0,none⟩ p).setCell ⟨B,1,none⟩ q).heap[B]? = some (Obj.cells #[p,q] T (0,0)):=by
 simp [World.setCell,Array.getElem?_modify,hb]
theorem Od {amd:List ByteArray} {l:List (List Int)} {M:Nat} (hz:∀k,(gs amd k).size<=M):∀(d:Nat) (set:List Int),∀s∈eo (jv amd l d set),s.size<=M
 | 0,set,s,hs=>by
  rw [jv,eo,eu,cN] at hs
  rw [hs];exact aF _
 | d+1,set,s,hs=>by
  have hlf:∀x:Int,∀s∈eo (kj amd x),s.size<=M:=fun x s hs=>by
   rw [kj,eo,eu,cN] at hs
   rw [hs];exact hz _
  have hks:∀ks:List RT,(∀k∈ks,∀s∈eo k,s.size<=M)->∀s∈eu ks,s.size<=M:=fun ks=>by
   induction ks with
   | nil=>intro _ s hs;rw [eu] at hs;cases hs
   | cons k ks ih =>
    intro h s hs
    rw [eu] at hs
    rcases ey.1 hs with hs | hs
    ·exact h k (by simp) s hs
    ·exact ih (fun k hk=>h k (by simp [hk])) s hs
  rw [jv] at hs
  split at hs
  ·exact hlf _ s hs
  ·rw [eo] at hs
   rcases bA.1 hs with rfl | hs
   ·exact aF _
   ·refine hks _ (fun k hk=>?_) s hs
    rcases ey.1 hk with hk | hk
    ·obtain ⟨g,_,rfl⟩:=bI.1 hk
     exact Od hz d g
    ·obtain ⟨x,_,rfl⟩:=bI.1 hk
     exact hlf x
theorem aan (amd:List ByteArray) (l:List (List Int)) {M:Nat} (hz:∀k,(gs amd k).size<=M) (k:Nat):(gs (flat (oI amd l)).ns k).size<=M:=by
 have h:∀s∈(flat (oI amd l)).ns,s.size<=M:=fun s hs=>by
  have hs:s∈eo (oI amd l):=hs;rw [oI,eo,eu,eu,eu,kj,eo,eu] at hs;rcases bA.1 hs with rfl | hs
  ·exact aF _
  rcases ey.1 hs with hs | hs
  ·rw [cN.1 hs];exact hz _
  ·rw [eG] at hs
   exact Od hz _ _ s hs
 by_cases hk:k<(flat (oI amd l)).ns.length
 ·have:gs (flat (oI amd l)).ns k=(flat (oI amd l)).ns[k]:=by simp [gs,hk]
  rw [this];exact h _ (jy hk)
 ·have:gs (flat (oI amd l)).ns k=ByteArray.empty:=by simp [gs,hk]
  rw [this];exact aF _
theorem Xb (w:World) (u v a b:Value) (T U R:TypeId) :
  au w.heap.size T (((w.alloc (.cells #[u,v] T)).alloc (.cells #[a,b] U)).alloc (.cells #[.slice (some ⟨w.heap.size,0,none⟩) 2 2,.slice (some ⟨w.heap.size+1,0,none⟩) 2 2] R)) (.slice (some ⟨w.heap.size,0,none⟩) 2 2) [u,v]/\au w.heap.size U (((w.alloc (.cells #[u,v] T)).alloc (.cells #[a,b] U)).alloc (.cells #[.slice (some ⟨w.heap.size,0,none⟩) 2 2,.slice (some ⟨w.heap.size+1,0,none⟩) 2 2] R)) (.slice (some ⟨w.heap.size+1,0,none⟩) 2 2) [a,b] /\
  (((w.alloc (.cells #[u,v] T)).alloc (.cells #[a,b] U)).alloc (.cells #[.slice (some ⟨w.heap.size,0,none⟩) 2 2,.slice (some ⟨w.heap.size+1,0,none⟩) 2 2] R)).heap[w.heap.size+1+1]? = some (Obj.cells #[.slice (some ⟨w.heap.size,0,none⟩) 2 2,.slice (some ⟨w.heap.size+1,0,none⟩) 2 2] R (0,0))/\Up w (((w.alloc (.cells #[u,v] T)).alloc (.cells #[a,b] U)).alloc (.cells #[.slice (some ⟨w.heap.size,0,none⟩) 2 2,.slice (some ⟨w.heap.size+1,0,none⟩) 2 2] R))/\(((w.alloc (.cells #[u,v] T)).alloc (.cells #[a,b] U)).alloc (.cells #[.slice (some ⟨w.heap.size,0,none⟩) 2 2,.slice (some ⟨w.heap.size+1,0,none⟩) 2 2] R)).heap.size=w.heap.size+3:=by
 have u1:=Up.alloc w (.cells #[u,v] T);have u2:=Up.alloc (w.alloc (.cells #[u,v] T)) (.cells #[a,b] U);have o1:=SR w w.heap.size T u v (ah _);have o2:=SR (w.alloc (.cells #[u,v] T)) w.heap.size U a b (by simp);have o1:=(o1.alloc (.cells #[a,b] U)).alloc (.cells #[.slice (some ⟨w.heap.size,0,none⟩) 2 2,.slice (some ⟨w.heap.size+1,0,none⟩) 2 2] R);have o2:=o2.alloc (.cells #[.slice (some ⟨w.heap.size,0,none⟩) 2 2,.slice (some ⟨w.heap.size+1,0,none⟩) 2 2] R);have u3:=(u1.trans u2).trans (Up.alloc _ (.cells #[.slice (some ⟨w.heap.size,0,none⟩) 2 2,.slice (some ⟨w.heap.size+1,0,none⟩) 2 2] R));have hb:=iN (w:=(w.alloc (.cells #[u,v] T)).alloc (.cells #[a,b] U)) (P:=.slice (some ⟨w.heap.size,0,none⟩) 2 2) (N:=.slice (some ⟨w.heap.size+1,0,none⟩) 2 2) (T:=R);have hs1:(w.alloc (.cells #[u,v] T)).heap.size=w.heap.size+1:=by simp
 have hs2:((w.alloc (.cells #[u,v] T)).alloc (.cells #[a,b] U)).heap.size=w.heap.size+1+1:=by simp
 rw [hs1] at o2;rw [hs2] at hb;exact ⟨o1,o2,hb,u3,by simp⟩
theorem aao (S:Nat->Prop) (w:World) (v vl:Value) (amd:List ByteArray) (l:List (List Int)) (h:aj S w v amd) (hL:aT S w vl l) (hn:amd.length<=1000000) (hz:∀k,(gs amd k).size<=70000) (oL:l.length<=1000000) (hr:∀k,(gl l k).length<=1000000) :
  Calls Tryz.prog 115 #[v,vl] w (FH w amd l):=by
 obtain ⟨lp,lc,rfl,-,-⟩:=dy hL;obtain ⟨p,cap,rfl,hcap,_⟩:=aq.open h;have h:aj S w (.slice p amd.length cap) amd:=h;have bK:Up w (w.alloc (.cells #[.slice none 0 0,.slice none 0 0] 39)):=Up.alloc _ _;have hrb:=iN (w:=w) (P:=.slice none 0 0) (N:=.slice none 0 0) (T:=39);obtain ⟨q0,q1,q2,q3⟩:=boxed hrb;have CZ:(w.alloc (.cells #[.slice none 0 0,.slice none 0 0] 39)).heap.size=w.heap.size+1:=by simp
 have o5:=aa (aj.keep (h.sub (T:=fun b=>b<w.heap.size) fun b _ hb=>hb) (bK.kept _));have Rz:=aa (aT.keep (hL.sub (T:=fun b=>b<w.heap.size) fun b _ hb=>hb) (bK.kept _));have sA:=aa CZ;have cB:=aa bK;have gY:=aa hrb;have HZ:=aa hz;have HR:=aa hr
 have nI:Hid (eR amd l=if amd.length=0 then 5 else if 32<amd.length\/64<l.length then 4
  else if bf (fI amd) amd.length≠0 then bf (fI amd) amd.length
  else if bf (fun k=>aV amd.length (gl l k)) l.length≠0 then bf (fun k=>aV amd.length (gl l k)) l.length
  else if 0<=iY l then 17 else 0):=rfl
 clear h hL bK hrb CZ hz hr;by_cases c0:amd.length=0
 ·have HST:=aa (yx (c:=5) cB.out gY.out (by rw [nI.out,if_pos c0]) (by decide))
  have d0:((amd.length:Int)==0)=true:=by simp [c0]
  clear c0;go_in;go_wp2_with fail;obtain ⟨s2,s3,hp⟩:=HST.out;exact ⟨rfl,.tuple #[.agg #[.slice none 0 0,.slice none 0 0],.int .i64 5],by simp [results,Tryz.results115,go_sem,s2,s3],hp⟩
 have d0:((amd.length:Int)==0)=false:=by simpa using c0
 by_cases c1:32<amd.length
 ·have HST:=aa (yx (c:=4) cB.out gY.out (by rw [nI.out,if_neg c0,if_pos (.inl c1)]) (by decide))
  have d1:decide ((32:Int)<(amd.length:Int))=true:=by simp;omega
  clear c0;go_in;go_wp2_with fail;obtain ⟨s2,s3,hp⟩:=HST.out;exact ⟨rfl,.tuple #[.agg #[.slice none 0 0,.slice none 0 0],.int .i64 4],by simp [results,Tryz.results115,go_sem,s2,s3],hp⟩
 have d1:decide ((32:Int)<(amd.length:Int))=false:=by simp;omega
 by_cases c2:64<l.length
 ·have HST:=aa (yx (c:=4) cB.out gY.out (by rw [nI.out,if_neg c0,if_pos (.inr c2)]) (by decide))
  have d2:decide ((64:Int)<(l.length:Int))=true:=by simp;omega
  clear c0 c1;go_in;go_wp2_with fail;obtain ⟨s2,s3,hp⟩:=HST.out;exact ⟨rfl,.tuple #[.agg #[.slice none 0 0,.slice none 0 0],.int .i64 4],by simp [results,Tryz.results115,go_sem,s2,s3],hp⟩
 have d2:decide ((64:Int)<(l.length:Int))=false:=by simp;omega
 have IP:Hid (eR amd l=if bf (fI amd) amd.length≠0 then bf (fI amd) amd.length
  else if bf (fun k=>aV amd.length (gl l k)) l.length≠0 then bf (fun k=>aV amd.length (gl l k)) l.length
  else if 0<=iY l then 17 else 0):=by unfold Hid;rw [nI.out,if_neg c0,if_neg (by omega)]
 have Tz:0<amd.length:=by omega
 have IQ:amd.length<=32:=by omega
 have FI:l.length<=64:=by omega
 clear nI c0 c1 c2;have ve:Hid (∀k,k<amd.length->(∀j,j<k->fI amd j=0)->fI amd k≠0->eR amd l=fI amd k):=fun k hk hj h0=>by have h1:=eX hk hj h0;rw [IP.out,h1,if_pos h0]
 go_in;go_wp2_with fail;generalize w.alloc (.cells #[.slice none 0 0,.slice none 0 0] 39)=w1 at *;clear q0 q1 q2 q3
 go_loopw [6] (fun i wr=>∃k:Nat,k<=amd.length/\i=.int .i64 k/\Hid (Up w1 wr)/\Hid (∀j,j<k->fI amd j=0)) (fun i _=>amd.length - (intOf i).toNat)
 case atStart=>exact ⟨0,aF _,rfl,Up.refl _,fun j hj=>absurd hj (aZ _)⟩
 case round =>
  obtain ⟨k,hk,rfl,Nw,hd⟩:=hrel;obtain ⟨wo,rfl⟩:=eM wr;have FV:=aa Nw.out;have HD:=aa hd.out;have Vd:=aa (aj.keep o5.out (FV.out.kept _));have i0:(0:Int)<=(k:Int):=by omega
  clear Nw hd;by_cases hlt:k<amd.length
  ·obtain ⟨Ei,no,rfl,hc⟩:=cH Vd.out hlt
   have ij:=aa (ZN (gs amd k) (HZ.out k) wo);have eC:Hid (∀W,Up wo W->Calls Tryz.prog 160 #[.slice (some ⟨Ei,no,none⟩) amd.length cap,.string (gs amd k)] W fun e w'=>e=.returned (.int .i64 (dD amd (gs amd k)))/\W=w'):=fun W hW=>FT _ W _ amd _ (aj.keep Vd.out (hW.kept _)) (by omega);have zJ:=aa (ve.out k hlt HD.out);have zK:Hid (fI amd k=if bq (gs amd k).data.toList then (if cW amd k then 7 else 0) else 14):=rfl;have ZV:=aa (afv hlt);have aR:=aa hlt;have HC:=aa hc;generalize gs amd k=nm at *;generalize cW amd k=bs at *;generalize bq nm.data.toList=bn at *;(have i1:(k:Int)<(amd.length:Int):=by omega);cases bn
   ·have HE:Hid (fI amd k=14):=zK.out
    go_wp2_with fail;refine ij.out.mono ?_;rintro e w' ⟨rfl,Az⟩;have zU:=cB.out.trans (FV.out.trans Az);have gX:=(bH (FV.out.trans Az) w.heap.size (by rw [sA.out];omega)).trans gY.out;obtain ⟨q0,q1,q2,q3⟩:=boxed gX;have HST:=aa (wO (c:=14) (ah _) zU gX ((zJ.out (by rw [HE.out];decide)).trans HE.out) (by decide));clear zU gX Az;go_wp2_with fail;obtain ⟨s2,s3,hp⟩:=HST.out;exact ⟨rfl,.tuple #[.agg #[.slice none 0 0,.slice none 0 0],.int .i64 14],by simp [results,Tryz.results115,go_sem,s2,s3],hp⟩
   ·cases bs
    ·have HE:Hid (fI amd k=0):=zK.out
     have hfd:=ZV.out.1 rfl;(have i2:(dD amd nm != (k:Int))=false:=by rw [hfd];simp);go_wp2_with fail;refine ij.out.mono ?_;rintro e w' ⟨rfl,Az⟩;have Vq:=aa (show Up wo w' from Az);have hc:=Vq.out.cell HC.out;clear Az hfd;go_wp2_with fail;refine (eC.out _ Vq.out).mono ?_;rintro e w'' ⟨rfl,rfl⟩;go_wp2
     go_roundw
     case rel=>exact ⟨k+1,aR.out,by go_num,FV.out.trans Vq.out,fun j hj=>if e:j=k then by subst e;exact HE.out else HD.out j (by omega)⟩
     case measure=>have:=aR.out;simp [intOf];omega
    ·have HE:Hid (fI amd k=7):=zK.out
     (have hfd:¬dD amd nm=(k:Int):=fun e=>by have:=ZV.out.2 e;cases this);(have i2:(dD amd nm != (k:Int))=true:=by simpa using hfd);go_wp2_with fail;refine ij.out.mono ?_;rintro e w' ⟨rfl,Az⟩;have Vq:=aa (show Up wo w' from Az);have hc:=Vq.out.cell HC.out;have zU:=cB.out.trans (FV.out.trans Az);have gX:=(bH (FV.out.trans Az) w.heap.size (by rw [sA.out];omega)).trans gY.out;obtain ⟨q0,q1,q2,q3⟩:=boxed gX;have HST:=aa (wO (c:=7) (ah _) zU gX ((zJ.out (by rw [HE.out];decide)).trans HE.out) (by decide));clear zU gX Az;go_wp2_with fail;refine (eC.out _ Vq.out).mono ?_;rintro e w'' ⟨rfl,rfl⟩;go_wp2_with fail;obtain ⟨s2,s3,hp⟩:=HST.out;exact ⟨rfl,.tuple #[.agg #[.slice none 0 0,.slice none 0 0],.int .i64 7],by simp [results,Tryz.results115,go_sem,s2,s3],hp⟩
  ·obtain rfl:k=amd.length:=by omega
   have ahr:Hid (∀j,j<amd.length->fI amd j=0):=HD.out;(have HAE:Hid (gh amd.length l=bf (fun k=>aV amd.length (gl l k)) l.length):=by unfold Hid gh;rw [if_neg (by omega),if_neg (by omega)]);(have zL:Hid (eR amd l=if gh amd.length l≠0 then gh amd.length l else if 0<=iY l then 17 else 0):=by unfold Hid;rw [IP.out,if_neg (by rw [cG HD.out];decide),HAE.out]);have lu:=aa (cB.out.trans FV.out);have gX:=(bH FV.out w.heap.size (by rw [sA.out];omega)).trans gY.out;have HBo:=aa gX;have HLo:=aa (aT.keep Rz.out (FV.out.kept _));have iQ:=aa (afu _ wo _ (amd.length:Int) l HLo.out (by omega) HR.out);have KB:Hid (Eh amd.length l=(decide (gh amd.length l=0)&&decide (iY l<0))):=rfl;have O4:=aa (CV (fun i=>decide (0<=ig l i)) l.length).2.2;(have SS:Hid (w.heap.size<wo.heap.size):=by have h1:=FV.out.size;rw [sA.out] at h1;exact h1);clear hlt hk gX HD ve IP FV gY cB Rz o5 sA HAE;by_cases ea:gh amd.length l=0
   case neg =>(have HX:Hid (eR amd l=gh amd.length l):=by unfold Hid;rw [zL.out,if_pos ea]);have HEA:=aa ea;(have i1:(gh (amd.length:Int) l != 0)=true:=by simpa using ea);clear ea zL KB O4;go_wp2_with fail;refine iQ.out.mono ?_;rintro e w2 ⟨rfl,aI⟩;have gX:=(bH aI w.heap.size SS.out).trans HBo.out;obtain ⟨q0,q1,q2,q3⟩:=boxed gX;have HST:=aa (wO (c:=gh amd.length l) (ah _) (lu.out.trans aI) gX HX.out HEA.out);clear gX aI HEA HX iQ;generalize gh (amd.length:Int) l=ec at *;go_wp2_with fail;obtain ⟨s2,s3,hp⟩:=HST.out;exact ⟨rfl,.tuple #[.agg #[.slice none 0 0,.slice none 0 0],.int .i64 ec],by simp [results,Tryz.results115,go_sem,s2,s3],hp⟩
   case pos =>
   rw [ea,if_neg (by decide)] at zL;rw [ea] at iQ KB;clear ea;by_cases ep:0<=iY l
   case pos =>(have HX:Hid (eR amd l=17):=by unfold Hid;rw [zL.out,if_pos ep]);(have hab:Eh amd.length l=false:=by rw [KB.out,decide_eq_false (show ¬iY l<0 by omega)];rfl);rw [hab] at iQ;clear ep zL KB O4 hab;go_wp2_with fail;refine iQ.out.mono ?_;rintro e w2 ⟨rfl,aI⟩;have gX:=(bH aI w.heap.size SS.out).trans HBo.out;obtain ⟨q0,q1,q2,q3⟩:=boxed gX;have HST:=aa (wO (c:=17) (ah _) (lu.out.trans aI) gX HX.out (by decide));clear gX aI iQ;go_wp2_with fail;obtain ⟨s2,s3,hp⟩:=HST.out;exact ⟨rfl,.tuple #[.agg #[.slice none 0 0,.slice none 0 0],.int .i64 17],by simp [results,Tryz.results115,go_sem,s2,s3],hp⟩
   case neg =>
   (have HX:Hid (eR amd l=0):=by unfold Hid;rw [zL.out,if_neg ep]);have pW:=aa (Fs.1 HX.out);(have hab:Eh amd.length l=true:=by rw [KB.out,decide_eq_true (show iY l<0 by omega)];rfl);rw [hab] at iQ;clear ep zL KB O4 hab;go_wp2_with fail;refine iQ.out.mono ?_;rintro e w2 ⟨rfl,aI⟩;have FC:=aa ((bH aI w.heap.size SS.out).trans HBo.out);have b7:=aa (lu.out.trans aI);have oB:=aa (aj.keep Vd.out (aI.kept _));have A2:=aa (aT.keep HLo.out (aI.kept _));have sH:Hid (w.heap.size<w2.heap.size):=iI SS.out aI.size;clear aI iQ lu HBo Vd HLo SS;obtain ⟨Ei,no,rfl,hc0⟩:=cH oB.out Tz;rw [mZ] at hc0;by_cases n1:amd.length=1
   ·have d3:((amd.length:Int)==1)=true:=by simp [n1]
    obtain ⟨t1,t2,t3⟩:=rG w2 (.int .i64 (-1)) (.string (gs amd 0)) 3 9;have hb3:=(bH t1 w.heap.size sH.out).trans FC.out;have HST:=aa (gz (w:=w) (p:=.slice (some ⟨w2.heap.size,0,none⟩) 1 1) (q:=.slice (some ⟨w2.heap.size+1,0,none⟩) 1 1) hb3 (ah _) (b7.out.trans t1));have H3:=aa (⟨t2,t3⟩:_/\_);(have hres:jN amd l=⟨[-1],[gs amd 0]⟩:=by unfold jN zG;rw [if_pos HX.out,if_pos n1]);have DB:=aa hres;have hq:=t1.cell hc0;have hq':=(Up.alloc w2 (.cells #[.int .i64 (-1)] 3)).cell hc0;obtain ⟨q0,q1,q2,q3⟩:=boxed hb3;(have n1':(0:Int)<(amd.length:Int):=by omega);clear n1 t1 t2 t3 hb3 hres;go_wp2_with fail;obtain ⟨s1,s2,s3,s4⟩:=HST.out;have hsz:=sH.out;refine ⟨rfl,.tuple #[.agg #[.slice (some ⟨w2.heap.size,0,none⟩) 1 1,.slice (some ⟨w2.heap.size+1,0,none⟩) 1 1],.int .i64 0],by simp [results,Tryz.results115,go_sem,s2,s3],s1,_,by rw [HX.out],?_⟩;rw [DB.out];exact ⟨_,_,rfl,LA ((cU (a:=⟨w2.heap.size,0,none⟩) (s4 w2.heap.size (Nat.ne_of_gt hsz))).trans H3.out.1),UO ((cU (a:=⟨w2.heap.size+1,0,none⟩) (s4 (w2.heap.size+1) (by omega))).trans H3.out.2)⟩
   (have d3:((amd.length:Int)==1)=false:=by simp;omega);(have adB:Hid (2<=amd.length):=by unfold Hid;omega);have cR:=Up.alloc w2 (.cells #[.int .i64 0] 3);have PV:=LA (mA w2 (.int .i64 0) 3);have Ey:=aa (NM _ _ _ amd.length [0] PV (by simp) IQ ⟨List.pairwise_singleton _ _,fun x hx=>by rw [cN.1 hx];omega⟩ (fun x hx=>by rw [cN.1 hx];omega));have eW:=aa cR;have lV:=aa hc0;clear cR PV n1 hc0;go_wp2_with fail;refine Ey.out.mono ?_;rintro e w4 ⟨gU,x,rfl,NZ⟩;have k7:=aa (eW.out.trans gU);have HX4:Hid (af (fun b=>b<w4.heap.size) w4 x (bG amd.length [0])):=NZ.ints.sub fun b _ hl=>hl;have TX:=k7.out.cell lV.out;have hs4:w2.heap.size<=w4.heap.size:=k7.out.size;obtain ⟨m1,m2,m3,m4,m5⟩:=Xb w4 (.int .i64 (-1)) (.int .i64 0) (.string ⟨#[]⟩) (.string (gs amd 0)) 3 9 39;have HM:=aa (And.intro m1 (And.intro m2 (And.intro m3 (And.intro m4 m5))));have xy:=aa hs4;(have n1':(0:Int)<(amd.length:Int):=by omega);have aku:=(Up.alloc w4 (.cells #[.int .i64 (-1),.int .i64 0] 3)).cell TX;have hq:=boxed m3;obtain ⟨q0,q1,q2,q3⟩:=hq;clear gU NZ Ey m1 m2 m3 m4 m5 hs4 eW;go_wp2_with fail;generalize (((w4.alloc _).alloc _).alloc _)=w7 at *;obtain ⟨t0,Ad⟩:∃t0:ax,t0=⟨[-1,0],[ByteArray.empty,gs amd 0]⟩:=⟨_,rfl⟩;(have hT7:TL w4.heap.size w7 (.slice (some ⟨w4.heap.size,0,none⟩) 2 2) (.slice (some ⟨w4.heap.size+1,0,none⟩) 2 2) t0.ps t0.ns:=by rw [Ad];refine ⟨HM.out.1,HM.out.2.1,fun b h1 h2=>?_⟩;have h1:some w4.heap.size=some b:=h1;have h2:some (w4.heap.size+1)=some b:=h2;injection h1 with h1;injection h2 with h2;omega);have nZ:=HM.out.2.2.2.1;have hs7:=HM.out.2.2.2.2
   have Xc:∀b,b<w4.heap.size->(Value.slice (some ⟨w4.heap.size,0,none⟩) 2 2).ownBlock≠some b/\(Value.slice (some ⟨w4.heap.size+1,0,none⟩) 2 2).ownBlock≠some b:=fun b hb=>⟨fun h1=>by
    have h1:some w4.heap.size=some b:=h1
    injection h1 with h1;omega,fun h1=>by
    have h1:some (w4.heap.size+1)=some b:=h1
    injection h1 with h1;omega⟩
   have hs2:=sH.out;have akv:=xy.out;have hgf:=N9 pW.out adB.out;(have hsz:t0.ps.length+aP (jv amd l amd.length (bG amd.length [0]))<=100000:=by have h1:=hgf.2.1;rw [Ad];rw [oI,aP,aK,aK] at h1;show 2+_<=_;omega);have hrl:=rE (n:=amd.length) (by omega)
   have HG:=aa (adp w4.heap.size amd l IQ FI pW.out.ah4 (fun k hk=>(pW.out.AW _ (lI hk)).set) amd.length (bG amd.length [0]) (by omega) (fun e=>by rw [e] at hrl;have:=adB.out;simp at hrl;omega) ⟨nS _ _,fun x hx=>by have:=jH.1 hx;omega⟩ (fun x hx=>by have:=jH.1 hx;omega) w7 _ _ _ _ _ t0 0 hT7 (by omega) (by rw [Ad];rfl) hsz
    ((aj.keep (aj.keep oB.out (k7.out.kept _)) (nZ.kept _)).sub fun b hb _=>Xc b (by omega)) ((af.keep HX4.out (nZ.kept _)).sub fun b hb _=>Xc b hb) ((aT.keep (aT.keep A2.out (k7.out.kept _)) (nZ.kept _)).sub fun b hb _=>Xc b (by omega)))
   (have Fk:Hid (t0.app (jv amd l amd.length (bG amd.length [0])) 0=flat (oI amd l)):=by unfold Hid;rw [Ad];exact afw amd l);have FU:=aa (afr pW.out adB.out);have TU:=aa hgf.2.1;clear hT7 nZ hs7 Xc hs2 akv hsz hrl hgf Ad q0 q1 q2 q3;refine HG.out.mono ?_;rintro e w8 ⟨P8,N8,rfl,hT8,KR⟩;rw [Fk.out] at hT8;generalize hft:flat (oI amd l)=ft at *;obtain ⟨p8,c8,rfl,-,-⟩:=aq.open hT8.cn.ints;obtain ⟨n8,d8,rfl,-,-⟩:=aq.open hT8.cD.strs;have lN:w8.heap[w4.heap.size+1+1]? = some (Obj.cells #[.slice (some ⟨w4.heap.size,0,none⟩) 2 2,.slice (some ⟨w4.heap.size+1,0,none⟩) 2 2] 39 (0,0)):=by
    refine (KR.block _ (by have:=HM.out.2.2.2.2;omega) (by have:=HM.out.2.2.2.2;omega) (fun e=>?_) (fun e=>?_)).trans HM.out.2.2.1
    ·have e:some (w4.heap.size+1+1)=some w4.heap.size:=e
     injection e with e;omega
    ·have e:some (w4.heap.size+1+1)=some (w4.heap.size+1):=e
     injection e with e;omega
   have iH:Up w4 w8:=by
    have RN:=HM.out.2.2.2.1;refine ⟨KR.os.trans RN.os,KR.tape.trans RN.tape,KR.output.trans RN.output,aB RN.size KR.size,fun b hb=>?_⟩;refine (KR.block b (iI hb RN.size) (by have:=HM.out.2.2.2.2;omega) (fun e=>?_) (fun e=>?_)).trans (RN.block b hb)
    ·have e:some b=some w4.heap.size:=e
     injection e with e;omega
    ·have e:some b=some (w4.heap.size+1):=e
     injection e with e;omega
   obtain ⟨q0,q1,q2,q3⟩:=boxed lN;have HST:=aa (gz (w:=w4) (p:=.slice p8 ft.ps.length c8) (q:=.slice n8 ft.ns.length d8) lN (by omega) iH);have HB9:=aa (afx (p:=.slice p8 ft.ps.length c8) (q:=.slice n8 ft.ns.length d8) lN);have HT8:=aa hT8;have hnp:∀b,(Value.slice p8 ft.ps.length c8).ownBlock=some b->b≠w4.heap.size+1+1:=fun b hb=>by
    rcases KR.jX b hb with h1 | h1
    ·have h1:some w4.heap.size=some b:=h1
     injection h1 with h1;omega
    ·have:=HM.out.2.2.2.2;omega
   have hnn:∀b,(Value.slice n8 ft.ns.length d8).ownBlock=some b->b≠w4.heap.size+1+1:=fun b hb=>by
    rcases KR.jY b hb with h1 | h1
    ·have h1:some (w4.heap.size+1)=some b:=h1
     injection h1 with h1;omega
    ·have:=HM.out.2.2.2.2;omega
   have HNP:=aa (And.intro hnp hnn);clear hT8 KR lN iH hnp hnn HG HM TX aku;go_wp2_with fail;obtain ⟨u9,q4,q5,hk9⟩:=HST.out;have FD:=HB9.out;have HO9:=aa (And.intro (HT8.out.cn.eH fun b hb=>hk9 b (HNP.out.1 b hb)) (HT8.out.cD.eH fun b hb=>hk9 b (HNP.out.2 b hb)));have NT:=aa u9;clear HST HB9 HT8 HNP hk9 u9 q0 q1 q2 q3 q4 q5;generalize (w8.setCell ⟨w4.heap.size+1+1,0,none⟩ _).setCell ⟨w4.heap.size+1+1,1,none⟩ _=w9 at *;have akw:=hft;(have hps:ft.ps.length<=64/\ft.ns.length<=64:=by rw [<- hft,vv,Cl];exact ⟨TU.out,TU.out⟩);have jD:=aa (abl _ w9 _ ft ⟨_,_,rfl,HO9.out.1.ints,HO9.out.2.strs⟩ (by omega) (by omega) (fun k=>by rw [<- hft];exact aan amd l HZ.out k));(have DB:Hid (jN amd l=zi ft):=by obtain ⟨g1,g2⟩:=FU.out;unfold Hid jN;rw [if_pos HX.out,<- g2,Yn (by rw [<- hft] at *;exact g1)]);have Fc:Hid (aA ft=0):=FU.out.1;have HB8:=aa ((bH (k7.out.trans NT.out) w.heap.size sH.out).trans FC.out);have kZ:=aa (b7.out.trans (k7.out.trans NT.out));have aie:Hid (w.heap.size<w9.heap.size):=iI sH.out (k7.out.trans NT.out).size;clear hft akw hps FU HO9;refine jD.out.mono ?_;rintro e A4 ⟨LD,⟨hte,rfl⟩ | ⟨hte,cv,rfl,P8,N8,rfl,AV,sY⟩⟩
   ·exact absurd Fc.out hte
   generalize zi ft=ct at *;obtain ⟨p10,c10,rfl,-,-⟩:=aq.open AV;obtain ⟨n10,d10,rfl,-,-⟩:=aq.open sY;have Gi:=(bH LD w.heap.size aie.out).trans HB8.out;obtain ⟨q0,q1,q2,q3⟩:=boxed Gi;have iy:=aa (Ry aie.out Gi (kZ.out.trans LD) AV sY HX.out DB.out);clear Gi LD hte AV sY;go_wp2_with fail;obtain ⟨s2,s3,hp⟩:=iy.out;exact ⟨rfl,.tuple #[.agg #[.slice p10 _ c10,.slice n10 _ d10],.int .i64 0],by simp [results,Tryz.results115,go_sem,s2,s3],hp⟩
end
end Go.Proofs.YthgabkgmkolobaaGreat
