/- The splits of the tree of splits are these splits, each once, in order: plain. The tree .. -/
import Derived.Test.YthgabkgmkolobaaGreatQ33
set_option maxRecDepth 100000
set_option maxHeartbeats 4000000
namespace Go.Proofs.YthgabkgmkolobaaGreat
section
section
variable {aac:List ByteArray} {t:az} {S:Nat->List Int} {l:List (List Int)}
theorem nodup_nd (h:∀j k,j<k->k<aac.length->gs aac k≠gs aac j):aac.Nodup :=
 nS.2 fun i j hi hj hij e=>h i j hij hj (by simp [gs,hi,hj,e])
theorem bM.nmperm (h:bM aac t S):(dx (iZ t)).Perm aac:=by
 refine (List.perm_ext_iff_of_nodup h.Ri.nd (nodup_nd h.nd)).2 fun y=>?_;have h1:=h.leaves _ 0 (af _) h.n0 y;constructor
 ·intro hy
  obtain ⟨b,hb,rfl⟩:=h1.1 hy;have hb:=(h.bd 0 h.n0).1 _ hb;have hb:b<aac.length:=by omega
  simp [gs,hb]
 ·intro hy
  obtain ⟨b,hb,e⟩:=CO.1 hy;exact h1.2 ⟨b,h.top b hb,by simp [gs,hb,e]⟩
theorem ZI (ht:aH t=0) (hp:(qK t.ns).Perm aac) (hle:aac.length<=32) (fe:∀j k,j<k->k<aac.length->gs aac k≠gs aac j):dK t aac:=by
 obtain ⟨_,_,hl,_,_⟩:=aF ht;refine ⟨ht,hle,fe,by rw [Dc,hp.length_eq],fun j hj h0=>?_⟩;obtain ⟨b,hb,e⟩:=CO.1 (hp.mem_iff.1 (ES.2 ⟨j,by omega,rfl,h0⟩));exact ⟨b,hb,by rw [<- e];simp [gs,hb]⟩
theorem bM.ofok (h:bM aac t S) (hle:aac.length<=32):dK (o8 t) aac :=
 ZI (canT_ok h.tree) ((can_names h.tree).trans ((rN h.tree).symm.trans h.nmperm)) hle h.nd
theorem bM.ofok0 (h:bM aac t S) (hle:aac.length<=32):dK t aac :=
 ZI h.tree ((rN h.tree).symm.trans h.nmperm) hle h.nd
theorem bM.splits (h:bM aac t S) (hle:aac.length<=32) (ha:∀i,i<t.ps.length->(S i).Pairwise (· < ·)) {s:List Int} :
  s∈cW (o8 t) aac↔yP aac.length s/\∃i,i<t.ps.length/\s=fc aac.length (S i):=by
 rw [Co (h.ofok hle),toR_canT h.tree];constructor
 ·rintro ⟨h1,q,hq,X,hX,bX,hL,rfl⟩
  obtain ⟨u,hu,rfl⟩:=cm.1 ((nG _).mem_iff.1 hq);obtain ⟨i,hi,hi2⟩:=h.parts.1 u hu;have:=Ow h.nd hX (ha i hi) bX (h.bd i hi).1 hL (Zw hi2);exact ⟨h1,i,hi,by rw [this]⟩
 ·rintro ⟨h1,i,hi,rfl⟩
  obtain ⟨u,hu,aK⟩:=h.parts.2 i hi;exact ⟨h1,cn u,(nG _).mem_iff.2 (cm.2 ⟨u,hu,rfl⟩),S i,ha i hi,(h.bd i hi).1,Zw aK,rfl⟩
theorem X4 (t:az) (aac:List ByteArray):(cW t aac).Pairwise E7:=by
 unfold cW;split
 ·exact si _
 ·exact List.Pairwise.nil
theorem V1 (hn:aac.length<4):cW t aac=[]:=by
 by_cases h:jD t aac=0
 ·rw [JP]
  intro s hs;have:=((Co (kV.1 h)).1 hs).1.len;omega
 ·unfold cW;rw [if_neg h]
theorem lu.few (h:lu aac l) (hn:aac.length<4):l=[]:=by
 rw [JP];intro s hs;have:=(h.Ct s hs).len;omega
theorem one_sets (h : lu aac l) (h1 : aac.length = 1) : bM aac ⟨[-1], [gs aac 0]⟩ (fun _ => [0]) := by
  refine ⟨h.nm, h.nd, by simp, by simp, rfl, rfl, fun b hb => ?_, fun i hi => ?_, fun i h0 hi => ?_, fun i j hi hj _ _ => ?_, fun b hb => ?_, fun i hi => ?_, fun i hi => by simp⟩
  · have : b = 0 := by omega
    subst this; simp
  · exact ⟨fun x hx => by have : x = 0 := by simpa using hx
                          omega, by simp⟩
  · exact absurd hi (by simp; omega)
  · simp at hi hj; omega
  · have : b = 0 := by omega
    subst this; exact ⟨0, by simp, rfl⟩
  · have : i = 0 := by simp at hi; omega
    subst this; rfl
def sA (i:Nat):List Int:=if i=0 then [0,1] else if i=1 then [0] else [1]
theorem V2 (h : lu aac l) (h2 : aac.length = 2) : bM aac ⟨[-1, 0, 0], [ByteArray.empty, gs aac 0, gs aac 1]⟩ sA := by
  have c3 : ∀ i, i < ([-1, 0, 0] : List Int).length -> i = 0 \/ i = 1 \/ i = 2 := fun i hi => by simp at hi; omega
  refine ⟨h.nm, h.nd, by simp, by simp, rfl, rfl, fun b hb => ?_, fun i hi => ?_, fun i h0 hi => ?_, fun i j hi hj hij hji => ?_, fun b hb => ?_, fun i hi => ?_, fun i hi => ?_⟩
  · have : b = 0 \/ b = 1 := by omega
    rcases this with rfl | rfl <;> simp [sA]
  · rcases c3 i hi with rfl | rfl | rfl
    · exact ⟨fun x hx => by have : x = 0 \/ x = 1 := by simpa [sA] using hx
                            omega, by simp [sA]⟩
    · exact ⟨fun x hx => by have : x = 0 := by simpa [sA] using hx
                            omega, by simp [sA]⟩
    · exact ⟨fun x hx => by have : x = 1 := by simpa [sA] using hx
                            omega, by simp [sA]⟩
  · have : i = 1 \/ i = 2 := by have := c3 i hi; omega
    refine ⟨0, by omega, by rcases this with rfl | rfl <;> rfl, fun x hx => ?_, fun j hj hji hs => ?_⟩
    · rcases this with rfl | rfl
      · have : x = 0 := by simpa [sA] using hx
        subst this; simp [sA]
      · have : x = 1 := by simpa [sA] using hx
        subst this; simp [sA]
    · rcases c3 j hj with rfl | rfl | rfl
      · exact fun x hx => hx
      · have : i = 2 := by omega
        subst this
        have := hs 1 (by simp [sA])
        simp [sA] at this
      · have : i = 1 := by omega
        subst this
        have := hs 0 (by simp [sA])
        simp [sA] at this
  · rcases c3 i hi with rfl | rfl | rfl <;> rcases c3 j hj with rfl | rfl | rfl <;> first | rfl | (simp [sA] at hij hji)
  · have : b = 0 \/ b = 1 := by omega
    rcases this with rfl | rfl
    · exact ⟨1, by simp, rfl⟩
    · exact ⟨2, by simp, rfl⟩
  · rcases c3 i hi with rfl | rfl | rfl <;> rfl
  · rcases c3 i hi with rfl | rfl | rfl <;> simp [sA]
theorem bld_splits (h:lu aac l) (h3:3<=aac.length) (hsm:3+(aP l).length+(aac.length - 1)<=64):cW (o8 (bT aac (aP l))) aac=oH l:=by
 have hS:=Ml h h3 hsm;have hlen:(bT aac (aP l)).ps.length=3+(aP l).length+(aac.length - 1):=bT_len;refine PE (X4 _ _) (si l) fun s=>?_;rw [hS.splits h.le (fun i hi=>(h.kind h3 (by omega)).1.1),rU];constructor
 ·rintro ⟨h1,i,hi,rfl⟩
  have h2:=h1.len;obtain ⟨⟨k1,k2⟩,k3⟩:=h.kind h3 (i:=i) (by omega);rcases k3 with ⟨rfl,k4⟩ | ⟨rfl,k4,k5⟩ | ⟨rfl,k4⟩ | ⟨k,hk,rfl,k6,k4,k5⟩ | ⟨b,b1,b2,rfl,k5,k4⟩
  ·exfalso
   (have h4:fc aac.length (bS aac (aP l) 0)=[]:=by rw [show bS aac (aP l) 0=allI aac.length from rfl];unfold fc;rw [if_pos (iP.2 (tE.2 (by omega))),JP];intro x hx;obtain ⟨x0,xn,hx⟩:=ny.1 hx;exact hx (tE.2 ⟨x0,xn⟩));rw [h4] at h2;simp at h2
  ·exfalso
   rw [k5] at h2;have h4:fc aac.length [0]=dZ aac.length [0]:=rfl;rw [h4] at h2;have:=Cv (n:=aac.length) (by omega);omega
  ·exfalso
   (have h4:fc aac.length (bS aac (aP l) 2)=bS aac (aP l) 2:=by unfold fc;rw [if_neg];intro e;have:=yt.1 (iP.1 e);omega);rw [h4] at h2;omega
  ·have ho:=h.own hk
   (have h4:fc aac.length (bS aac (aP l) (3+k))=gl (aP l) k:=by rw [k6];unfold fc;rw [if_neg];intro e;have:=ho.bd _ (iP.1 e);omega);rw [h4];exact yq.1 (oM hk)
  ·exfalso
   (have h4:fc aac.length (bS aac (aP l) (2+(aP l).length+b))=[(b:Int)]:=by rw [k5];unfold fc;rw [if_neg];intro e;(have:(0:Int)=b:=by simpa using iP.1 e);omega);rw [h4] at h2;simp at h2
 ·intro hs
  refine ⟨h.Ct s hs,?_⟩;obtain ⟨k,hk,rfl⟩:=Oy (yq.2 hs);refine ⟨3+k,by omega,?_⟩;rw [oI hk];unfold fc;rw [if_neg];intro e;have:=(h.own hk).bd _ (iP.1 e);omega
theorem V3 (h:lu aac l) (hsm:3+(aP l).length+(aac.length - 1)<=64):dK (Jq aac l) aac/\cW (Jq aac l) aac=oH l:=by
 unfold Jq;have hp:=h.pos;by_cases h1:aac.length=1
 ·rw [if_pos h1]
  refine ⟨(one_sets h h1).ofok0 h.le,?_⟩;rw [V1 (by omega),h.few (by omega)];rfl
 rw [if_neg h1];by_cases h2:aac.length=2
 ·rw [if_pos h2]
  refine ⟨(V2 h h2).ofok h.le,?_⟩;rw [V1 (by omega),h.few (by omega)];rfl
 rw [if_neg h2];exact ⟨(Ml h (by omega) hsm).ofok h.le,bld_splits h (by omega) hsm⟩
end
end
section
theorem R3:∀(d:Nat) (r:RT),aU r<=d->iq r->∀p∈bH r,∀q∈bH r,p∈bH q\/q∈bH p\/∀x,x∈dx p->x∉dx q
 | 0,r,hd,_=>by have:=mA r;omega
 | d+1,.node nm ks,hd,h=>fun p hp q hq=>by
  rw [bH,aW] at hp hq
  rcases hp with rfl | hp
  ·exact .inr (.inl (by rw [bH,aW];exact hq))
  rcases hq with rfl | hq
  ·exact .inl (by rw [bH,aW];exact .inr hp)
  obtain ⟨k1,h1,hp⟩:=Cl hp
  obtain ⟨k2,h2,hq⟩:=Cl hq
  obtain ⟨i,hi,rfl⟩:=vk h1
  obtain ⟨j,hj,rfl⟩:=vk h2
  have h0:ks≠[]:=fun e=>by subst e;simp at hi
  by_cases hij:i=j
  ·subst hij
   have hk:=A9 (nm:=nm) (lg hi)
   exact R3 d _ (by have:=vO (nm:=nm) (lg hi);omega) (h.sub hk) p hp q hq
  ·refine .inr (.inr fun x hx hx2=>?_)
   have hn:=h.nd
   rw [kT (show nm.size=0 from h.wm _ (ja _) h0),Ef,Hs] at hn
   have hpw:=nS.1 hn.2
   have e1:=(nI hp).subset hx
   have e2:=(nI hq).subset hx2
   rcases rY i j with c | c | c
   ·exact absurd rfl (hpw i j hi hj c x e1 x e2)
   ·exact hij c
   ·exact absurd rfl (hpw j i hj hi c x e2 x e1)
section
variable {aac:List ByteArray} {t:az} {S:Nat->List Int} {l:List (List Int)} {la:Nat}
theorem V4 (h:dK t aac) {x:Int}:x∈cu t aac 0↔0<=x/\x<(aac.length:Int):=by
 constructor
 ·intro hx;have:=nP.1 hx;exact ⟨this.1,this.2.1⟩
 ·rintro ⟨x0,xn⟩
  obtain ⟨b,rfl⟩:=pE x0;obtain ⟨j,hj,h3,h4⟩:=ym h (show b<aac.length by omega);exact nP.2 ⟨x0,xn,j,hj,Jm h.te j hj,h3,by rw [h4,sR h.nd (by omega)]⟩
theorem of_all (h:dK t aac) {x:ByteArray}:x∈dx (iZ t)↔∃b:Nat,b<aac.length/\x=gs aac b:=by
 have h1:=uX h (aF h.te).1 x;constructor
 ·intro hx
  obtain ⟨b,hb,e⟩:=h1.1 hx;have:=(V4 h).1 hb;exact ⟨b,by omega,e⟩
 ·rintro ⟨b,hb,e⟩
  exact h1.2 ⟨b,(V4 h).2 ⟨by omega,by omega⟩,e⟩
theorem splS_lam {n:Nat} {X Y:List Int} (hX:∀x∈X,0<=x/\x<(n:Int)) (hY:∀x∈Y,0<=x/\x<(n:Int)) (h:(∀x∈X,x∉Y)\/(∀x∈X,x∈Y)\/∀x∈Y,x∈X) :
  (∀x∈fc n X,x∉fc n Y)\/(∀x∈fc n X,x∈fc n Y)\/∀x∈fc n Y,x∈fc n X:=by
 by_cases hx:(0:Int)∈X<;>by_cases hy:(0:Int)∈Y
 ·rw [show fc n X=dZ n X from if_pos (iP.2 hx),show fc n Y=dZ n Y from if_pos (iP.2 hy)]
  simp only [ny];rcases h with h | h | h
  ·exact absurd hy (h 0 hx)
  ·exact .inr (.inr fun x ⟨a,b,c⟩=>⟨a,b,fun e=>c (h x e)⟩)
  ·exact .inr (.inl fun x ⟨a,b,c⟩=>⟨a,b,fun e=>c (h x e)⟩)
 ·rw [show fc n X=dZ n X from if_pos (iP.2 hx),show fc n Y=Y from if_neg fun e=>hy (iP.1 e)]
  simp only [ny];rcases h with h | h | h
  ·exact .inr (.inr fun x hx=>⟨(hY x hx).1,(hY x hx).2,fun e=>h x e hx⟩)
  ·exact absurd (h 0 hx) hy
  ·exact .inl fun x ⟨a,b,c⟩ e=>c (h x e)
 ·rw [show fc n Y=dZ n Y from if_pos (iP.2 hy),show fc n X=X from if_neg fun e=>hx (iP.1 e)]
  simp only [ny];rcases h with h | h | h
  ·exact .inr (.inl fun x hx=>⟨(hX x hx).1,(hX x hx).2,fun e=>h x hx e⟩)
  ·exact .inl fun x hx ⟨a,b,c⟩=>c (h x hx)
  ·exact absurd (h 0 hy) hx
 ·rw [show fc n Y=Y from if_neg fun e=>hy (iP.1 e),show fc n X=X from if_neg fun e=>hx (iP.1 e)]
  exact h
theorem Js (h:dK t aac) {a b:List Int} (ha:a∈cW t aac) (hb:b∈cW t aac):rT a b=true:=by
 obtain ⟨a1,p,hp,X,aX,bX,lX,rfl⟩:=(Co h).1 ha;obtain ⟨b1,q,hq,Y,aY,bY,lY,rfl⟩:=(Co h).1 hb;refine (Jk a1.set b1.set).2 (splS_lam bX bY ?_);have up:∀ {X Y:List Int} {p q:RT},(∀x∈X,0<=x/\x<(aac.length:Int))->(∀x∈Y,0<=x/\x<(aac.length:Int))->Lv aac p X->Lv aac q Y->p∈bH q->∀x∈X,x∈Y:=fun {X Y p q} bX bY lX lY h2 x hx=>by obtain ⟨x0,xn⟩:=bX x hx;obtain ⟨b,rfl⟩:=pE x0;obtain ⟨b',hb',e⟩:=(lY _).1 ((nI h2).subset ((lX _).2 ⟨b,hx,rfl⟩));have:=bY _ hb';have:=U0 h.nd (a:=b) (b:=b') (by omega) (by omega) e;rw [this];exact hb'
 rcases R3 _ (iZ t) (af _) (ou h.te) p hp q hq with h2 | h2 | h2
 ·exact .inr (.inl (up bX bY lX lY h2))
 ·exact .inr (.inr (up bY bX lY lX h2))
 ·refine .inl fun x hx hy=>?_
  obtain ⟨x0,xn⟩:=bX x hx;obtain ⟨b,rfl⟩:=pE x0;exact h2 _ ((lX _).2 ⟨b,hx,rfl⟩) ((lY _).2 ⟨b,hy,rfl⟩)
theorem tG (t:az) (aac:List ByteArray):(cW t aac).length<=t.ps.length:=by
 unfold cW;split
 ·unfold oH
  refine aJ (Mj _) ?_;rw [(AH _).length_eq];unfold Me;refine aJ (pG _ _) ?_;rw [aG];refine aJ (pG _ _) ?_;rw [wP];exact af _
 ·exact aL _
theorem of_bld (h:dK t aac):lu aac (cW t aac):=by
 obtain ⟨h0,Cn,hl,_,_⟩:=aF h.te;have Gh:=ou h.te;refine ⟨?_,h.le,aJ (tG t aac) Cn,fun k hk=>?_,h.nd,fun s hs=>((Co h).1 hs).1,fun i k hik hk=>Js h (oM (by omega)) (oM hk)⟩
 ·obtain ⟨x,hx⟩:=Gh.meet (ja _)
  obtain ⟨b,hb,_⟩:=(of_all h).1 hx;omega
 ·obtain ⟨j,hj,h3,h4⟩:=ym h hk
  rw [<- h4];exact uP h.te hj (eL.NN ⟨h.te,hj,h3⟩)
end
end
section
open Go.RowKit Go.Deep Go.Sort
def orI (x y:Int):Int:=if x≠0 then x else y
theorem or_t (w:World) (b:Nat) (x y:Int) (h0:w.cell? ⟨b,0,none⟩=some (.int .i64 x)) (h1:w.cell? ⟨b,1,none⟩=some (.int .i64 y)) :
  Calls Tryz.prog 79 #[.slice (some ⟨b,0,none⟩) 2 2] w fun e w'=>e=.returned (.int .i64 (orI x y))/\w=w':=by
 have HO:Hid (orI x y=if x≠0 then x else y):=rfl;have H0:=aa h0;have H1:=aa h1;clear h0 h1
 go_enter Tryz.func79,Tryz.ntmps79
 go_wp2_with fail
 go_loop [5,8] (fun _ i=>∃k:Nat,k<=2/\i=.int .i64 k/\Hid (0<k->x=0)/\Hid (1<k->y=0)) (fun _ i=>2 - (intOf i).toNat)
 case atStart=>exact ⟨0,aL _,rfl,fun h=>absurd h (mU _),fun h=>absurd h (by omega)⟩
 case round =>
  obtain ⟨k,hk,rfl,hd,hd2⟩:=hrel;have c0:=H0.out;have c1:=H1.out;by_cases k0:k=0
  ·subst k0
   by_cases hx:x=0
   ·have HX:=aa hx
    subst hx;go_wp2_with fail
    go_round
    case rel=>exact ⟨1,by omega,by go_num,fun _=>(by first | rfl | trivial),fun h=>absurd h (by omega)⟩
    case measure=>simp [intOf]
   ·have HX:=aa hx
    (have d1:(x==0)=false:=by simpa using hx);(have d2:(x != 0)=true:=by simpa using hx);clear hx;go_wp2_with fail;go_ret;exact ⟨aM (by rw [HO.out,if_pos HX.out]),rfl⟩
  by_cases k1:k=1
  ·subst k1
   have HX:=aa (hd.out (by omega));by_cases hy:y=0
   ·subst hy
    go_wp2_with fail
    go_round
    case rel=>exact ⟨2,by omega,by go_num,fun _=>HX.out,fun _=>(by first | rfl | trivial)⟩
    case measure=>simp [intOf]
   ·have d1:(y==0)=false:=by simpa using hy
    (have d2:(y != 0)=true:=by simpa using hy);clear hy;go_wp2_with fail;go_ret;exact ⟨aM (by rw [HO.out,if_neg (fun e=>e HX.out)]),rfl⟩
  ·obtain rfl:k=2:=by omega
   have HX:=aa (hd.out (by omega));have HY:=aa (hd2.out (by omega));go_wp2_with fail;go_ret;exact ⟨aM (by rw [HO.out,if_neg (fun e=>e HX.out),HY.out]),rfl⟩
theorem orQ (a b:List Int):orI (uz (b.length:Int) (a.length:Int)) (cmpL a b)=mF a b:=by
 unfold orI uz mF;by_cases h1:b.length<a.length
 ·rw [if_pos (show (b.length:Int)<(a.length:Int) by omega),if_pos (by decide),if_pos h1]
 ·rw [if_neg (show ¬(b.length:Int)<(a.length:Int) by omega),if_neg h1]
  by_cases h2:a.length<b.length
  ·rw [if_pos (show (a.length:Int)<(b.length:Int) by omega),if_pos (by decide),if_pos h2]
  ·rw [if_neg (show ¬(a.length:Int)<(b.length:Int) by omega),if_neg h2,if_neg (fun e=>e rfl)]
theorem cmpQ_t (S T:Nat->Prop) (w:World) (v u:Value) (a b:List Int) (h:ah S w v a) (h2:ah T w u b) (hn:a.length<=1000000) (hm:b.length<=1000000) :
  Calls Tryz.prog 78 #[v,u] w fun e w'=>e=.returned (.int .i64 (mF a b))/\∃n os,w'=grow (w.drewN n) os:=by
 have HC:=aa (cmpI_t (b.length:Int) (a.length:Int) w);have HL:=aa (cmpL_t S T w v u a b h h2 hn hm);have HQ:=aa (orQ a b);obtain ⟨p,cap,rfl,-,-⟩:=ay.open h;obtain ⟨q,E8,rfl,-,-⟩:=ay.open h2
 have HOR:Hid (Calls Tryz.prog 79 #[.slice (some ⟨w.heap.size,0,none⟩) 2 2] (w.alloc (.cells #[.int .i64 (uz (b.length:Int) (a.length:Int)),.int .i64 (cmpL a b)] 3)) fun e w'=>e=.returned (.int .i64 (mF a b))/\w.alloc (.cells #[.int .i64 (uz (b.length:Int) (a.length:Int)),.int .i64 (cmpL a b)] 3)=w'):=by have h:=or_t (w.alloc (.cells #[.int .i64 (uz (b.length:Int) (a.length:Int)),.int .i64 (cmpL a b)] 3)) w.heap.size _ _ (iU w _ _ _) (iV w _ _ _);rw [HQ.out] at h;exact h
 have EI:Hid (∃n os,w.alloc (.cells #[.int .i64 (uz (b.length:Int) (a.length:Int)),.int .i64 (cmpL a b)] 3)=grow (w.drewN n) os):=⟨0,#[_],alloc_eq_grow w _⟩;clear h h2
 go_enter Tryz.func78,Tryz.ntmps78
 go_wp2_with fail;refine HC.out.mono ?_;rintro e w' ⟨rfl,rfl⟩;go_wp2_with fail;refine HL.out.mono ?_;rintro e w' ⟨rfl,rfl⟩;go_wp2_with fail;refine HOR.out.mono ?_;rintro e w' ⟨rfl,rfl⟩;go_wp2_with fail;go_ret;exact ⟨rfl,EI.out⟩
end
section
open Go.RowKit Go.Deep
theorem X5 (s:ByteArray) (h:s.size - 1<s.size) (KM:16<s.size) (GY:((s[s.size - 1].toNat:Int)==42)=true):b7 s.data.toList=false:=by
 have hl:=size_data s;have h2:s[s.size - 1]=42:=by
  have h3:(s[s.size - 1].toNat:Int)=42:=by simpa using GY
  have h4:s[s.size - 1].toNat=42:=by omega
  exact UInt8.toNat_inj.1 h4
 unfold b7;rw [FR s h,h2,if_pos rfl,hl,decide_eq_false (by omega),Bool.and_false]
theorem leafName_t (s:ByteArray) (hs:s.size<=70000) (w:World):Calls Tryz.prog 73 #[.string s] w fun e w'=>e=.returned (.bool (b7 s.data.toList))/\w=w':=by
 go_enter Tryz.func73,Tryz.ntmps73
 go_wp2_with fail
 ·have hf:=aa (FT s (by omega) (by omega) ‹_›)
  refine (Bu _ (by simp;omega) _).mono ?_
  rintro e w1 ⟨rfl,rfl⟩
  rw [<- hf.out]
  go_wp2_with fail
  go_ret
  exact ⟨rfl,rfl⟩
 ·have hf:=aa (X5 s (by omega) (by omega) ‹_›)
  go_ret
  exact ⟨aV hf.out.symm,rfl⟩
 ·have hf:=aa (DU s (by omega) ‹_›)
  refine (Bu _ hs _).mono ?_
  rintro e w1 ⟨rfl,rfl⟩
  rw [<- hf.out]
  go_wp2_with fail
  go_ret
  exact ⟨rfl,rfl⟩
 ·have hf:=aa (II s (by omega))
  refine (Bu _ hs _).mono ?_
  rintro e w1 ⟨rfl,rfl⟩
  rw [<- hf.out]
  go_wp2_with fail
  go_ret
  exact ⟨rfl,rfl⟩
theorem Kh (tb B0:Nat) (t:az) (z:Int) (nm:ByteArray) (w:World) (P N:Value) (hG:GS tb B0 w P N t) (Nf:t.ns.length=t.ps.length) (hl:t.ps.length+1<=1000000) :
  Calls Tryz.prog 74 #[.int .i64 z,.string nm,.pointer (some ⟨tb,0,none⟩)] w fun e w'=>e=.returned (.int .i64 (t.ps.length:Int))/\∃P' N',GS tb B0 w' P' N' (t.push z nm)/\GK tb w w' P N P' N':=by
 obtain ⟨hc0,hc1,_,_⟩:=hG.cells;obtain ⟨pp,pc,rfl,_⟩:=hG.tl.dJ.form (n:=t.ps.length) (by simp);obtain ⟨np,nc,rfl,_⟩:=hG.tl.eH.form (n:=t.ps.length) (by simp [Nf]);have HG:=aa hG;have Qr:=aa Nf;clear hG Nf
 go_enter Tryz.func74,Tryz.ntmps74
 go_wp2_with fail
 go_cut [] from 6 to 17 (fun wx=>∃P' N',GS tb B0 wx P' N' (t.push z nm)/\GK tb w wx (.slice pp t.ps.length pc) (.slice np t.ps.length nc) P' N')
 case first =>
  have hd:=Up.drewN w 1;have IA:=aa HG.out;have dz:=aa HG.out.box;have zS:Hid (RS tb B0 w w.drew (.slice pp t.ps.length pc) (.slice np t.ps.length nc) (.slice pp t.ps.length pc) (.slice np t.ps.length nc) t.ps t.ns):=(RS.start HG.out.tl HG.out.lo).up hd;have fN:Hid (t.ps.length<=1000000/\t.ns.length<=1000000):=⟨by omega,by rw [Qr.out];omega⟩;refine gQ (by kernel_rfl) 10 (fun w'=>w'.cell? ⟨tb,0,none⟩=some (.slice pp t.ps.length pc)/\w'.cell? ⟨tb,1,none⟩=some (.slice np t.ps.length nc)) (zS.out.cells dz.out) (fun hS=>?_)
  simp only [eW,aT,dO,Nat.reduceAdd,ji,jk,eV,cH,cr];generalize w.drew=Wd at *;refine aj.tk 0 hS ?_;try simp only [Act.put,aA,aB,aC]
  refine aj.tk 1 hS ?_;try simp only [Act.put,aA,aB,aC]
  refine aj.tk 2 hS ?_;try simp only [Act.put,aA,aB,aC]
  refine aj.tk 5 hS ?_;try simp only [Act.put,aA,aB,aC]
  refine aj.tk 6 hS ?_;try simp only [Act.put,aA,aB,aC]
  refine aj.tk 7 hS ?_;try simp only [Act.put,aA,aB,aC]
  refine aj.yG (i:=3) (i2:=8) rfl rfl (by kernel_rfl) (fun K' hK=>?_) (fun K' hK=>?_)
  ·go_simp
   have xk:Hid (RS tb B0 _ (Wd.alloc (.cells #[.int .i64 z] 3)) _ _ _ _ _ _):=zS.out.up (Up.alloc _ _);refine hK.out _ _ (fun _=>xk.out.cells dz.out) (fun _=>?_);(try simp only [aA,aB,aC]);refine aj.yG (i:=4) (i2:=8) rfl rfl (by kernel_rfl) (fun K' hK=>?_) (fun K' hK=>?_)
   ·refine fF (by rfl) _ _ _ (by rfl) B0 3 _ 8 Tryz.underlying26 Tryz.kE (by rfl) (by decide) (by rfl) xk.out.tl.dJ (.int .i64 z) Wd.heap.size (by rfl) (aS Wd #[.int .i64 z] 3 0) (by rfl) (by rw [aG];exact fN.out.1) (aJ xk.out.lo.2 xk.out.gk.size) ?_
    intro g1 Ij iO og gA hrg1 _;have ox:Hid (RS tb B0 _ iO _ _ _ _ _ _):=xk.out.BK og gA (hrg1.imp id (fun e=>fB e.symm));refine hK.out _ _ (fun _=>ox.out.cells dz.out) (fun _=>?_);(try simp only [Act.put,aA,aB,aC]);refine aj.fr 10 (fun _=>ox.out.cells dz.out) ?_;(try simp only [Act.put,aA,aB,aC]);refine aj.step (i:=8) rfl (by kernel_rfl) (fun K' hK=>?_);go_simp
    have kS:Hid (RS tb B0 _ (iO.alloc (.cells #[.string nm] 9)) _ _ _ _ _ _):=ox.out.up (Up.alloc _ _);refine hK.out _ _ (fun _=>kS.out.cells dz.out) (fun _=>?_);(try simp only [aA,aB,aC]);refine aj.step (i:=9) rfl (by kernel_rfl) (fun K' hK=>?_)
    refine fF (by rfl) _ _ _ (by rfl) B0 9 _ 16 Tryz.underlying22 Tryz.kR (by rfl) (by decide) (by rfl) kS.out.tl.eH (.string nm) iO.heap.size (by rfl) (aS iO #[.string nm] 9 0) (by rfl) (by rw [aG];exact fN.out.2) (aJ kS.out.lo.2 kS.out.gk.size) ?_;intro g2 y9 iX oh kQ hrg2 _;have mB:Hid (RS tb B0 _ iX _ _ _ _ _ _):=kS.out.BM oh kQ (hrg2.imp id (fun e=>fB e.symm));refine hK.out _ _ (fun _=>mB.out.cells dz.out) (fun _=>?_);try simp only [Act.put,aA,aB,aC]
    obtain ⟨zP,o7⟩:=mB.out.cells dz.out;have QG:=mB.out.frozen dz.out 0;have Im:=mB.out.frozen dz.out 1;have jr:=aa (mB.out.store IA.out);refine aj.step (i:=11) rfl (by kernel_rfl) (fun K' hK=>?_);go_simp;refine hK.out _ _ (aO (by kernel_rfl)) (fun _=>?_);(try simp only [aA,aB,aC]);refine aj.fr 12 (aO (by kernel_rfl)) ?_;(try simp only [Act.put,aA,aB,aC]);refine aj.step (i:=13) rfl (by kernel_rfl) (fun K' hK=>?_);go_simp
    refine hK.out _ _ (aO (by kernel_rfl)) (fun _=>?_);refine aj.done (by kernel_rfl) ?_;go_wp2_with fail;go_meet
    case rel =>have eU:=jr.out;simp only [aG] at eU;exact ⟨_,_,eU.1,eU.2⟩
   ·go_simp
    have ox:Hid (RS tb B0 _ ((Wd.alloc (.cells #[.int .i64 z] 3)).alloc (.cells #[.string nm] 9)) _ _ _ _ _ _):=xk.out.up (Up.alloc _ _);refine hK.out _ _ (fun _=>ox.out.cells dz.out) (fun _=>?_);(try simp only [aA,aB,aC]);have uL:=aS (Wd.alloc (.cells #[.int .i64 z] 3)) #[.string nm] 9 0;have sI:=(Up.alloc (Wd.alloc (.cells #[.int .i64 z] 3)) (.cells #[.string nm] 9)).cell (aS Wd #[.int .i64 z] 3 0);rw [aQ] at uL;refine aj.step (i:=4) rfl (by kernel_rfl) (fun K' hK=>?_)
    refine fF (by rfl) _ _ _ (by rfl) B0 3 _ 8 Tryz.underlying26 Tryz.kE (by rfl) (by decide) (by rfl) ox.out.tl.dJ (.int .i64 z) Wd.heap.size (by rfl) sI (by rfl) (by rw [aG];exact fN.out.1) (aJ ox.out.lo.2 ox.out.gk.size) ?_;intro g1 Ij iO og gA hrg1 _;have kS:Hid (RS tb B0 _ iO _ _ _ _ _ _):=ox.out.BK og gA (hrg1.imp id (fun e=>fB e.symm))
    (have vA:iO.cell? ⟨Wd.heap.size+1,0,none⟩=some (.string nm):=by rw [gA.cell_far ⟨Wd.heap.size+1,0,none⟩ (by simp) (fun e=>absurd (av zS.out.tl.dJ e.symm).2 (by show ¬(Wd.heap.size+1<Wd.heap.size);omega))];exact uL);refine hK.out _ _ (fun _=>kS.out.cells dz.out) (fun _=>?_);(try simp only [Act.put,aA,aB,aC]);refine aj.fr 10 (fun _=>kS.out.cells dz.out) ?_;(try simp only [Act.put,aA,aB,aC]);refine aj.step (i:=9) rfl (by kernel_rfl) (fun K' hK=>?_)
    refine fF (by rfl) _ _ _ (by rfl) B0 9 _ 16 Tryz.underlying22 Tryz.kR (by rfl) (by decide) (by rfl) kS.out.tl.eH (.string nm) (Wd.heap.size+1) (by rfl) vA (by rfl) (by rw [aG];exact fN.out.2) (aJ kS.out.lo.2 kS.out.gk.size) ?_;intro g2 y9 iX oh kQ hrg2 _;have mB:Hid (RS tb B0 _ iX _ _ _ _ _ _):=kS.out.BM oh kQ (hrg2.imp id (fun e=>fB e.symm));refine hK.out _ _ (fun _=>mB.out.cells dz.out) (fun _=>?_);try simp only [Act.put,aA,aB,aC]
    obtain ⟨zP,o7⟩:=mB.out.cells dz.out;have QG:=mB.out.frozen dz.out 0;have Im:=mB.out.frozen dz.out 1;have jr:=aa (mB.out.store IA.out);refine aj.step (i:=11) rfl (by kernel_rfl) (fun K' hK=>?_);go_simp;refine hK.out _ _ (aO (by kernel_rfl)) (fun _=>?_);(try simp only [aA,aB,aC]);refine aj.fr 12 (aO (by kernel_rfl)) ?_;(try simp only [Act.put,aA,aB,aC]);refine aj.step (i:=13) rfl (by kernel_rfl) (fun K' hK=>?_);go_simp
    refine hK.out _ _ (aO (by kernel_rfl)) (fun _=>?_);refine aj.done (by kernel_rfl) ?_;go_wp2_with fail;go_meet
    case rel =>have eU:=jr.out;simp only [aG] at eU;exact ⟨_,_,eU.1,eU.2⟩
  ·go_simp
   have xk:Hid (RS tb B0 _ (Wd.alloc (.cells #[.string nm] 9)) _ _ _ _ _ _):=zS.out.up (Up.alloc _ _);refine hK.out _ _ (fun _=>xk.out.cells dz.out) (fun _=>?_);(try simp only [aA,aB,aC]);refine aj.step (i:=3) rfl (by kernel_rfl) (fun K' hK=>?_);go_simp;have ox:Hid (RS tb B0 _ ((Wd.alloc (.cells #[.string nm] 9)).alloc (.cells #[.int .i64 z] 3)) _ _ _ _ _ _):=xk.out.up (Up.alloc _ _);refine hK.out _ _ (fun _=>ox.out.cells dz.out) (fun _=>?_);try simp only [aA,aB,aC]
   have sI:=aS (Wd.alloc (.cells #[.string nm] 9)) #[.int .i64 z] 3 0;have uL:=(Up.alloc (Wd.alloc (.cells #[.string nm] 9)) (.cells #[.int .i64 z] 3)).cell (aS Wd #[.string nm] 9 0);rw [aQ] at sI;refine aj.step (i:=4) rfl (by kernel_rfl) (fun K' hK=>?_);refine fF (by rfl) _ _ _ (by rfl) B0 3 _ 8 Tryz.underlying26 Tryz.kE (by rfl) (by decide) (by rfl) ox.out.tl.dJ (.int .i64 z) (Wd.heap.size+1) (by rfl) sI (by rfl) (by rw [aG];exact fN.out.1) (aJ ox.out.lo.2 ox.out.gk.size) ?_;intro g1 Ij iO og gA hrg1 _
   have kS:Hid (RS tb B0 _ iO _ _ _ _ _ _):=ox.out.BK og gA (hrg1.imp id (fun e=>fB e.symm));(have vA:iO.cell? ⟨Wd.heap.size,0,none⟩=some (.string nm):=by rw [gA.cell_far ⟨Wd.heap.size,0,none⟩ (by simp;omega) (fun e=>absurd (av zS.out.tl.dJ e.symm).2 (by show ¬(Wd.heap.size<Wd.heap.size);omega))];exact uL);refine hK.out _ _ (fun _=>kS.out.cells dz.out) (fun _=>?_);(try simp only [Act.put,aA,aB,aC]);refine aj.fr 10 (fun _=>kS.out.cells dz.out) ?_
   (try simp only [Act.put,aA,aB,aC]);refine aj.step (i:=9) rfl (by kernel_rfl) (fun K' hK=>?_);refine fF (by rfl) _ _ _ (by rfl) B0 9 _ 16 Tryz.underlying22 Tryz.kR (by rfl) (by decide) (by rfl) kS.out.tl.eH (.string nm) Wd.heap.size (by rfl) vA (by rfl) (by rw [aG];exact fN.out.2) (aJ kS.out.lo.2 kS.out.gk.size) ?_;intro g2 y9 iX oh kQ hrg2 _;have mB:Hid (RS tb B0 _ iX _ _ _ _ _ _):=kS.out.BM oh kQ (hrg2.imp id (fun e=>fB e.symm))
   refine hK.out _ _ (fun _=>mB.out.cells dz.out) (fun _=>?_);(try simp only [Act.put,aA,aB,aC]);obtain ⟨zP,o7⟩:=mB.out.cells dz.out;have QG:=mB.out.frozen dz.out 0;have Im:=mB.out.frozen dz.out 1;have jr:=aa (mB.out.store IA.out);refine aj.step (i:=11) rfl (by kernel_rfl) (fun K' hK=>?_);go_simp;refine hK.out _ _ (aO (by kernel_rfl)) (fun _=>?_);(try simp only [aA,aB,aC]);refine aj.fr 12 (aO (by kernel_rfl)) ?_
   (try simp only [Act.put,aA,aB,aC]);refine aj.step (i:=13) rfl (by kernel_rfl) (fun K' hK=>?_);go_simp;refine hK.out _ _ (aO (by kernel_rfl)) (fun _=>?_);refine aj.done (by kernel_rfl) ?_;go_wp2_with fail;go_meet
   case rel =>have eU:=jr.out;simp only [aG] at eU;exact ⟨_,_,eU.1,eU.2⟩
 case rest =>
  obtain ⟨P2,N2,hG2,hK2⟩:=hcut;obtain ⟨d0,d1,_,_⟩:=hG2.cells;have e1:(t.push z nm).ps.length=t.ps.length+1:=by simp [az.push]
  obtain ⟨z7,z8,rfl,_⟩:=hG2.tl.dJ.form (n:=t.ps.length+1) (by simp [e1]);have HF:=aa (⟨_,_,hG2,hK2⟩:∃P' N',GS tb B0 wc P' N' (t.push z nm)/\GK tb w wc (.slice pp t.ps.length pc) (.slice np t.ps.length nc) P' N');have i1:wrap64 ((((t.ps.length+1:Nat)):Int) - 1)=(t.ps.length:Int):=by unfold wrap64;omega
  have i2:wrap64 ((t.ps.length:Int)+1 - 1)=(t.ps.length:Int):=by unfold wrap64;omega
  clear hG2 hK2 e1 hc0 hc1;go_wp2_with fail;go_ret;exact ⟨aM (by first | rfl | omega | simp),HF.out⟩
theorem R4 (S:Nat->Prop) (w:World) (bo bn br:Nat) (ov nv:Value) (own:List (List Int)) (qW:List Int) (x:Int) (m:Nat) (ho:w.cell? ⟨bo,0,none⟩=some ov) (hO:aR S w ov own) (hn:w.cell? ⟨bn,0,none⟩=some nv) (hN:ah S w nv qW) (hr:w.cell? ⟨br,0,none⟩=some (.int .i64 2))
  (hm:m<=own.length) (hm2:m<=qW.length) (fe:∀k,k<m->gi qW k=((3+k:Nat):Int)) (Y5:own.length<=1000) (hl:∀k,(gl own k).length<=1000000) :
  Calls Tryz.prog 83 #[.int .i64 x,.int .i64 (m:Int),.pointer (some ⟨bo,0,none⟩),.pointer (some ⟨bn,0,none⟩),.pointer (some ⟨br,0,none⟩)] w fun e w'=>e=.returned (.int .i64 (gF own x m))/\w=w':=by
 obtain ⟨op,oc,rfl,-,-⟩:=dW hO;obtain ⟨np,nc,rfl,-,-⟩:=ay.open hN;have HO:Hid (aR S w (.slice op own.length oc) own):=hO;have HN:Hid (ah S w (.slice np qW.length nc) qW):=hN;have G2:=aa fe;have HL:=aa hl;have m1:wrap64 ((m:Int) - 1)=(m:Int) - 1:=by unfold wrap64;omega
 clear hO hN fe hl
 go_enter Tryz.func83,Tryz.ntmps83
 go_wp2_with fail;clear m1
 go_loop [8] (fun i=>∃k:Nat,k<=m/\i=.int .i64 ((k:Int) - 1)/\Hid (gF own x m=gF own x k)) (fun i=>(intOf i+1).toNat)
 case atStart=>exact ⟨m,af _,rfl,rfl⟩
 case round =>
  obtain ⟨k,hk,rfl,hd⟩:=hrel;cases k with
  | zero =>
   (have i0:¬(0:Int)<=((0:Nat):Int) - 1:=by decide);go_wp2_with fail;go_ret;exact ⟨aM hd.out.symm,rfl⟩
  | succ k =>
   obtain ⟨b,off,q,c,rfl,hc,hi⟩:=gP HO.out (show k<own.length by omega);obtain ⟨b2,off2,rfl,hc2⟩:=dG HN.out (show k<qW.length by omega);rw [G2.out k (by omega)] at hc2;(have oU:Hid (Calls Tryz.prog 14 #[.slice q (gl own k).length c,.int .i64 x] w fun e w'=>e=.returned (.bool ((gl own k).contains x))/\w=w'):=by have h:=tY S w _ (gl own k) x hi (HL.out k);rw [Jo] at h;exact h);have HQ:Hid (gF own x (k+1)=if (gl own k).contains x then ((3+k:Nat):Int) else gF own x k):=rfl;(have e1:((k+1:Nat):Int) - 1=(k:Int):=by omega);rw [e1]
   have k1:(0:Int)<=(k:Int):=CG _;(have k2:(k:Int)<(own.length:Int):=by omega);(have k3:(k:Int)<(qW.length:Int):=by omega);(have k4:wrap64 ((k:Int) - 1)=(k:Int) - 1:=by unfold wrap64;omega);clear hi e1;cases hct:(gl own k).contains x
   ·rw [hct] at oU HQ
    (have HQ2:Hid (gF own x m=gF own x k):=by unfold Hid;rw [hd.out,HQ.out,if_neg (by decide)]);clear hct;go_wp2_with fail;refine oU.out.mono ?_;rintro e w' ⟨rfl,rfl⟩;go_wp2_with fail
    go_round
    case rel=>exact ⟨k,by omega,rfl,HQ2⟩
    case measure=>clear k4;simp [intOf]
   ·rw [hct] at oU HQ
    (have HQ2:Hid (gF own x m=((3+k:Nat):Int)):=by unfold Hid;rw [hd.out,HQ.out,if_pos rfl]);clear hct k4;go_wp2_with fail;refine oU.out.mono ?_;rintro e w' ⟨rfl,rfl⟩;go_wp2_with fail;go_ret;exact ⟨aM (by rw [HQ2.out];omega),rfl⟩
theorem Tryz.infoSIc:(Tryz.prog.info? 26).map (fun i=>(i.zero,i.size,i.bytes))=some (some (.slice none 0 0),1,24):=by kernel_rfl
def ZJ (S:Nat->Prop) (w:World) (T:TypeId) (xs:List (List Int)) (en:Ending) (w':World):Prop :=
 Up w w'/\∃u vals,en=.returned u/\vals.length=xs.length/\ax w.heap.size T w' u vals/\∀i,i<xs.length->ah S w' (vals.getD i undef) (gl xs i)
theorem nil_rows {S:Nat->Prop} {w:World} {n cap:Nat} {xs:List (List Int)} (h:aR S w (.slice none n cap) xs):xs=[]:=by
 obtain ⟨f,⟨q,c,e,_,h⟩,_⟩:=h;injection e with e1 e2 e3;rcases h with h | ⟨b,off,h,_⟩
 ·exact oJ h
 ·rw [<- e1] at h;cases h
theorem slice_one {u:Value} (h:∃p n c,u=.slice p n c):u.oneCell'=true:=by obtain ⟨_,_,_,rfl⟩:=h;rfl
theorem Jt (S:Nat->Prop) (w:World) (v:Value) (xs:List (List Int)) (h:aR S w v xs) (hn:xs.length<=1000000) :
  Calls Tryz.prog 76 #[v] w (ZJ S w 26 xs):=by
 obtain ⟨p,cap,rfl,hcap,_⟩:=dW h;cases p with
 | none =>
  obtain rfl:=nil_rows h;have heq:=fun (w:World)=>Lib.run_eql_slice_nil (P:=Tryz.prog) w 23 26 none 0 cap 0 0 Tryz.underlying23;clear h
  go_enter Tryz.func76,Tryz.ntmps76
  go_wp2_with fail;go_ret;exact ⟨Up.refl _,_,[],rfl,rfl,ax.nil _ _ _,fun i hi=>absurd hi (bG _)⟩
 | some p =>
  have heq:=fun (w:World)=>Lib.run_eql_slice_nil (P:=Tryz.prog) w 23 26 (some p) xs.length cap 0 0 Tryz.underlying23;have hu:=Up.alloc w (.cells #[] 26);obtain ⟨f,jf,hr⟩:=h;obtain ⟨q,c,e,_,H⟩:=ay.open (ay.keep jf (hu.kept S));injection e with e1 e2 e3;subst e1;have hnl:((List.range xs.length).map f).length=xs.length:=by simp
  have hnews:∀j u,((List.range xs.length).map f)[j]? = some u->(w.alloc (.cells #[] 26)).cell? (p.add j)=some u:=fun j u hj=>by (have hj2:j<xs.length:=by have:=(pF.1 hj).1;simpa using this);obtain ⟨b,off,e,hc⟩:=H j hj2;injection e with e;subst e;(have DK:(⟨b,off,none⟩:Addr).add j=⟨b,off+j,none⟩:=by unfold Addr.add;split<;>simp_all);rw [DK,hc];simp [hj2] at hj;rw [hj]
  have hone:∀u∈(List.range xs.length).map f,u.oneCell'=true:=fun u aK=>by obtain ⟨k,hk,rfl⟩:=cm.1 aK;obtain ⟨p',c',e',_⟩:=hr k (bh.1 hk);exact slice_one ⟨_,_,_,e'⟩
  have HU:=aa hu;have HN:=aa hnews;have HO:=aa hone;have iu:=aa hnl;have HR:=aa hr;have HM:=aa (ax.made w 26);clear jf hr H hnews hu hone hnl e2 e3
  go_enter Tryz.func76,Tryz.ntmps76
  go_wp2_with (at_builtin;refine XZ _ rfl _ _ 23 rfl w.heap.size 26 (.slice none 0 0) 24 Tryz.underlying23 Tryz.infoSIc rfl (by decide) HM.out rfl p cap ((List.range xs.length).map f) (by rw [iu.out];rfl) HN.out HO.out (by rw [iu.out];simp;omega) (by simp) ?_;intro v' w' hown' hgrow hbel);go_ret;have fT:Up w w':=iH HU.out hbel;refine ⟨fT,_,(List.range xs.length).map f,rfl,iu.out,by simpa using hown',fun i hi=>?_⟩;have e:((List.range xs.length).map f).getD i undef=f i:=by simp [hi]
  rw [e];exact (HR.out i hi).keep (fT.kept S)
end
end Go.Proofs.YthgabkgmkolobaaGreat
