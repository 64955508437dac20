/- top38Kinds; the law's closure. Plain and map help for optimaltree.Best. TopGenealogies: .. -/
import Derived.Test.YtfomhlbhcifgbaaGreatDoorQ47
set_option maxRecDepth 100000
set_option maxHeartbeats 2000000
namespace Go.Proofs.YtfomhlbhcifgbaaGreatDoor
section
open Go.RowKit Go.Deep
def gy (l:List Int) (k:Nat):List Int:=kR (bJ (l.take k))
theorem L5 {l:List Int} {k:Nat} (h:k<l.length):gy l (k+1)=if 0<=gi l k/\gi l k∉gy l k then gy l k++[gi l k] else gy l k:=by
 unfold gy;rw [xD h];by_cases h0:0<=gi l k
 ·rw [if_pos h0,wG]
  by_cases hm:gi l k∈kR (bJ (l.take k))
  ·rw [if_pos hm,if_neg (fun e=>e.2 hm)]
  ·rw [if_neg hm,if_pos ⟨h0,hm⟩]
 ·rw [if_neg h0,if_neg (fun e=>h0 e.1)]
theorem Pk (l:List Int) (k:Nat):(gy l k).length<=l.length:=by
 unfold gy;refine aV (R1 _) (aV (mP _ _) ?_);rw [iy];omega
theorem Vb (S:Nat->Prop) (w:World) (v:Value) (l:List Int) (h:af S w v l) (hn:l.length<=7) :
  Calls Tryz.prog 13 #[v] w fun e w'=>e=.returned (.int .i64 ((dd (bJ l)).length))/\Up w w':=by
 obtain ⟨ip,ic,rfl,-,-⟩:=aB.open h;have h:af S w (.slice ip l.length ic) l:=h;have HI:=aa h;have HF:Hid ((gy l l.length).length=(dd (bJ l)).length):=by unfold Hid gy;rw [gq,EI]
 clear h;go_in;go_wp2
 go_loopw [3,5,8] (fun o _ i wr=>∃k:Nat,k<=l.length/\i=.int .i64 k/\Hid (au w.heap.size 3 wr o ((gy l k).map (Value.int .i64)))/\Hid (Up w wr)) (fun _ _ i _=>l.length - (intOf i).toNat)
 case atStart=>exact ⟨0,bg _,rfl,au.nil _ _ _,Up.refl _⟩
 case round =>
  obtain ⟨k,hk,rfl,hO,hU⟩:=hrel;obtain ⟨wo,rfl⟩:=e9 wr;obtain ⟨op,oc,rfl,-⟩:=hO.out.form (n:=(gy l k).length) (by simp);have kG:=Pk l k;by_cases hlt:k<l.length
  ·obtain ⟨ib,io,rfl,hci⟩:=dh (af.keep HI.out (hU.out.kept S)) hlt
   have sk:=aa (L5 hlt);(have zA:Hid (((gy l k).map (Value.int .i64)).length<=1000000):=by unfold Hid;rw [aD];omega);have fK:=aa (uz _ wo _ (gy l k) (gi l k) hO.out.ints (by omega));rw [DU] at fK;(have j1:(k:Int)<(l.length:Int):=by omega);(have j2:(k:Int)<8:=by omega);have bf:=aa hlt;have fW:Hid (w.heap.size<=wo.heap.size):=hU.out.size;clear hlt;generalize gi l k=x at *;by_cases hx:0<=x
   ·cases hm:decide (x∈gy l k)
    ·rw [hm] at fK
     (have Pm:Hid (gy l (k+1)=gy l k++[x]):=by unfold Hid;rw [sk.out,if_pos ⟨hx,by simpa using hm⟩]);clear hm sk;go_wp2_with fail;refine fK.out.mono ?_;rintro e w' ⟨rfl,rfl⟩;clear fK;go_wp2_with (at_builtin;refine ja wo rfl _ _ 27 rfl w.heap.size 3 _ 8 Tryz.underlying27 Tryz.p8 rfl (by decide) hO.out rfl (.int .i64 x) rfl rfl zA.out fW.out ?_;intro g8 mY w8 cD eC jC;have tj:=aa cD;have lg:=aa jC;clear cD eC jC)
     go_roundw
     case rel=>exact ⟨k+1,bf.out,by go_num,by rw [Pm.out,cm];have h:=tj.out;rw [aD] at h;exact h,dI (show Below w.heap.size w wo from hU.out) lg.out⟩
     case measure=>have:=bf.out;simp [intOf];omega
    ·rw [hm] at fK
     (have Pm:Hid (gy l (k+1)=gy l k):=by unfold Hid;rw [sk.out,if_neg (fun e=>e.2 (by simpa using hm))]);clear hm sk;go_wp2_with fail;refine fK.out.mono ?_;rintro e w' ⟨rfl,rfl⟩;clear fK;go_wp2
     go_roundw
     case rel=>exact ⟨k+1,bf.out,by go_num,by rw [Pm.out];exact hO.out,hU.out⟩
     case measure=>have:=bf.out;simp [intOf];omega
   ·have Pm:Hid (gy l (k+1)=gy l k):=by unfold Hid;rw [sk.out,if_neg (fun e=>hx e.1)]
    clear sk fK;go_wp2
    go_roundw
    case rel=>exact ⟨k+1,bf.out,by go_num,by rw [Pm.out];exact hO.out,hU.out⟩
    case measure=>have:=bf.out;simp [intOf];omega
  ·obtain rfl:k=l.length:=by omega
   rw [HF.out];clear kG hO;go_wp2;go_ret;exact ⟨rfl,hU.out⟩
theorem Vc (S:Nat->Prop) (w:World) (v:Value) (l:List Int) (h:af S w v l) (hn:l.length<=7) :
  Calls Tryz.prog 12 #[v] w fun e w'=>e=.returned (.bool (decide (2<(dd (bJ l)).length)))/\Up w w':=by
 obtain ⟨ip,ic,rfl,-,-⟩:=aB.open h;have HK:=aa (Vb S w _ l h hn);clear h;generalize (dd (bJ l)).length=d at *;go_in;go_wp2_with fail;refine HK.out.mono ?_;rintro e w1 ⟨rfl,aM⟩;have bU:=aa aM;clear aM HK;by_cases hd:2<d
 ·have d1:decide ((2:Int)<(d:Int))=true:=by simp;omega
  have d2:decide (2<d)=true:=by simp [hd]
  have D2:=aa d2;clear hd d2;go_wp2;go_ret;exact ⟨bu D2.out.symm,bU.out⟩
 ·have d1:decide ((2:Int)<(d:Int))=false:=by simp;omega
  have d2:decide (2<d)=false:=by simp;omega
  have D2:=aa d2;clear hd d2;go_wp2;go_ret;exact ⟨bu D2.out.symm,bU.out⟩
def R9 (places:List (List Int)):Bool:=(List.range places.length).any fun k=>decide (2<(dd (bJ (gl places k))).length)
theorem I2 (S:Nat->Prop) (w:World) (v:Value) (places:List (List Int)) (h:aS S w v places) (hn:places.length<=4) (h7:∀k,k<places.length->(gl places k).length<=7) :
  Calls Tryz.prog 11 #[v,.func (.func 12) #[] #[]] w fun e w'=>e=.returned (.bool (R9 places))/\Up w w':=by
 obtain ⟨f,hf,hr⟩:=h;exact L3 12 #[] (enters_of Tryz.func12 (by kernel_rfl) rfl) S w v places.length f (fun k=>decide (2<(dd (bJ (gl places k))).length)) hf (by omega) fun k w' hk hu=>Vc S w' _ (gl places k) (af.keep (hr k hk) (hu.kept S)) (h7 k hk)
def gR (acF:List ByteArray) (k:Nat):RT:=(dN acF).getD k (.node ByteArray.empty [])
theorem Dl {acF:List ByteArray} {k:Nat} (h:k<(dN acF).length):gt (allT acF) k=flat (gR acF k):=by
 unfold allT gR gt;simp [h]
theorem I3 {acF:List ByteArray} {k:Nat} (h:k<(dN acF).length):gR acF k∈dN acF:=by simp [gR,h]
theorem Sa {acF:List ByteArray} (hn:iE acF) {j k:Nat} (hj:j<(dN acF).length) (hk:k<(dN acF).length) (e:eM (gR acF j)=eM (gR acF k)):gR acF j=gR acF k:=by
 have e1:dc (gR acF j)=dc (gR acF k):=by have:=congrArg (fun b:ByteArray=>b.data.toList) e;simpa [eM] using this
 exact N5 (iX hn (I3 hj)).1.good.nR (iX hn (I3 hk)).1.good.nR (List.append_cancel_right e1)
def qj (acF:List ByteArray) (acG:List (List Int)) (k:Nat):Int:=dX (gt (allT acF) k) acF acG
def Aa (acF:List ByteArray) (acG:List (List Int)):Nat->List (ByteArray×Value)
 | 0=>[]
 | n+1=>rU (Aa acF acG n) (eM (gR acF n)) (.int .i64 (qj acF acG n))
theorem I4 (acF:List ByteArray) (acG:List (List Int)):∀n,vK (Aa acF acG n)
 | 0=>by unfold vK Aa;simp
 | n+1=>M6 (I4 acF acG n) _ _
theorem I5 {acF:List ByteArray} (hn:iE acF) (acG:List (List Int)) {k:Nat} (hk:k<(dN acF).length):∀ {n:Nat},n<=(dN acF).length->k<n->(Aa acF acG n).lookup (eM (gR acF k))=some (.int .i64 (qj acF acG k))
 | 0,_,h=>absurd h (cz _)
 | n+1,hle,h=>by
  rw [Aa,Jn]
  split
  ·rename_i e
   have e2:=Sa hn hk (show n<_ by omega) e
   unfold qj
   rw [Dl hk,Dl (show n<_ by omega),e2]
  ·rename_i e
   have:k≠n:=fun e3=>e (by rw [e3])
   exact I5 hn acG hk (by omega) (by omega)
def qB (acF:List ByteArray) (acG:List (List Int)) (n:Nat):List aA:=((allT acF).take n).filter fun t=>decide (dX t acF acG=dY acF acG)
theorem Pn {acF:List ByteArray} (acG:List (List Int)) {n:Nat} (h:n<(allT acF).length):qB acF acG (n+1)=qB acF acG n++if qj acF acG n=dY acF acG then [gt (allT acF) n] else []:=by
 unfold qB qj;rw [Va h,o8];congr 1;by_cases e:dX (gt (allT acF) n) acF acG=dY acF acG
 ·rw [if_pos e];simp [e]
 ·rw [if_neg e];simp [e]
theorem Sb (acF:List ByteArray) (acG:List (List Int)):qB acF acG (allT acF).length=eY acF acG:=by
 unfold qB eY;rw [gq]
theorem Po {acF:List ByteArray} {acG:List (List Int)} (hc:lG acF acG) {n:Nat} (h:n<(allT acF).length):0<=qj acF acG n/\qj acF acG n<=409600000:=by
 have ho:=(ri hc.nm (yF h)).1;have h1:=Dg (f:=fun p=>cI (gt (allT acF) n) (gj (gt (allT acF) n) acF acG p) (bT 16)) (n:=(gl acG 0).length) fun p hp=>⟨rz (qd hc ho hp),Ds (qd hc ho hp)⟩;have h2:=(OG hc.ag).2;unfold qj dX;omega
def su (acF:List ByteArray) (acG:List (List Int)) (n:Nat):Int:=jl (qj acF acG) n
theorem Pp {acF:List ByteArray} {acG:List (List Int)} (hc:lG acF acG):∀ {n:Nat},n<=(allT acF).length -> -1<=su acF acG n/\su acF acG n<=409600000
 | 0,_=>by unfold su jl;omega
 | n+1,h=>by
  have h1:=Pp hc (n:=n) (by omega)
  have h2:=Po hc (n:=n) h
  unfold su at h1 ⊢
  rw [je]
  split<;>omega
theorem Sc (acF:List ByteArray) (acG:List (List Int)) (n:Nat):su acF acG (n+1)=if su acF acG n<0\/qj acF acG n<su acF acG n then qj acF acG n else su acF acG n:=rfl
theorem Vd (acF:List ByteArray) (acG:List (List Int)):su acF acG (allT acF).length=dY acF acG:=rfl
end
section
def gG (t:aA) (acF:List ByteArray) (acG:List (List Int)):List (List Int):=(List.range (gl acG 0).length).map (fJ t acF acG)
theorem nK (t:aA) (acF:List ByteArray) (acG:List (List Int)):(gG t acF acG).length=(gl acG 0).length:=by simp [gG]
theorem Pq {t:aA} {acF:List ByteArray} {acG:List (List Int)} {p:Nat} (h:p<(gl acG 0).length):gl (gG t acF acG) p=fJ t acF acG p:=by
 have e:∀n,p<n->gl ((List.range n).map (fJ t acF acG)) p=fJ t acF acG p:=fun n h=>by simp [gl,h]
 exact e _ h
theorem Sd {t:aA} {acF:List ByteArray} {acG:List (List Int)} {p i:Nat} (hc:lG acF acG) (ho:qy t acF) (hp:p<(gl acG 0).length) (hi:i<t.ps.length):-1<=gi (fJ t acF acG p) i/\gi (fJ t acF acG p) i<16:=by
 by_cases h0:(gs t.ns i).size=0
 ·rw [Cn hi h0];omega
 ·obtain ⟨k,hk,_,e⟩:=EL (acG:=acG) (p:=p) hc ho hi h0
  rw [e];exact ((B8 hc.ag).2 k (by rw [hc.len];exact hk)).2 p hp
structure sw (acF:List ByteArray) (acG:List (List Int)) (t:aA):Prop where
 cs:lG acF acG
 of:qy t acF
 sc:dX t acF acG=dY acF acG
 lo:3<=t.ps.length
 hi:t.ps.length<=7
 m4:(gl acG 0).length<=4
theorem Dm {acF:List ByteArray} {acG:List (List Int)} (hc:lG acF acG):0<(eY acF acG).length/\(eY acF acG).length<=15/\∀k,k<(eY acF acG).length->gt (eY acF acG) k∈allT acF/\dX (gt (eY acF acG) k) acF acG=dY acF acG:=by
 obtain ⟨_,_,t,ht,e⟩:=Jt hc;have hm:t∈eY acF acG:=nO.2 ⟨ht,decide_eq_true e⟩;refine ⟨List.length_pos_of_mem hm,?_,fun k hk=>?_⟩
 ·have h1:(eY acF acG).length<=(allT acF).length:=mP _ _
  have h2:(allT acF).length=(dN acF).length:=by unfold allT;rw [aD]
  have h3:(dN acF).length<=15:=by rw [wm hc.nm];split<;>(try split)<;>(try split)<;>omega
  omega
 ·obtain ⟨h1,h2⟩:=nO.1 (yF hk)
  exact ⟨h1,of_decide_eq_true h2⟩
theorem Z9 {acF:List ByteArray} {acG:List (List Int)} {k:Nat} (hc:lG acF acG) (h4:acF.length<=4) (hm:(gl acG 0).length<=4) (hk:k<(eY acF acG).length):sw acF acG (gt (eY acF acG) k):=by
 have h:=(Dm hc).2.2 k hk;have h2:=RX hc.nm h4 h.1;exact ⟨hc,(ri hc.nm h.1).1,h.2,h2.1,h2.2,hm⟩
section
variable {acF:List ByteArray} {acG:List (List Int)} {t:aA}
theorem sw.stm (h:sw acF acG t) (hd:qm t=false):fD (bI t) (aH t):=R2 h.cs.nm h.of h.hi hd
theorem sw.ext (h:sw acF acG t) (hd:qm t=false) {c p:Nat} (he:dw (aH t) c p):fD (bI t) (bk (aH t) c p):=OM h.of.te (h.stm hd) he
theorem sw.pls (h:sw acF acG t) (hb:R9 (gG t acF acG)=false):LZ (bI t).length (gG t acF acG):=by
 refine ⟨by rw [nK];exact h.m4,fun k hk=>?_⟩;rw [nK] at hk;have h2:=yP.1 hb k (bX.2 (by rw [nK];exact hk));rw [Pq hk] at h2 ⊢;rw [di];exact ⟨jg,fun i hi=>Sd h.cs h.of hk hi,IC (by simpa using h2)⟩
theorem sw.total (h:sw acF acG t):dF (aH t) (gG t acF acG)=dY acF acG:=(LR h.cs h.of).trans h.sc
theorem sw.best (h:sw acF acG t):let b:=mL (aH t) (gG t acF acG) (aH t).length
  (b.f=false->∀c p,dw (aH t) c p->dF (bk (aH t) c p) (gG t acF acG)=dY acF acG) /\
  (b.f=true->dw (aH t) b.c b.p/\dF (bk (aH t) b.c b.p) (gG t acF acG)=b.n/\b.n<dY acF acG/\uh (bk (aH t) b.c b.p)=[(b.c:Int)]) /\
  (∀c p,dw (aH t) c p->b.n<=dF (bk (aH t) c p) (gG t acF acG)) /\
  (∀c p,dw (aH t) c p->dF (bk (aH t) c p) (gG t acF acG)<=dY acF acG):=by
 obtain ⟨h1,h2,h3⟩:=RO (aH t) (gG t acF acG);have hle:∀c p,dw (aH t) c p->dF (bk (aH t) c p) (gG t acF acG)<=dY acF acG:=fun c p he=>by rw [<- h.total];exact (RN (RY he)).total _
 rw [h.total] at h1 h2;exact ⟨fun hf c p he=>Int.le_antisymm (hle c p he) (h1 hf c p he),fun hf=>⟨(h2 hf).1,(h2 hf).2.1.symm,(h2 hf).2.2,UU (h2 hf).1⟩,h3,hle⟩
end
def iF (t:aA) (acF:List ByteArray) (acG:List (List Int)) (p i:Nat):List Int:=(List.range t.ps.length).map fun j=>if j<i then gi (fJ t acF acG p) j else -1
theorem AZ (t:aA) (acF:List ByteArray) (acG:List (List Int)) (p i:Nat):(iF t acF acG p i).length=t.ps.length:=by simp [iF]
theorem Sg (t:aA) (acF:List ByteArray) (acG:List (List Int)) (p:Nat):iF t acF acG p t.ps.length=fJ t acF acG p:=by
 refine qJ (by rw [AZ,jg]) fun j h1 h2=>?_;rw [AZ] at h1;simp [iF,h1,gi,h2]
theorem Pr (t:aA) (acF:List ByteArray) (acG:List (List Int)) (p:Nat):iF t acF acG p 0=List.replicate t.ps.length (-1):=by
 refine qJ (by simp [iF]) fun j h1 h2=>?_;simp [iF]
theorem I6 {t:aA} {acF:List ByteArray} {acG:List (List Int)} {p i:Nat}:iF t acF acG p (i+1)=(iF t acF acG p i).set i (gi (fJ t acF acG p) i):=by
 refine qJ (by simp [iF]) fun j h1 h2=>?_;rw [List.getElem_set];simp only [iF,List.getElem_map,List.getElem_range];by_cases e:i=j
 ·subst e;simp
 ·rw [if_neg e]
  by_cases hj:j<i
  ·rw [if_pos hj,if_pos (by omega)]
  ·rw [if_neg hj,if_neg (by omega)]
theorem Pt {t:aA} {acF:List ByteArray} {acG:List (List Int)} {p i:Nat} (h0:gi (fJ t acF acG p) i = -1):iF t acF acG p (i+1)=iF t acF acG p i:=by
 rw [I6,h0];refine qJ (by simp) fun j h1 h2=>?_;rw [List.getElem_set];by_cases e:i=j
 ·subst e;simp [iF]
 ·rw [if_neg e]
theorem Sh {t:aA} {acF:List ByteArray} {acG:List (List Int)} {p:Nat} (h:p<(gl acG 0).length):(gG t acF acG).take (p+1)=(gG t acF acG).take p++[fJ t acF acG p]:=by
 have hl:p<(gG t acF acG).length:=by rw [nK];exact h
 rw [iL hl];simp [gG]
end
end Go.Proofs.YtfomhlbhcifgbaaGreatDoor
