/- Plain: the bound of scores. Plain: the root of binary trees moved; the sources in another .. -/
import Derived.Shelf.Slices.Empties
import Derived.Shelf.Slices.SearchI
import Derived.Test.YtfomhlbhcifgbaaGreatDoorQ34
import Derived.Test.YtfomhlbhcifgbaaGreatDoorQ32
set_option maxRecDepth 100000
set_option maxHeartbeats 2000000
namespace Go.Proofs.YtfomhlbhcifgbaaGreatDoor
section
theorem UM (l:List Int) (x:Int):(dd (l++[x])).length=(dd l).length+if x∈l then 0 else 1:=by
 have h1:(dd (l++[x])).length=(dd (x::l)).length:=Nat.le_antisymm (Sy fun y hy=>by
  rw [eD,eN] at hy
  rw [bQ];exact hy.symm) (Sy fun y hy=>by
  rw [bQ] at hy
  rw [eD,eN];exact hy.symm)
 rw [h1];show (if x∈dd l then dd l else x::dd l).length=_;by_cases h:x∈l
 ·rw [if_pos (nT.2 h),if_pos h];rfl
 ·rw [if_neg (fun e=>h (nT.1 e)),if_neg h];rfl
end
section
instance aaQ (x:ByteArray) (l:List ByteArray):Decidable (x∈l):=decidable_of_iff (l.any (fun y=>decide (y=x))=true) (by simp)
end
section
open Go.RowKit Go.Deep
theorem Rw (acF:List ByteArray) (k:Nat):((List.range k).any fun j=>decide (gs acF k=gs acF j))=fO acF k:=by
 unfold fO;congr 1;funext j;by_cases e:gs acF j=gs acF k
 ·rw [decide_eq_true e,decide_eq_true e.symm]
 ·rw [decide_eq_false e,decide_eq_false fun q=>e q.symm]
end
section
def j8 (P:List (List Int)) (all:List Int) (i:Nat):Int:=if gl P i≠[]/\∀p∈gl P i,gi all p.toNat≠gi all i then 1 else 0
def dx (P:List (List Int)) (all:List Int):Int:=aY (j8 P all) P.length
theorem UN (P:List (List Int)) (all:List Int) (i:Nat):0<=j8 P all i:=by unfold j8;split<;>omega
theorem wA (P:List (List Int)) (all:List Int):0<=dx P all:=mz fun c _=>UN P all c
theorem B9 {t:aA} (ht:aF t=0) {n:Nat} {all:List Int} (ha:vD t.ps.length n all):dx (aH t) all=sQ t (bT n) all:=by
 rw [T7 ht ha];unfold dx;rw [cG];refine bS fun c hc=>?_;unfold j8;rw [oL hc];by_cases h0:c=0
 ·simp [h0]
 ·rw [if_neg h0,if_pos (show 0<c by omega)]
  by_cases e:gi all (gi t.ps c).toNat=gi all c
  ·rw [if_pos e,if_neg];rintro ⟨_,h⟩;exact h _ (eN.2 rfl) e
  ·rw [if_neg e,if_pos];refine ⟨by simp,fun p hp=>?_⟩;rw [eN.1 hp];exact e
def Ks (st:List Int) (x:Int):Prop:=(x∈st/\0<=x)\/((∀y∈st,y<0)/\x=0)
def zb (st b:List Int):Prop:=b.length=st.length/\∀i,i<st.length->(0<=gi st i->gi b i=gi st i)/\(gi st i<0->Ks st (gi b i))
def nI (P:List (List Int)) (st:List Int) (n:Int):Prop:=(∃b,zb st b/\dx P b=n)/\∀b,zb st b->n<=dx P b
theorem nI.uniq {P:List (List Int)} {st:List Int} {n m:Int} (h:nI P st n) (k:nI P st m):n=m:=by
 obtain ⟨⟨b,hb,e⟩,h2⟩:=h;obtain ⟨⟨c,hc,e'⟩,k2⟩:=k;have:=h2 c hc;have:=k2 b hb;omega
theorem Ol (st:List Int):∃x,Ks st x:=by
 by_cases h:∃y∈st,0<=y
 ·obtain ⟨y,hy,h0⟩:=h;exact ⟨y,.inl ⟨hy,h0⟩⟩
 ·exact ⟨0,.inr ⟨fun y hy=>by by_cases h1:0<=y;exact absurd ⟨y,hy,h1⟩ h;omega,rfl⟩⟩
theorem Rx {l:List Int} {i:Nat} (h:i<l.length):gi l i∈l:=by simp [gi,h]
theorem wC {l:List Int} {f:Int->Int} {i:Nat} (h:i<l.length):gi (l.map f) i=f (gi l i):=by simp [gi,h]
open Classical in
theorem Ry {P:List (List Int)} {st all:List Int} {n:Int} (hP:∀i,i<P.length->∀p∈gl P i,0<=p/\p<i) (hl:P.length=st.length) (ha:all.length=st.length) (hf:∀i,i<st.length->0<=gi st i->gi all i=gi st i) (hc:dx P all=n) (hlo:∀b,zb st b->n<=dx P b):nI P st n:=by
 obtain ⟨x0,hx0⟩:=Ol st;have hb:zb st (all.map fun x=>if Ks st x then x else x0):=by
  refine ⟨by rw [aD];exact ha,fun i hi=>⟨fun h0=>?_,fun _=>?_⟩⟩
  ·rw [wC (by omega),hf i hi h0,if_pos (.inl ⟨Rx hi,h0⟩)]
  ·rw [wC (by omega)];split
   ·assumption
   ·exact hx0
 have hle:dx P (all.map fun x=>if Ks st x then x else x0)<=dx P all:=by
  unfold dx;refine kV fun i hi=>?_;unfold j8;split
  ·rename_i h
   rw [if_pos]
   ·exact jN _
   ·refine ⟨h.1,fun p hp e=>h.2 p hp ?_⟩
    have:=hP i hi p hp;rw [wC (by omega),wC (by omega),e]
  ·split<;>omega
 exact ⟨⟨_,hb,Int.le_antisymm (by omega) (hlo _ hb)⟩,hlo⟩
structure wD (P Q:List (List Int)):Prop where
 len:Q.length=P.length
 emp:∀i,i<P.length->gl P i=[]->gl Q i=[]
 sub:∀i,i<P.length->∀p∈gl P i,p∈gl Q i
theorem wD.cost {P Q:List (List Int)} (h:wD P Q) (all:List Int):dx Q all<=dx P all:=by
 unfold dx;rw [h.len];refine kV fun i hi=>?_;unfold j8;split
 ·rename_i hq
  rw [if_pos]
  ·exact jN _
  ·exact ⟨fun e=>hq.1 (h.emp i hi e),fun p hp=>hq.2 p (h.sub i hi p hp)⟩
 ·split<;>omega
theorem wD.least {P Q:List (List Int)} (h:wD P Q) {st:List Int} {n m:Int} (hn:nI P st n) (hm:nI Q st m):m<=n:=by
 obtain ⟨⟨b,hb,e⟩,_⟩:=hn;have:=hm.2 b hb;have:=h.cost b;omega
section
variable {t:aA} {acF:List ByteArray} {acG:List (List Int)} {p:Nat}
def fJ (t:aA) (acF:List ByteArray) (acG:List (List Int)) (p:Nat):List Int:=(List.range t.ps.length).map fun i=>ig t.ns (gj t acF acG p) i
theorem jg:(fJ t acF acG p).length=t.ps.length:=by simp [fJ]
theorem uT {i:Nat} (h:i<t.ps.length):gi (fJ t acF acG p) i=ig t.ns (gj t acF acG p) i:=by simp [gi,fJ,h]
theorem LQ (hc:lG acF acG) (ho:qy t acF) (hp:p<(gl acG 0).length):nI (aH t) (fJ t acF acG p) (cI t (gj t acF acG p) (bT 16)):=by
 have hv:=qd hc ho hp;have hle:(bT 16).length=16:=kY 16;obtain ⟨j9,_,hnl,hok,_⟩:=aG ho.te;have F:=hv.fine;refine Ry (all:=fV t (gj t acF acG p) (bT 16)) (fun i hi q hq=>?_) (by rw [cG,jg]) (by rw [Fl,jg]) (fun i hi h0=>?_) ?_ fun b hb=>?_
 ·rw [cG] at hi
  rw [oL hi] at hq;split at hq
  ·cases hq
  ·rw [eN.1 hq]
   exact ⟨F.PF i (by omega) hi,F.Bb i hi⟩
 ·rw [jg] at hi
  rw [uT hi] at h0 ⊢;exact vF (Fo hv) i h0
 ·have ha:=Fm hv
  rw [B9 ho.te (n:=16) (by rw [hle] at ha;exact ha)];exact PM hv
 ·have hb1:vD t.ps.length 16 b:=by
   refine ⟨by rw [hb.1,jg],fun k hk=>?_⟩
   have hk2:k<(fJ t acF acG p).length:=by rw [jg];exact hk
   obtain ⟨h1,h2⟩:=hb.2 k hk2
   have hr:∀j,j<t.ps.length->gi (fJ t acF acG p) j<16:=fun j hj=>by
    rw [uT hj]
    have:=F.PG j hj
    rw [hle] at this
    omega
   by_cases h0:0<=gi (fJ t acF acG p) k
   ·rw [h1 h0];exact ⟨h0,hr k hk⟩
   ·rcases h2 (by omega) with ⟨hm,h3⟩ | ⟨_,h3⟩
    ·obtain ⟨j,hj,e⟩:=sG hm
     have e2:gi (fJ t acF acG p) j=gi b k:=by simp [gi,hj,e]
     rw [jg] at hj
     have:=hr j hj
     omega
    ·omega
  rw [B9 ho.te hb1]
  refine PL hv (by rw [hle];exact hb1) fun i hi h0=>?_
  obtain ⟨v,hv2,xQ,hv0⟩:=mW hi
  have hvl:v<t.ps.length:=by omega
  have e:=(hb.2 v (by rw [jg];exact hvl)).1
  rw [uT hvl] at e
  have h5:=yV (st:=gj t acF acG p) hi hv2
  rw [hv2,ei]
  rw [h5] at e
  exact e h0
end
end
section
open Go.RowKit Go.Shelf Go.Deep Go.Sort
theorem Ju (w:World) (mp:Option Addr) (n c:Nat):Calls Tryz.prog 70 #[.slice mp n c] w fun e w'=>e=.returned (.func (.func 110) #[] #[.pointer (some ⟨w.heap.size,0,none⟩)])/\w'=w.alloc (.cells #[.slice mp n c] 22):=by
 go_in;go_wp2;go_ret;exact ⟨by simp,rfl⟩
abbrev Dv:=Nat×Value×Value
def Yo (acF:List ByteArray) (x:Dv) (L:Nat->Prop) (W:World):Prop:=(1<=x.1/\x.1<2 ^ (acF.length - 1))/\aC L W x.2.1 (dA acF x.1)/\aC L W x.2.2 (dB acF x.1)
theorem UO {acF:List ByteArray} {B:Nat} (x:Dv) (L:Nat->Prop):OwnFrom B (fun (_:Unit) W=>Yo acF x L W):=by
 intro s X Y row h hg hr;obtain ⟨h1,h2,h3⟩:=h;exact ⟨h1,aB.grown h2 hg fun r e=>(hr r e).2,aB.grown h3 hg fun r e=>(hr r e).2⟩
theorem Rz:∀q:Nat,q<8->bits BinOp.and IntKind.i64 ((q:Nat):Int) 1=((q:Nat):Int) % 2:=by decide +kernel
theorem UQ (k i:Nat):(((k / 2 ^ i:Nat):Int)) % 2=if k.testBit i then 1 else 0:=by
 rw [Nat.testBit_eq_decide_div_mod_eq];generalize k / 2 ^ i=q;by_cases h:q % 2=1
 ·rw [decide_eq_true h,if_pos rfl];omega
 ·rw [decide_eq_false h,if_neg (by decide)];omega
structure Dup (B:Nat) (W:World) (a b:Value) (A C:List ByteArray):Prop where
 ao:au B 9 W a (A.map Value.string)
 bo:au B 9 W b (C.map Value.string)
 ap:∀g,a.ownBlock=some g->b.ownBlock≠some g
theorem Dup.oO {B:Nat} {W W':World} {a b:Value} {A C:List ByteArray} {g cap k:Nat} {s:ByteArray} (h:Dup B W a b A C) (ho:au B 9 W' (.slice (some ⟨g,0,none⟩) k cap) (A.map Value.string++[.string s])) (hg:W.grownBy W' a.ownBlock) (dr:a.ownBlock=some g\/W.heap.size<=g):Dup B W' (.slice (some ⟨g,0,none⟩) k cap) b (A++[s]) C:=by
 refine ⟨by rw [cm];exact ho,h.bo.fE fun x hx=>hg.block x (az h.bo hx).2 fun e=>h.ap x e.symm hx,fun x hx hx2=>?_⟩;have hx:some g=some x:=hx;injection hx with hx;subst hx;rcases dr with e | e
 ·exact h.ap g e hx2
 ·have:=(az h.bo hx2).2;omega
theorem Dup.lu {B:Nat} {W W':World} {a b:Value} {A C:List ByteArray} {g cap k:Nat} {s:ByteArray} (h:Dup B W a b A C) (ho:au B 9 W' (.slice (some ⟨g,0,none⟩) k cap) (C.map Value.string++[.string s])) (hg:W.grownBy W' b.ownBlock) (dr:b.ownBlock=some g\/W.heap.size<=g):Dup B W' a (.slice (some ⟨g,0,none⟩) k cap) A (C++[s]):=by
 refine ⟨h.ao.fE fun x hx=>hg.block x (az h.ao hx).2 fun e=>h.ap x hx e.symm,by rw [cm];exact ho,fun x hx hx2=>?_⟩;have hx2:some g=some x:=hx2;injection hx2 with hx2;subst hx2;rcases dr with e | e
 ·exact h.ap g hx e
 ·have:=(az h.ao hx).2;omega
section
variable {w0 w9:World} {acF:List ByteArray} {Bt N:Nat}
theorem RA (m:Nat) {mp:Option Addr} {mc:Nat} (h2:2<=acF.length) (h4:acF.length<=4) (hB:w0.heap.size<=Bt)
  (hb:w9.cell? ⟨Bt,0,none⟩=some (.slice mp acF.length mc)) (Im:aC Any w0 (.slice mp acF.length mc) acF) (hN:2 ^ (acF.length - 1) - 1<=N) :
  VS Fence.wide m Tryz.prog 110 #[.pointer (some ⟨Bt,0,none⟩)] (fun x:Dv=>#[x.2.1,x.2.2]) (Yo acF) (fun _ _=>False) (fun xs=>xs.map (·.1)=List.range' 1 (2 ^ (acF.length - 1) - 1)) N w0 w9 (fun b=>b=Bt):=by
 intro l J W hW Om Oo hA hY hJ;obtain ⟨Io,Oq⟩:=Om Bt rfl;have wB:=(cW (a:=⟨Bt,0,none⟩) Oq).trans hb;obtain ⟨nb,no,rfl,hc0⟩:=fI Im (k:=0) (by omega);obtain ⟨M,hM⟩:∃M,M=2 ^ (acF.length - 1):=⟨_,rfl⟩;have hM8:M<=8:=by rw [hM];exact Nat.pow_le_pow_right (n:=2) (by decide) (show acF.length - 1<=3 by omega)
 have hM1:1<=M:=by rw [hM];exact Nat.one_le_two_pow
 have hWM:wrap64 ((2:Int) ^ (acF.length - 1))=(M:Int):=by
  have:(2:Int) ^ (acF.length - 1)=((2 ^ (acF.length - 1):Nat):Int):=by simp
  rw [this,<- hM];unfold wrap64;omega
 have hmc:acF.length<=mc:=by obtain ⟨_,_,e,h,_⟩:=aB.open Im;injection e with e1 e2 e3;omega
 have k7:Hid (∀i,i<acF.length->∀W,Up w0 W->W.cell? ⟨nb,no+i,none⟩=some (.string (gs acF i))):=fun i hi W hW=>hW.cell (aB.at0 Im hi);rw [<- hM] at hN;have Yp:Hid (J [] (fun b=>b=Bt) W):=hJ;have HY:=aa hY;have HA:=aa hA;have HW:=aa hW;have XT:=aa wB;have HL:Hid (Bt<W.heap.size):=lM Io Oo;have HM:=aa hM;have HN:=aa hN;have HB:=aa hB;have Ot:Hid (M<=8):=hM8;clear hW Om Oo hA hY hJ Oq Io Im hc0 hb hM hN hB;refine callsIn_of_wp Tryz.func110 rfl trivial ?_ rfl
 simp only [Tryz.ntmps110,gI,bB,eW,Nat.reduceAdd,Nat.reduceSub,jL,jM,gH,qI,dz,cw];gi_wp2
 gi_loopw [3,4,5,6,7] (fun i _ _ _ _ wr=>∃(k:Nat) (ys:List Dv) (L':Nat->Prop),1<=k/\k<=M/\i=.int .i64 k/\Hid (ys.map (·.1)=List.range' 1 (k - 1))/\Hid (J ys L' wr)/\Hid (Below w0.heap.size w0 wr)/\Hid (∀b,L' b->w0.heap.size<=b/\b<wr.heap.size)/\Hid (L' Bt)/\Hid (wr.cell? ⟨Bt,0,none⟩=some (.slice (some ⟨nb,no,none⟩) acF.length mc))) (fun i _ _ _ _ _=>M - (intOf i).toNat)
 case atStart=>exact ⟨1,[],_,aj _,hM1,rfl,rfl,Yp.out,HW.out,fun b hb=>by rw [hb];exact ⟨HB.out,HL.out⟩,rfl,XT.out⟩
 case round =>
  obtain ⟨k,ys,L',hk1,hk,rfl,hys,Eu,Ou,BA,hLB,hcB⟩:=hrel;obtain ⟨wo,rfl⟩:=e9 wr;have hcb:=hcB.out;have hn0:=k7.out 0 (by omega) wo Ou.out;rw [Nat.add_zero] at hn0;have i0:(0:Int)<=(k:Int):=by omega
  by_cases hlt:k<M
  ·have i1:(k:Int)<(M:Int):=by omega
   (have i2:(k:Int)<8:=by omega);(have i3:0<acF.length:=by omega);(have i4:(0:Int)<(acF.length:Int):=by omega);(have i5:(1:Int)<=(acF.length:Int):=by omega);(have i6:1<=acF.length:=by omega);(have i7:¬mc=1:=by omega);have i8:acF.length<=mc:=hmc;have aM:=Up.alloc wo (.cells #[.string (gs acF 0)] 9);have hD0:Dup wo.heap.size (wo.alloc (.cells #[.string (gs acF 0)] 9)) (.slice (some ⟨wo.heap.size,0,none⟩) 1 1) (.slice none 0 0) [gs acF 0] []:=⟨Rt wo _ _ _ (aj _),au.nil _ _ _,fun g _ e=>by cases e⟩;have HD0:=aa hD0;have bU:=aa aM;have acB:=aM.cell hcb
   clear hD0 aM;gi_wp2;generalize wo.alloc (.cells #[.string (gs acF 0)] 9)=w1 at *;simp only [hWM];clear hWM
   gi_loopw [4,5,6,7,23] (fun a b _ _ i wr=>∃j:Nat,j<=acF.length - 1/\i=.int .i64 j/\Hid (Dup wo.heap.size wr a b (gs acF 0::cr (fun i=>!k.testBit i) acF.tail j) (cr (fun i=>k.testBit i) acF.tail j))/\Hid (Up wo wr)) (fun _ _ _ _ i _=>acF.length - 1 - (intOf i).toNat)
   case atStart=>exact ⟨0,bg _,rfl,HD0.out,bU.out⟩
   case round =>
    obtain ⟨j,hj,rfl,hD,hU⟩:=hrel;obtain ⟨wi,rfl⟩:=e9 wr;(have j0:(0:Int)<=(j:Int):=by omega);by_cases hlj:j<acF.length - 1
    ·have Mo:=k7.out (j+1) (by omega) wi (Ou.out.trans (hU.out.mono Ou.out.size))
     rw [show no+(j+1)=no+1+j by omega] at Mo;(have j1:(j:Int)<((acF.length - 1:Nat):Int):=by omega);(have j2:(j:Int)<4:=by omega);(have Ca:bits BinOp.and IntKind.i64 ((k:Int) / 2 ^ j) 1=if k.testBit j then 1 else 0:=by (have e:(k:Int) / 2 ^ j=((k / 2 ^ j:Nat):Int):=by simp);have:k / 2 ^ j<=k:=Nat.div_le_self _ _;rw [e,Rz _ (by omega),UQ]);have kO:=aa (lN (fun i=>!k.testBit i) acF.tail j);have cg:=aa (lN (fun i=>k.testBit i) acF.tail j);have Ew:Hid (acF.tail.getD j default=gs acF (j+1)):=by
      unfold Hid gs;cases acF with
      | nil=>simp at hlj
      | cons a l=>rfl
     have yG:=aa hlj;(have Kt:Hid (((gs acF 0::cr (fun i=>!k.testBit i) acF.tail j).map Value.string).length<=1000000/\((cr (fun i=>k.testBit i) acF.tail j).map Value.string).length<=1000000):=by have a1:=sN (fun i=>!k.testBit i) acF.tail j;have a2:=sN (fun i=>k.testBit i) acF.tail j;unfold Hid;rw [aD,aD,bB];omega);have fW:Hid (wo.heap.size<=wi.heap.size):=hU.out.size;obtain ⟨ap,ac,rfl,-⟩:=hD.out.ao.form rfl;obtain ⟨bp,bc,rfl,-⟩:=hD.out.bo.form rfl;rw [Ew.out] at kO cg;clear hlj;cases hb:k.testBit j
     ·rw [hb] at Ca kO cg
      have Ca:bits BinOp.and IntKind.i64 ((k:Int) / 2 ^ j) 1=0:=Ca;have kO:Hid (cr (fun i=>!k.testBit i) acF.tail (j+1)=cr (fun i=>!k.testBit i) acF.tail j++[gs acF (j+1)]):=kO.out;(have cg:Hid (cr (fun i=>k.testBit i) acF.tail (j+1)=cr (fun i=>k.testBit i) acF.tail j):=by unfold Hid;rw [cg.out];simp);clear hb
      gi_wp2_with (gi_at_builtin;refine qx wi rfl _ _ 22 rfl wo.heap.size 9 (.string ⟨#[]⟩) 16 Tryz.underlying22 Tryz.fq rfl (by decide) hD.out.ao rfl (.string (gs acF (j+1))) rfl rfl _ rfl Kt.out.1 fW.out ?_;intro g8 mY w8 cD eC oz;have Yq:=aa (hD.out.oO cD eC oz);have oC:=aa (hD.out.ao.cQ eC fW.out);clear cD eC oz)
      go_roundw
      case rel=>exact ⟨j+1,by have:=yG.out;omega,by go_num,by rw [kO.out,cg.out];have q:=Yq.out;simp only [aD,bB] at q;exact q,dI (show Below wo.heap.size wo wi from hU.out) oC.out⟩
      case measure=>have:=yG.out;simp [intOf];omega
     ·rw [hb] at Ca kO cg
      have Ca:bits BinOp.and IntKind.i64 ((k:Int) / 2 ^ j) 1=1:=Ca;(have kO:Hid (cr (fun i=>!k.testBit i) acF.tail (j+1)=cr (fun i=>!k.testBit i) acF.tail j):=by unfold Hid;rw [kO.out];simp);have cg:Hid (cr (fun i=>k.testBit i) acF.tail (j+1)=cr (fun i=>k.testBit i) acF.tail j++[gs acF (j+1)]):=cg.out;clear hb
      gi_wp2_with (gi_at_builtin;refine qx wi rfl _ _ 22 rfl wo.heap.size 9 (.string ⟨#[]⟩) 16 Tryz.underlying22 Tryz.fq rfl (by decide) hD.out.bo rfl (.string (gs acF (j+1))) rfl rfl _ rfl Kt.out.2 fW.out ?_;intro g8 mY w8 cD eC oz;have Yq:=aa (hD.out.lu cD eC oz);have oC:=aa (hD.out.bo.cQ eC fW.out);clear cD eC oz)
      go_roundw
      case rel=>exact ⟨j+1,by have:=yG.out;omega,by go_num,by rw [kO.out,cg.out];have q:=Yq.out;simp only [aD,bB] at q;exact q,dI (show Below wo.heap.size wo wi from hU.out) oC.out⟩
      case measure=>have:=yG.out;simp [intOf];omega
    ·obtain rfl:j=acF.length - 1:=by omega
     obtain ⟨ap,ac,hae,-⟩:=hD.out.ao.form rfl;obtain ⟨bp,bc,sS,-⟩:=hD.out.bo.form rfl;subst hae;subst sS;obtain ⟨va,Yr⟩:∃va,va=Value.slice ap ((gs acF 0::cr (fun i=>!k.testBit i) acF.tail (acF.length - 1)).map Value.string).length ac:=⟨_,rfl⟩;obtain ⟨vb,hvb⟩:∃vb,vb=Value.slice bp ((cr (fun i=>k.testBit i) acF.tail (acF.length - 1)).map Value.string).length bc:=⟨_,rfl⟩;rw [<- Yr,<- hvb] at hD
     have hj7:J ys (fun b=>L' b\/(wo.heap.size<=b/\b<wi.heap.size)) wi:=HA.out ys L' _ wo wi Eu.out ⟨hU.out.os,hU.out.tape,hU.out.output,hU.out.size,fun b hb _=>aO hU.out b hb,fun b hb=>hb.imp (fun e=>⟨e,(BA.out b e).2⟩) id⟩;have FW:Yo acF (k,va,vb) (fun b=>L' b\/(wo.heap.size<=b/\b<wi.heap.size)) wi:=⟨⟨hk1,by rw [<- HM.out];exact hlt⟩,hD.out.ao.strs.sub fun b hb hl=>.inr ⟨hb,hl⟩,hD.out.bo.strs.sub fun b hb hl=>.inr ⟨hb,hl⟩⟩;have Yt:=congrArg List.length hys.out;rw [aD,List.length_range'] at Yt;have hwi:=hU.out.size;have hwo:=Ou.out.size
     obtain ⟨fn,tmps,assign,body,hy,hR⟩:=HY.out ys (k,va,vb) _ wi hj7 FW (Ou.out.trans (hU.out.mono hwo)) (fun b hb=>by
      rcases hb with hb | hb
      ·have:=BA.out b hb;omega
      ·omega) (by have:=HN.out;omega)
     have TG:Hid ((ys++[(k,va,vb)]).map (·.1)=List.range' 1 k):=by
      unfold Hid;rw [cm,hys.out];have:k=(k - 1)+1:=by omega
      conv=>rhs;rw [this,List.range'_concat]
      simp;omega
     have wP:Hid (∀b,(L' b\/(wo.heap.size<=b/\b<wi.heap.size))->w0.heap.size<=b/\b<wi.heap.size):=fun b hb=>by
      rcases hb with hb | hb
      ·have:=BA.out b hb;omega
      ·omega
     have aaR:=hU.out.cell hcb;have aaS:=aa aaR;have bf:=aa hlt;simp only at hy;clear hj7 FW Yt hD hwi hwo HD0;rw [<- Yr,<- hvb];clear Yr hvb;gi_wp2
     first | refine ⟨trivial,fun h=>(by cases h),?_⟩ | refine ⟨fun h=>(by cases h),?_⟩
     refine hR.mono ?_;rintro e W7 ⟨rfl,hj8,oC,hs8,hk8⟩;have H8:=aa (⟨hj8,oC,hs8,hk8⟩:_/\_/\_/\_);clear hj8 oC hs8 hk8 hR;gi_wp2
     go_roundw
     case rel=>exact ⟨k+1,ys++[(k,va,vb)],_,by omega,bf.out,by go_num,TG.out,H8.out.1,H8.out.2.1,fun b hb=>by have h1:=wP.out b hb;have h2:=H8.out.2.2.1;omega,.inl hLB.out,(cW (a:=⟨Bt,0,none⟩) (H8.out.2.2.2 Bt (.inl (.inl hLB.out)))).trans aaS.out⟩
     case measure=>have:=bf.out;simp [intOf];omega
  ·obtain rfl:k=M:=by omega
   gi_wp2
   go_end0
   exact ⟨⟨_,rfl⟩,ys,L',by rw [hys.out,HM.out],Eu.out⟩
end
end
end Go.Proofs.YtfomhlbhcifgbaaGreatDoor
