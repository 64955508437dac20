/- optimaltree.places. Plain: a further exemplar; the one that makes the total least; the .. -/
import Derived.Test.YtfomhlbhcifgbaaGreatDoorQ36
set_option maxRecDepth 100000
set_option maxHeartbeats 4000000
namespace Go.Proofs.YtfomhlbhcifgbaaGreatDoor
section
open Go.RowKit Go.Deep
def tI (t:aA) (acF:List ByteArray) (n:Nat):List Int:=(List.range n).map fun j=>kr acF (gs t.ns (gi (aq t.ns) j).toNat)
theorem uU (t:aA) (acF:List ByteArray) (n:Nat):(tI t acF n).length=n:=by simp [tI]
theorem RJ (t:aA) (acF:List ByteArray) (n:Nat):tI t acF (n+1)=tI t acF n++[kr acF (gs t.ns (gi (aq t.ns) n).toNat)]:=by simp [tI,List.range_succ]
theorem Ox {t:aA} {acF:List ByteArray} {n j:Nat} (h:j<n):gi (tI t acF n) j=kr acF (gs t.ns (gi (aq t.ns) j).toNat):=by simp [tI,gi,h]
def wZ (t:aA) (acF:List ByteArray):Bool:=decide (aF t=0)&&qz t acF
def Iw (w:World) (t:aA) (acF:List ByteArray) (e:Ending) (w':World):Prop :=
 Up w w'/\∃v,e=.returned (.tuple #[v,.bool (wZ t acF)])/\(wZ t acF=true->af (fun b=>w.heap.size<=b) w' v (tI t acF (aq t.ns).length))
theorem LS {w W:World} {t:aA} {acF:List ByteArray} {v:Value} (h:wZ t acF=false) (hu:Up w W):Iw w t acF (.returned (.tuple #[v,.bool false])) W :=
 ⟨hu,v,by rw [h],fun e=>by rw [h] at e;cases e⟩
theorem RL (S:Nat->Prop) (w:World) (v vn:Value) (t:aA) (acF:List ByteArray) (hT:aJ S w v t) (hp:t.ps.length<=1000000) (hn:t.ns.length<=1000000) (hz:∀k,(gs t.ns k).size<=70000) (h:aC S w vn acF) (hnn:acF.length<=1000000) :
  Calls Tryz.prog 47 #[v,vn] w (Iw w t acF):=by
 obtain ⟨P,N,rfl,hP,hN⟩:=hT;obtain ⟨np,nc,rfl,abU,-⟩:=aB.open hN;have hN:aC S w (.slice np t.ns.length nc) t.ns:=hN;obtain ⟨pp,pc,rfl,abV,-⟩:=aB.open hP;have hP:af S w (.slice pp t.ps.length pc) t.ps:=hP;obtain ⟨mp,mc,rfl,abW,-⟩:=aB.open h;have h:aC S w (.slice mp acF.length mc) acF:=h;have aM:Up w (w.alloc (.cells #[.slice pp t.ps.length pc,.slice np t.ns.length nc] 33)):=Up.alloc _ _;have hrb:=uK (w:=w) (P:=.slice pp t.ps.length pc) (N:=.slice np t.ns.length nc) (T:=33)
 have hsz:w.heap.size<(w.alloc (.cells #[.slice pp t.ps.length pc,.slice np t.ns.length nc] 33)).heap.size:=by simp
 obtain ⟨q0,q1,-,-⟩:=boxed hrb;have Iy:=aa (Ah S (w.alloc (.cells #[.slice pp t.ps.length pc,.slice np t.ns.length nc] 33)) (.agg #[.slice pp t.ps.length pc,.slice np t.ns.length nc]) t ⟨_,_,rfl,af.keep hP (aM.kept S),aC.keep hN (aM.kept S)⟩ hp hn hz);have HN:=aa (aC.keep hN (aM.kept S));have HM:=aa (aC.keep h (aM.kept S));have bU:=aa aM;have fW:=aa hsz;have HB:Hid (wZ t acF=(decide (aF t=0)&&(decide ((aq t.ns).length=acF.length)&&!Dc t acF))):=rfl
 have F7:Hid (∀n,n<(aq t.ns).length->∃k:Nat,gi (aq t.ns) n=k/\k<t.ns.length):=fun n hn=>by obtain ⟨k,h1,h2,_⟩:=mW hn;exact ⟨k,h1,h2⟩
 have kZ:Hid ((aq t.ns).length<=1000000):=aV (tR _) hn;have HOF:Hid (∀n,n<(aq t.ns).length->kr acF (gs t.ns (gi (aq t.ns) n).toNat)<0->Dc t acF=true):=fun n hn h0=>cR.2 ⟨n,bX.2 hn,decide_eq_true h0⟩;have HON:Hid ((∀n,n<(aq t.ns).length->¬kr acF (gs t.ns (gi (aq t.ns) n).toNat)<0)->Dc t acF=false):=fun hh=>any_none fun j hj=>decide_eq_false (hh j hj);clear hP hN h aM hrb hsz hz;go_in;go_wp2_with fail
 generalize w.alloc (.cells #[.slice pp t.ps.length pc,.slice np t.ns.length nc] 33)=w1 at *;refine Iy.out.mono ?_;rintro e w2 ⟨hb,⟨h1,rfl⟩ | ⟨h1,lv,rfl,hlv⟩⟩
 ·have ny:Hid (wZ t acF=false):=by unfold Hid;rw [HB.out,decide_eq_false h1];rfl
  have bF:=aa (bU.out.trans (show Up w1 w2 from hb));have Cc:=aa (LS (v:=.slice none 0 0) ny.out bF.out);clear hb h1 Iy;go_wp2;go_ret2;exact Cc.out
 obtain ⟨lp,lc,rfl,-,-⟩:=aB.open hlv;replace hlv:af (fun b=>w1.heap.size<=b) w2 (.slice lp (aq t.ns).length lc) (aq t.ns):=hlv;have aK:Up w1 w2:=hb;have bF:=aa (bU.out.trans aK);have Yx:Hid (wZ t acF=(decide ((aq t.ns).length=acF.length)&&!Dc t acF)):=by unfold Hid;rw [HB.out,decide_eq_true h1];rfl
 by_cases hl:(aq t.ns).length=acF.length
 ·have aaU:=aa hlv
  have Nr:=aa (aC.keep HN.out (aK.kept _));have Yy:=aa (aC.keep HM.out (aK.kept _));have zF:Hid (wZ t acF=!Dc t acF):=by unfold Hid;rw [Yx.out,decide_eq_true hl];rfl
  have HQ:=aa (And.intro (aK.cell q0) (aK.cell q1));have d1:(((aq t.ns).length:Int) != (acF.length:Int))=false:=by simp [hl]
  have HL:=aa hl;clear hb h1 hlv aK Iy q0 q1 bU HB Yx hl;go_wp2_with fail;have uw:Hid (w.heap.size<=w2.heap.size):=bF.out.size;clear d1
  go_loopw [8,10,11,28] (fun a _ _ i wr=>∃k:Nat,k<=(aq t.ns).length/\i=.int .i64 k/\Hid (au w2.heap.size 3 wr a ((tI t acF k).map (Value.int .i64))/\Up w2 wr/\∀n,n<k->¬kr acF (gs t.ns (gi (aq t.ns) n).toNat)<0)) (fun _ _ _ i _=>(aq t.ns).length - (intOf i).toNat)
  case atStart=>exact ⟨0,bg _,rfl,au.nil _ _ _,Up.refl _,fun n hn=>absurd hn (cz _)⟩
  case round =>
   obtain ⟨k,hk,rfl,hI⟩:=hrel;obtain ⟨wo,rfl⟩:=e9 wr;obtain ⟨hA,mJ,hd⟩:=hI.out;by_cases hlt:k<(aq t.ns).length
   ·obtain ⟨xb,xo,rfl,qD⟩:=dh (af.keep aaU.out (mJ.kept _)) hlt
    obtain ⟨x,hx1,hx2⟩:=F7.out k hlt;obtain ⟨nb,no,rfl,dZ⟩:=fI (aC.keep Nr.out (mJ.kept _)) hx2;have rH:Hid (Calls Tryz.prog 10 #[.slice mp acF.length mc,.string (gs t.ns x)] wo fun e w'=>e=.returned (.int .i64 (kr acF (gs t.ns x)))/\wo=w'):=tU _ wo _ acF.length (fun j=>gs acF j) (gs t.ns x) (aC.keep Yy.out (mJ.kept _)) hnn;have yJ:Hid ((tI t acF (k+1)).map (Value.int .i64)=(tI t acF k).map (Value.int .i64)++[.int .i64 (kr acF (gs t.ns x))]):=by unfold Hid;rw [RJ,cm,hx1,ei];rfl
    (have b6:Hid (((tI t acF k).map (Value.int .i64)).length=k):=by unfold Hid;rw [aD,uU]);have RM:=aa (HOF.out k hlt);have q0:=mJ.cell HQ.out.1;have q1:=mJ.cell HQ.out.2;rw [hx1] at qD;have qG:=aa hx1;have HA:=aa hA;have TI:=aa mJ;have HD:=aa hd;(have i1:(0:Int)<=(k:Int):=by omega);(have i2:(k:Int)<((aq t.ns).length:Int):=by omega);(have i3:(k:Int)<1000000:=by have:=kZ.out;omega);(have i4:(0:Int)<=(x:Int):=by omega);(have i5:(x:Int)<(t.ns.length:Int):=by omega);have hsz:=mJ.size;clear hI hA mJ hd hx1;by_cases hf:kr acF (gs t.ns x)<0
    ·have ny:Hid (wZ t acF=false):=by unfold Hid;rw [zF.out,RM.out (by rw [qG.out,ei];exact hf)];rfl
     have Cc:=aa (LS (v:=.slice none 0 0) ny.out (bF.out.trans TI.out));generalize kr acF (gs t.ns x)=fx at *;generalize gs t.ns x=nm at *;clear yJ RM qG;go_wp2_with fail;refine rH.out.mono ?_;rintro e w' ⟨rfl,rfl⟩;go_wp2;go_ret2;exact Cc.out
    ·have HF:=aa hf
     (have HFG:Hid (kr acF (gs t.ns (gi (aq t.ns) k).toNat)=kr acF (gs t.ns x)):=by unfold Hid;rw [qG.out,ei]);generalize kr acF (gs t.ns x)=fx at *;generalize gs t.ns x=nm at *;have h9:(0:Int)<=fx:=Int.not_lt.1 hf;obtain ⟨y,rfl⟩:∃y:Nat,fx=y:=⟨fx.toNat,by omega⟩;clear RM qG hf h9;obtain ⟨ap,ac,rfl,-⟩:=HA.out.form b6.out;(have d9:decide ((y:Int)<0)=false:=by simp);go_wp2_with fail;refine rH.out.mono ?_;rintro e w' ⟨rfl,rfl⟩
     go_wp2_with (at_builtin;refine zx wo rfl _ _ 27 rfl w2.heap.size 3 _ 8 Tryz.underlying27 Tryz.pF rfl (by decide) HA.out rfl _ rfl rfl k b6.out (by omega) hsz ?_;intro g cap w8 hown1 hg1 ym);(have Yz:Hid (au w2.heap.size 3 w8 (.slice (some ⟨g,0,none⟩) (k+1) cap) ((tI t acF (k+1)).map (Value.int .i64))):=by unfold Hid;rw [yJ.out];exact hown1);have lg:Hid (Up w2 w8):=dI TI.out ym;clear hown1 hg1 ym
     go_roundw
     case rel=>exact ⟨k+1,by omega,by go_num,Yz.out,lg.out,fun n hn=>if e:n=k then by subst e;rw [HFG.out];exact Int.not_lt.2 HF.out else Int.not_lt.2 (HD.out n (by omega))⟩
     case measure=>simp [intOf];omega
   ·obtain rfl:k=(aq t.ns).length:=by omega
    (have ny:Hid (wZ t acF=true):=by unfold Hid;rw [zF.out,HON.out fun n hn=>Int.not_lt.1 (hd n hn)];rfl);obtain ⟨ap,ac,rfl,-⟩:=hA.form (n:=(aq t.ns).length) (by rw [aD,uU]);have hi:=hA.ints;have tJ:Hid (Iw w t acF (.returned (.tuple #[.slice ap (aq t.ns).length ac,.bool true])) wo):=⟨bF.out.trans mJ,_,by rw [ny.out],fun _=>hi.sub fun b hb _=>aV uw.out hb⟩;clear hI hA mJ hd hi;go_wp2;go_ret2;exact tJ.out
 ·have ny:Hid (wZ t acF=false):=by unfold Hid;rw [Yx.out,decide_eq_false hl];rfl
  have d1:¬((aq t.ns).length:Int)=(acF.length:Int):=by omega
  have Cc:=aa (LS (v:=.slice none 0 0) ny.out bF.out);clear hb h1 Iy;go_wp2;go_ret2;exact Cc.out
end
section
theorem RN {P:List (List Int)} {c p:Nat} (h0:gl P c≠[]):wD P (bk P c p):=by
 refine ⟨iq _ _ _,fun i hi e=>?_,fun i hi q hq=>?_⟩
 ·rw [qZ hi,if_neg]
  ·exact e
  ·rintro rfl;exact h0 e
 ·rw [qZ hi]
  split
  ·rename_i e;subst e
   exact xR.2 (List.mem_append_left _ hq)
  ·exact hq
structure xd where
 c:Nat
 p:Nat
 n:Int
 f:Bool
def qh (P aI:List (List Int)) (s:xd) (c p:Nat):xd:=if dw P c p/\dF (bk P c p) aI<s.n then ⟨c,p,dF (bk P c p) aI,true⟩ else s
def uV (P aI:List (List Int)) (s:xd) (c:Nat):Nat->xd
 | 0=>s
 | k+1=>qh P aI (uV P aI s c k) c k
def mL (P aI:List (List Int)):Nat->xd
 | 0=>⟨0,0,dF P aI,false⟩
 | c+1=>uV P aI (mL P aI c) c P.length
structure Iz (P aI:List (List Int)) (D:Nat->Nat->Prop) (s:xd):Prop where
 le:s.n<=dF P aI
 no:s.f=false->s.n=dF P aI
 yes:s.f=true->dw P s.c s.p/\s.n=dF (bk P s.c s.p) aI/\s.n<dF P aI
 all:∀c p,D c p->dw P c p->s.n<=dF (bk P c p) aI
theorem Oy {P aI:List (List Int)} {D:Nat->Nat->Prop} {s:xd} (h:Iz P aI D s) (c p:Nat):Iz P aI (fun a b=>D a b\/(a=c/\b=p)) (qh P aI s c p):=by
 unfold qh;split
 ·rename_i e
  have:=h.le;refine ⟨by show dF (bk P c p) aI<=_;omega,fun h=>(by cases h),fun _=>⟨e.1,rfl,by show dF (bk P c p) aI<_;omega⟩,fun a b hd ho=>?_⟩;rcases hd with hd | ⟨rfl,rfl⟩
  ·have:=h.all a b hd ho
   show dF (bk P c p) aI<=_;omega
  ·exact jN _
 ·rename_i e
  refine ⟨h.le,h.no,h.yes,fun a b hd ho=>?_⟩;rcases hd with hd | ⟨rfl,rfl⟩
  ·exact h.all a b hd ho
  ·by_cases hlt:dF (bk P a b) aI<s.n
   ·exact absurd ⟨ho,hlt⟩ e
   ·omega
theorem Oz {P aI:List (List Int)} {D:Nat->Nat->Prop} {s:xd} (h:Iz P aI D s) (c:Nat):∀k,Iz P aI (fun a b=>D a b\/(a=c/\b<k)) (uV P aI s c k)
 | 0=>⟨h.le,h.no,h.yes,fun a b hd ho=>hd.elim (fun q=>h.all a b q ho) (fun q=>absurd q.2 (cz _))⟩
 | k+1=>by
  have ih:=Oy (Oz h c k) c k
  refine ⟨ih.le,ih.no,ih.yes,fun a b hd ho=>ih.all a b ?_ ho⟩
  rcases hd with hd | ⟨rfl,hb⟩
  ·exact .inl (.inl hd)
  ·by_cases e:b=k
   ·exact .inr ⟨rfl,e⟩
   ·exact .inl (.inr ⟨rfl,by omega⟩)
theorem OA (P aI:List (List Int)):∀c,Iz P aI (fun a b=>a<c/\b<P.length) (mL P aI c)
 | 0=>⟨jN _,fun _=>rfl,fun h=>(by cases h),fun a b hd _=>absurd hd.1 (cz _)⟩
 | c+1=>by
  have ih:=Oz (OA P aI c) c P.length
  refine ⟨ih.le,ih.no,ih.yes,fun a b hd ho=>ih.all a b ?_ ho⟩
  by_cases e:a=c
  ·exact .inr ⟨e,hd.2⟩
  ·exact .inl ⟨by omega,hd.2⟩
theorem RO (P aI:List (List Int)):let s:=mL P aI P.length
  (s.f=false->∀c p,dw P c p->dF P aI<=dF (bk P c p) aI)/\(s.f=true->dw P s.c s.p/\s.n=dF (bk P s.c s.p) aI/\s.n<dF P aI)/\∀c p,dw P c p->s.n<=dF (bk P c p) aI:=by
 have h:=OA P aI P.length;have hall:∀c p,dw P c p->(mL P aI P.length).n<=dF (bk P c p) aI:=fun c p ho=>h.all c p ⟨ho.1,by have:=ho.1;have:=ho.2.1;omega⟩ ho;exact ⟨fun hf c p ho=>by rw [<- h.no hf];exact hall c p ho,h.yes,hall⟩
def uh (P:List (List Int)):List Int:=((List.range P.length).filter fun i=>decide (1<(gl P i).length)).map fun i:Nat=>(i:Int)
theorem UU {t:aA} {c p:Nat} (h:dw (aH t) c p):uh (bk (aH t) c p)=[(c:Int)]:=by
 obtain ⟨hc,hp,_⟩:=h;rw [cG] at hc;have hf:((List.range (bk (aH t) c p).length).filter fun i=>decide (1<(gl (bk (aH t) c p) i).length))=[c]:=by
  have e:∀i,i∈List.range (bk (aH t) c p).length->(decide (1<(gl (bk (aH t) c p) i).length))=(i==c):=fun i hi=>by
   rw [bX,iq,cG] at hi;rw [qZ (by rw [cG];exact hi),oL hi,oL hc];by_cases e:i=c
   ·subst e
    rw [if_pos rfl,pY,if_neg (by omega)];simp
   ·rw [if_neg e]
    (have:(i==c)=false:=by simpa using e);rw [this];split<;>simp
  rw [List.filter_congr e];have hr:c<(bk (aH t) c p).length:=by rw [iq,cG];exact hc
  generalize (bk (aH t) c p).length=n at hr;clear e
  induction n with
  | zero=>omega
  | succ n ih =>
   rw [sL,o8];by_cases e:c=n
   ·subst e
    (have:List.filter (fun i=>i==c) (List.range c)=[]:=List.filter_eq_nil_iff.2 fun a ha=>by have:=bX.1 ha;simp;omega);rw [this];simp
   ·rw [ih (by omega)]
    (have:(n==c)=false:=by simp;omega);simp [this]
 unfold uh;rw [hf];rfl
end
section
open Go.RowKit Go.Shelf Go.Deep Go.Sort
theorem LU (w w1:World) (v:Value) (xs:List Int) (hu:Up w w1) (ho:au w.heap.size 3 w1 v (xs.map (Value.int .i64))) (hlen:xs.length<=1000000) :
  Calls Tryz.prog 138 #[v] w1 fun e w'=>Up w w'/\∃u,e=.returned u/\af (fun b=>w.heap.size<=b) w' u (Lib.compact xs):=by
 rcases ho.2 with ⟨rfl,h0⟩ | ⟨g,cap,cur,rfl,hg,hc,hn,hcm,hcs,ht⟩
 ·have hx:xs=[]:=by cases xs with | nil=>rfl | cons _ _=>simp at h0
  subst hx;refine (Any.slices_Compact_int_empty Tryz.compactZ none 0 w1).mono ?_;rintro e w' ⟨rfl,rfl⟩;exact ⟨hu,_,rfl,none,0,rfl,aj _,.inl rfl⟩
 ·simp only [aD] at hn ht ho ⊢
  have hH:=holds_of_blockI hc (by simpa using ht);have OB:(Lib.compact xs).length<=xs.length:=by unfold Lib.compact Lib.compactUpTo;rw [aD];exact aV (mP _ _) (by simp)
  refine (Any.slices_Compact_int Tryz.compactZ g 0 cap xs w1 hH (by omega) (by omega)).mono ?_;rintro e w' ⟨rfl,q,rfl⟩;refine ⟨Below.grown hu (Jh _) hu.size (fun j hj=>by cases hj;exact hg),_,rfl,some ⟨g,0,none⟩,cap,rfl,by omega,.inr ⟨g,0,rfl,hg,fun k hk=>?_⟩⟩;have h1:=cell?_putRow (Value.int .i64) (Sort.ahead w1 q) g 0 xs.toArray (Lib.compact xs++List.replicate (xs.length - (Lib.compact xs).length) 0).toArray (holds_ahead _ _ _ _ _ _ hH) (by simp;omega) k (by simp;omega);rw [h1];congr 2
  have h2:(Lib.compact xs++List.replicate (xs.length - (Lib.compact xs).length) (0:Int))[k]? = (Lib.compact xs)[k]?:=KP hk;simp [gi,hk,h2]
theorem UW (w:World) (x:Int) (h1:-1<=x) (h2:x<16):rC 104 #[] #[.int .i64 x] (.bool false) w:=by
 unfold rC;show Calls Tryz.prog 104 #[.int .i64 x] w _;go_in;go_wp2;go_ret;exact ⟨bu (by simp;omega),rfl⟩
structure IA (n:Nat) (st:List Int):Prop where
 len:st.length=n
 rng:∀i,i<n -> -1<=gi st i/\gi st i<16
 two:(bM st).length<=2
theorem LV (S:Nat->Prop) (w:World) (v vs:Value) (s:kI) (st:List Int) (h:aP S w v s) (hs:fD s.ns s.P) (hb:s.bs.length=s.ns.length) (hI:af S w vs st) (hp:IA s.ns.length st) :
  Calls Tryz.prog 64 #[v,vs] w fun e w'=>e=.returned (.int .i64 0)/\Up w w':=by
 obtain ⟨np,nc,bp,bc,pp,pc,rfl,hN,hB,hP⟩:=aP.open h;obtain ⟨ip,ic,rfl,-,-⟩:=aB.open hI;have hI:af S w (.slice ip st.length ic) st:=hI;have hl:=hs.len;have ni:=hp.len;have DV:=hs.le;have hrg:=hp.rng;rw [ni] at hI ⊢;rw [hl];rw [hl] at h;have aM:=Up.alloc w (.cells #[.slice np s.ns.length nc,.slice bp s.bs.length bc,.slice pp s.ns.length pc] 36);obtain ⟨x0,x1,x2,-,-,-⟩:=aQ (fQ w (.slice np s.ns.length nc) (.slice bp s.bs.length bc) (.slice pp s.ns.length pc) 36);have HC:=aa (qP S _ _ s (h.keep (aM.kept S)) hs hb)
 have HF:Hid (∀W,Up (w.alloc (.cells #[.slice np s.ns.length nc,.slice bp s.bs.length bc,.slice pp s.ns.length pc] 36)) W->Calls Tryz.prog 55 #[.slice ip s.ns.length ic,.func (.func 104) #[] #[]] W fun e w'=>e=.returned (.bool false)/\W=w'):=fun W hW=>by
  have hK:af S W (.slice ip s.ns.length ic) st:=af.keep hI ((aM.trans hW).kept S);have h2:=qO 104 #[] (enters_of Tryz.func104 (by kernel_rfl) rfl) S W _ st.length _ (fun _=>false) hK (by omega) (fun j hj=>UW W (gi st j) (hrg j (by omega)).1 (hrg j (by omega)).2)
  rwa [show ((List.range st.length).any fun _=>false)=false by simp] at h2
 have bU:=aa aM;clear h hN hB hP hI aM hs hl hb ni hrg hp;generalize s.ns.length=n at *;generalize s.bs.length=nb at *;have b1:((n:Int) != (n:Int))=false:=by simp
 go_in;go_wp2_with fail;generalize w.alloc (.cells #[.slice np n nc,.slice bp nb bc,.slice pp n pc] 36)=w1 at *;refine HC.out.mono ?_;rintro e w2 ⟨rfl,aK⟩;have c2:=aK.cell x2;have oD:=aa (HF.out w2 aK);have bF:=aa (bU.out.trans aK);clear HC HF bU x0 x1 x2 aK;go_wp2_with fail;refine oD.out.mono ?_;rintro e w' ⟨rfl,rfl⟩;go_wp2;go_ret;exact ⟨rfl,bF.out⟩
theorem zU (S:Nat->Prop) (w:World) (v:Value) (st:List Int) (h:af S w v st) (hn:st.length<=7) :
  Calls Tryz.prog 105 #[v] w fun e w'=>Up w w'/\∃u,e=.returned u/\af (fun b=>w.heap.size<=b) w' u (bM st):=by
 obtain ⟨ip,ic,rfl,-,-⟩:=aB.open h;have h:af S w (.slice ip st.length ic) st:=h;have HI:=aa h;have HO:Hid (bM st=if bJ st=[] then [0] else Lib.compact (dK (bJ st))):=rfl;clear h;go_in;go_wp2
 go_loopw [3,5,8] (fun o _ i wr=>∃k:Nat,k<=st.length/\i=.int .i64 k/\Hid (au w.heap.size 3 wr o ((bJ (st.take k)).map (Value.int .i64)))/\Hid (Up w wr)) (fun _ _ i _=>st.length - (intOf i).toNat)
 case atStart=>exact ⟨0,bg _,rfl,au.nil _ _ _,Up.refl _⟩
 case round =>
  obtain ⟨k,hk,rfl,hO,hU⟩:=hrel;obtain ⟨wo,rfl⟩:=e9 wr;obtain ⟨op,oc,rfl,-⟩:=hO.out.form (n:=(bJ (st.take k)).length) (by simp);by_cases hlt:k<st.length
  ·obtain ⟨ib,io,rfl,hci⟩:=dh (af.keep HI.out (hU.out.kept S)) hlt
   have sk:=aa (xD (st:=st) hlt);(have zA:Hid ((bJ (st.take k)).length<=7/\((bJ (st.take k)).map (Value.int .i64)).length<=1000000):=by have h1:(bJ (st.take k)).length<=k:=aV (mP _ _) (by rw [iy];omega);unfold Hid;rw [aD];omega);(have j1:(k:Int)<(st.length:Int):=by omega);(have j2:(k:Int)<8:=by omega);have bf:=aa hlt;have fW:Hid (w.heap.size<=wo.heap.size):=hU.out.size;clear hlt;generalize gi st k=x at *;by_cases hx:0<=x
   ·have sk:Hid (bJ (st.take (k+1))=bJ (st.take k)++[x]):=by unfold Hid;rw [sk.out,if_pos hx]
    go_wp2_with (at_builtin;refine ja wo rfl _ _ 27 rfl w.heap.size 3 _ 8 Tryz.underlying27 Tryz.p8 rfl (by decide) hO.out rfl (.int .i64 x) rfl rfl zA.out.2 fW.out ?_;intro g8 mY w8 cD eC jC;have tj:=aa cD;have lg:=aa jC;clear cD eC jC)
    go_roundw
    case rel=>exact ⟨k+1,bf.out,by go_num,by rw [sk.out,cm];have h:=tj.out;rw [aD] at h;exact h,dI (show Below w.heap.size w wo from hU.out) lg.out⟩
    case measure=>have:=bf.out;simp [intOf];omega
   ·have sk:Hid (bJ (st.take (k+1))=bJ (st.take k)):=by unfold Hid;rw [sk.out,if_neg hx]
    go_wp2
    go_roundw
    case rel=>exact ⟨k+1,bf.out,by go_num,by rw [sk.out];exact hO.out,hU.out⟩
    case measure=>have:=bf.out;simp [intOf];omega
  ·obtain rfl:k=st.length:=by omega
   have hO:=hO;rw [gq] at hO ⊢;have zA:Hid ((bJ st).length<=7):=aV (mP _ _) hn;by_cases hkn:bJ st=[]
   ·have YA:Hid (bM st=[0]):=by unfold Hid;rw [HO.out,if_pos hkn]
    (have b1:(((bJ st).length:Int)==0)=true:=by rw [hkn];rfl);clear hkn hO;go_wp2;go_ret;refine ⟨hU.out.trans (Up.alloc _ _),_,rfl,?_⟩;rw [YA.out];refine ⟨some ⟨wo.heap.size,0,none⟩,1,rfl,aj _,.inr ⟨wo.heap.size,0,rfl,hU.out.size,fun j hj=>?_⟩⟩;(obtain rfl:j=0:=by simpa using hj);exact mE _ _ _
   ·have YA:Hid (bM st=Lib.compact (dK (bJ st))):=by unfold Hid;rw [HO.out,if_neg hkn]
    have hkp:(bJ st).length≠0:=fun e=>hkn (nN e);have b1:(((bJ st).length:Int)==0)=false:=beq_eq_false_iff_ne.2 (by omega);have HST:=aa (MS w wo _ (bJ st) hU.out hO.out (by have:=zA.out;omega));have zl:=aa (pY (bJ st));clear hkn hkp hO;generalize (bJ st).length=m at *;go_wp2_with fail;refine HST.out.mono ?_;rintro e w3 ⟨rfl,ct,oB⟩;have Dw:=aa (LU w w3 _ (dK (bJ st)) ct oB (by have:=zl.out;have:=zA.out;omega));clear ct oB HST;go_wp2_with fail;refine Dw.out.mono ?_;rintro e w4 ⟨eB,u,rfl,hi4⟩
    have HF:=aa (⟨eB,hi4⟩:_/\_);clear eB hi4 Dw;go_wp2;go_ret;exact ⟨HF.out.1,u,rfl,by rw [YA.out];exact HF.out.2⟩
theorem OC (S:Nat->Prop) (w:World) (v:Value) (st:List Int) (h:af S w v st) (hn:st.length<=7) (h2:(bM st).length<=2) :
  Calls Tryz.prog 65 #[v] w fun e w'=>e=.returned (.bool false)/\Up w w':=by
 obtain ⟨ip,ic,rfl,-,-⟩:=aB.open h;have h:af S w (.slice ip st.length ic) st:=h;have HI:=aa h;have Ex:=aa (zU S w _ st h hn);have HPW:Hid (∀k,k<8->2 ^ k<=128):=by unfold Hid;decide
 clear h;go_in;go_wp2_with fail;refine Ex.out.mono ?_;rintro e w1 ⟨aM,u,rfl,hi1⟩;obtain ⟨up,uc,rfl,-,-⟩:=aB.open hi1;have bU:=aa aM;clear aM hi1 Ex;generalize (bM st).length=q at *;go_wp2
 go_loopw [3,6,12] (fun o _ i wr=>∃k c:Nat,k<=st.length/\i=.int .i64 k/\o=.int .i64 c/\c<=2 ^ k/\Hid (wr=w1)) (fun _ _ i _=>st.length - (intOf i).toNat)
 case atStart=>exact ⟨0,1,bg _,rfl,rfl,aj _,rfl⟩
 case round =>
  obtain ⟨k,c,hk,rfl,rfl,hc,hW⟩:=hrel;obtain rfl:wr=w1:=hW.out;clear hW;obtain ⟨wo,rfl⟩:=e9 wr;by_cases hlt:k<st.length
  ·obtain ⟨ib,io,rfl,hci⟩:=dh (af.keep HI.out (bU.out.kept S)) hlt
   (have j1:(k:Int)<(st.length:Int):=by omega);(have j2:(k:Int)<8:=by omega);have XK:=HPW.out (k+1) (by omega);have hps:2 ^ (k+1)=2 ^ k*2:=Nat.pow_succ 2 k;(have hc2:c*q<=2 ^ (k+1):=by rw [hps];exact Nat.mul_le_mul hc h2);have yH:=aa hc2;(have Du:c*q<=128:=by omega);(have sP:c<=2 ^ (k+1):=by omega);have fo:=aa sP;have bf:=aa hlt;(have m1:(c:Int)*(q:Int)=((c*q:Nat):Int):=by simp);(have m2:wrap64 ((c:Int)*(q:Int))=((c*q:Nat):Int):=by rw [m1];unfold wrap64;omega);(have m3:decide (65536<((c*q:Nat):Int))=false:=by simp;omega);clear hlt hc hc2 sP XK hps Du m1
   generalize gi st k=x at *;by_cases hx:0<=x
   ·go_wp2
    go_roundw
    case rel=>exact ⟨k+1,c,bf.out,by go_num,rfl,fo.out,(by first | exact (rfl:wo=wo) | exact True.intro)⟩
    case measure=>have:=bf.out;simp [intOf];omega
   ·generalize c*q=cq at *
    go_wp2
    go_roundw
    case rel=>exact ⟨k+1,cq,bf.out,by go_num,by rw [m2],yH.out,(by first | exact (rfl:wo=wo) | exact True.intro)⟩
    case measure=>have:=bf.out;simp [intOf];omega
  ·obtain rfl:k=st.length:=by omega
   go_wp2;go_ret;exact ⟨rfl,bU.out⟩
end
end Go.Proofs.YtfomhlbhcifgbaaGreatDoor
