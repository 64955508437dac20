/- The plain law of the order of children: names compared, the least name below a node, .. -/
import Derived.Lib.Bytealg
import Derived.Sort.Statements
import Derived.MapKept
import Derived.Laws.Pointers
import Derived.Test.YtfomhlbhcifgbaaGreatDoorQ14
set_option maxRecDepth 100000
set_option maxHeartbeats 1000000
namespace Go.Proofs.YtfomhlbhcifgbaaGreatDoor
section
open Go.Sort
theorem mX:∀a b:List UInt8,Lib.compareBytes b a = - Lib.compareBytes a b
 | [],[]=>rfl
 | [],_::_=>rfl
 | _::_,[]=>rfl
 | a::u,b::v=>by
  unfold Lib.compareBytes
  by_cases h1:a<b
  ·have h2:¬b<a:=by rw [rj] at *;omega
   simp [h1,h2]
  ·by_cases h2:b<a
   ·simp [h1,h2]
   ·simp only [h1,h2,if_false];exact mX u v
theorem rQ:∀ {a b:List UInt8},Lib.compareBytes a b=0->a=b
 | [],[],_=>rfl
 | [],_::_,h=>by cases h
 | _::_,[],h=>by cases h
 | a::u,b::v,h=>by
  unfold Lib.compareBytes at h
  split at h
  ·cases h
  ·split at h
   ·cases h
   ·rename_i h1 h2
    have e:a=b:=by
     apply UInt8.toNat.inj
     rw [rj] at h1 h2;omega
    rw [e,rQ h]
theorem Ap (a:List UInt8):Lib.compareBytes a a=0:=by have:=mX a a;omega
theorem s7:∀ {a b c:List UInt8},Lib.compareBytes a b<0->Lib.compareBytes b c<0->Lib.compareBytes a c<0
 | [],[],_,h,_=>by cases h
 | [],_::_,[],_,h=>by cases h
 | [],_::_,_::_,_,_=>Int.negSucc_lt_zero 0
 | _::_,[],_,h,_=>by cases h
 | _::_,_::_,[],_,h=>by cases h
 | a::u,b::v,c::x,h,h'=>by
  unfold Lib.compareBytes at *
  by_cases h1:a<b
  ·by_cases h2:b<c
   ·have h3:a<c:=by rw [rj] at *;omega
    rw [if_pos h3];decide
   ·rw [if_neg h2] at h'
    by_cases h3:c<b
    ·rw [if_pos h3] at h';cases h'
    ·have h4:a<c:=by rw [rj] at *;omega
     rw [if_pos h4];decide
  ·rw [if_neg h1] at h
   by_cases h2:b<a
   ·rw [if_pos h2] at h;cases h
   ·rw [if_neg h2] at h
    have e:a=b:=by
     apply UInt8.toNat.inj
     rw [rj] at h1 h2;omega
    subst e
    by_cases h3:a<c
    ·rw [if_pos h3];decide
    ·rw [if_neg h3] at h' ⊢
     by_cases h4:c<a
     ·rw [if_pos h4] at h';cases h'
     ·rw [if_neg h4] at h' ⊢;exact s7 h h'
def gL (a b:ByteArray):Int:=Lib.compareBytes a.data.toList b.data.toList
theorem nu (a b:ByteArray):gL b a = - gL a b:=mX _ _
theorem p5 {a b:ByteArray} (h:gL a b=0):a=b:=A7 (rQ h)
theorem vI {a b c:ByteArray} (h:gL a b<0) (h':gL b c<0):gL a c<0:=s7 h h'
theorem MZ (a:ByteArray):gL a a=0:=Ap _
def nv (f:Nat->ByteArray) (x y:Nat):Bool:=decide (gL (f x) (f y)<=0)
def cF (f:Nat->ByteArray) (l:List Nat):List Nat:=l.mergeSort (nv f)
theorem DN (f:Nat->ByteArray) (a b c:Nat) (h:nv f a b=true) (h':nv f b c=true):nv f a c=true:=by
 unfold nv at *;simp only [decide_eq_true_eq] at *;by_cases h1:gL (f a) (f b)=0
 ·rw [p5 h1];exact h'
 ·by_cases h2:gL (f b) (f c)=0
  ·rw [<- p5 h2];exact h
  ·have:=vI (a:=f a) (b:=f b) (c:=f c) (by omega) (by omega);omega
theorem DO (f:Nat->ByteArray) (a b:Nat):(nv f a b || nv f b a)=true:=by
 unfold nv;have:=nu (f a) (f b);simp only [vg,decide_eq_true_eq];omega
theorem eu (f:Nat->ByteArray) (l:List Nat):(cF f l).Perm l:=List.mergeSort_perm _ _
theorem rR (f:Nat->ByteArray) (l:List Nat):(cF f l).Pairwise (fun a b=>nv f a b=true):=List.pairwise_mergeSort (DN f) (DO f) l
theorem zB {f g:Nat->ByteArray} {l:List Nat} (h:∀x∈l,f x=g x):cF f l=cF g l:=by
 have:=List.map_mergeSort (f:=id) (r:=nv f) (s:=nv g) (l:=l) (fun a ha b hb=>by simp only [nv,id];rw [h a ha,h b hb]);simpa [cF] using this
def Sep (f:Nat->ByteArray) (l:List Nat):Prop:=∀x∈l,∀y∈l,f x=f y->x=y
theorem wO {f:Nat->ByteArray} {l l':List Nat} (hp:l.Perm l') (hs:Sep f l):cF f l=cF f l':=by
 refine List.Perm.eq_of_pairwise (le:=fun a b=>nv f a b=true) ?_ (rR f l) (rR f l') (((eu f l).trans hp).trans (eu f l').symm);intro a b ha hb h1 h2;refine hs a ((eu f l).mem_iff.1 ha) b (hp.mem_iff.2 ((eu f l').mem_iff.1 hb)) (p5 ?_);unfold nv at h1 h2;simp only [decide_eq_true_eq] at h1 h2;have:=nu (f a) (f b);omega
structure Wf (F:aW) (n:Nat) (rk:Nat->Nat):Prop where
 kid:∀i,i<n->∀k∈F.kids i,k<n/\rk k<rk i
def s9 (F:aW):Nat->Nat->ByteArray
 | 0,i=>F.nm i
 | d+1,i=>match cF (s9 F d) (F.kids i) with | []=>F.nm i | k::_=>s9 F d k
theorem Aq {F:aW} {n:Nat} {rk:Nat->Nat} (h:Wf F n rk):∀ {d e i:Nat},i<n->rk i<=d->rk i<=e->s9 F d i=s9 F e i:=by
 intro d
 induction d with
 | zero =>
  intro e i hi hd he;have hk:F.kids i=[]:=by
   cases hk:F.kids i with
   | nil=>rfl
   | cons k l=>have:=(h.kid i hi k (by rw [hk];simp)).2;omega
  cases e with
  | zero=>rfl
  | succ e=>simp [s9,hk,cF]
 | succ d ih =>
  intro e i hi hd he;have hsame:∀e',rk i<=e'+1->cF (s9 F d) (F.kids i)=cF (s9 F e') (F.kids i):=fun e' he'=>zB fun k hk=>by have:=h.kid i hi k hk;exact ih this.1 (by omega) (by omega)
  cases e with
  | zero =>
   have hk:F.kids i=[]:=by
    cases hk:F.kids i with
    | nil=>rfl
    | cons k l=>have:=(h.kid i hi k (by rw [hk];simp)).2;omega
   simp [s9,hk,cF]
  | succ e =>
   simp only [s9];rw [hsame e (by omega)];cases hc:cF (s9 F e) (F.kids i) with
   | nil=>rfl
   | cons k l =>
    have hk:k∈F.kids i:=(eu _ _).mem_iff.1 (by rw [hc];simp);have:=h.kid i hi k hk;exact ih this.1 (by omega) (by omega)
def fL (F:aW) (rk:Nat->Nat) (i:Nat):ByteArray:=s9 F (rk i) i
theorem rS {F:aW} {n:Nat} {rk:Nat->Nat} (h:Wf F n rk) {i:Nat} (hi:i<n):fL F rk i=match cF (fL F rk) (F.kids i) with | []=>F.nm i | k::_=>fL F rk k:=by
 have h1:fL F rk i=s9 F (rk i+1) i:=Aq h hi (aj _) (jP _);rw [h1];simp only [s9];have hs:cF (s9 F (rk i)) (F.kids i)=cF (fL F rk) (F.kids i):=zB fun k hk=>by have:=h.kid i hi k hk;exact Aq h this.1 (by omega) (aj _)
 rw [hs];cases hc:cF (fL F rk) (F.kids i) with
 | nil=>rfl
 | cons k l =>
  have hk:k∈F.kids i:=(eu _ _).mem_iff.1 (by rw [hc];simp);have:=h.kid i hi k hk;exact Aq h this.1 (by omega) (aj _)
def qq (F:aW):Nat->Nat->Nat->Bool
 | 0,i,j=>j==i
 | d+1,i,j=>(j==i) || (F.kids i).any fun k=>qq F d k j
def bY (F:aW) (rk:Nat->Nat) (i j:Nat):Bool:=qq F (rk i) i j
theorem xU {F:aW} {n:Nat} {rk:Nat->Nat} (h:Wf F n rk):∀ {d e i j:Nat},i<n->rk i<=d->rk i<=e->qq F d i j=qq F e i j:=by
 intro d
 induction d with
 | zero =>
  intro e i j hi hd he;have hk:F.kids i=[]:=by
   cases hk:F.kids i with
   | nil=>rfl
   | cons k l=>have:=(h.kid i hi k (by rw [hk];simp)).2;omega
  cases e with
  | zero=>rfl
  | succ e=>simp [qq,hk]
 | succ d ih =>
  intro e i j hi hd he;cases e with
  | zero =>
   have hk:F.kids i=[]:=by
    cases hk:F.kids i with
    | nil=>rfl
    | cons k l=>have:=(h.kid i hi k (by rw [hk];simp)).2;omega
   simp [qq,hk]
  | succ e =>
   simp only [qq];congr 1;rw [nM,cR,cR];constructor
   ·rintro ⟨k,hk,h1⟩
    have:=h.kid i hi k hk;exact ⟨k,hk,by rw [<- ih (e:=e) this.1 (by omega) (by omega)];exact h1⟩
   ·rintro ⟨k,hk,h1⟩
    have:=h.kid i hi k hk;exact ⟨k,hk,by rw [ih (e:=e) this.1 (by omega) (by omega)];exact h1⟩
theorem gV {F:aW} {n:Nat} {rk:Nat->Nat} (h:Wf F n rk) {i:Nat} (hi:i<n) (j:Nat):bY F rk i j=((j==i) || (F.kids i).any fun k=>bY F rk k j):=by
 have h1:bY F rk i j=qq F (rk i+1) i j:=xU h hi (aj _) (jP _);rw [h1];simp only [qq];congr 1;rw [nM,cR,cR];constructor
 ·rintro ⟨k,hk,h1⟩
  have:=h.kid i hi k hk;exact ⟨k,hk,by unfold bY;rw [<- xU h this.1 (d:=rk i) (by omega) (aj _)];exact h1⟩
 ·rintro ⟨k,hk,h1⟩
  have:=h.kid i hi k hk;exact ⟨k,hk,by rw [xU h this.1 (e:=rk k) (by omega) (aj _)];exact h1⟩
def aW.iA (F:aW) (rk:Nat->Nat) (p:Nat->Bool):aW:={ F with kids:=fun i=>if p i then cF (fL F rk) (F.kids i) else F.kids i }
theorem aW.ir (F:aW) (rk:Nat->Nat) (p:Nat->Bool) (i:Nat):((F.iA rk p).kids i).Perm (F.kids i):=by
 show (if p i then _ else _:List Nat).Perm _;split
 ·exact eu _ _
 ·exact qH _
end
section
open Go.RowKit Go.Deep
def Plain (w:World) (b:Nat):Prop:=∃c t,w.heap[b]? = some (.cells c t (0,0))/\0<c.size
section
variable {P:Program} {w:World}
theorem Gc {a b:Nat} (ha:Plain w a) (hb:Plain w b):(sameAddr ⟨a,0,none⟩ ⟨b,0,none⟩).run P w=.ok (decide (a=b)) w:=by
 obtain ⟨ca,ta,ha,hca⟩:=ha;obtain ⟨cb,tb,hb,hcb⟩:=hb;by_cases h:a=b
 ·subst h;simp [sameAddr]
 ·have h1:(a==b)=false:=by simp [h]
  simp [sameAddr,h1,h,World.frozen?,ha,hb,noView,viewAt,mayBeOne,stringish,World.shape?,getObj,Sem.run,shape,frozen]
def pk:Option Nat->Value
 | none=>.pointer none
 | some b=>.pointer (some ⟨b,0,none⟩)
def fP (w:World):Option Nat->Prop
 | none=>True
 | some b=>Plain w b
theorem Qx {t e:TypeId} (ht:P.underlying t=some (.pointer e)) (he:∀w,(sizeOf e).run P w=.ok 3 w) {x y:Option Nat} (hx:fP w x) (hy:fP w y) (d:Nat):(Op.equalIn (d+1) t (pk x) (pk y)).run P w=.ok (decide (x=y)) w:=by
 have hu:=run_underlying (w:=w) ht;unfold Op.equalIn;cases x with
 | none=>cases y<;>simp [hu,pk]
 | some a =>
  cases y with
  | none=>simp [hu,pk]
  | some b =>
   have h:=Gc (P:=P) hx hy;simp [hu,pk,he,h]
theorem JR {t e:TypeId} (ht:P.underlying t=some (.pointer e)) (he:∀w,(sizeOf e).run P w=.ok 3 w) {x y:Option Nat} (hx:fP w x) (hy:fP w y):(Op.equal t (pk x) (pk y)).run P w=.ok (decide (x=y)) w :=
 Qx ht he hx hy 9999
theorem Lh {t e:TypeId} (ht:P.underlying t=some (.pointer e)) (he:∀w,(sizeOf e).run P w=.ok 3 w) {k:Option Nat} (hk:fP w k):∀(es:List MapEntry) (l:List (Option Nat×Value)) (i:Nat),
  es.map (fun x=>(x.key,x.val))=l.map (fun x=>(pk x.1,x.2))->(∀x∈l,fP w x.1) ->
   (l.lookup k=none/\(Instr.findAsking t (pk k) es i).run P w=.ok none w)\/∃j v,l.lookup k=some v/\(Instr.findAsking t (pk k) es i).run P w=.ok (some (j,v)) w:=by
 intro es
 induction es with
 | nil =>
  intro l i hl _;cases l with
  | nil=>exact .inl ⟨rfl,by simp [Instr.findAsking]⟩
  | cons=>cases hl
 | cons x es ih =>
  intro l i hl hok;cases l with
  | nil=>cases hl
  | cons y l =>
   simp only [cV,List.cons.injEq,iO] at hl;obtain ⟨⟨h1,h2⟩,h3⟩:=hl;have heq:=JR (w:=w) ht he hk (hok y (by simp));rw [<- h1] at heq;by_cases h:k=y.1
   ·subst h
    refine .inr ⟨i,y.2,?_,?_⟩
    ·obtain ⟨y1,y2⟩:=y;simp
    ·simp [Instr.findAsking,heq,h2]
   ·have hb:(k==y.1)=false:=by simpa using h
    rcases ih l (i+1) h3 (fun z hz=>hok z (by simp [hz])) with ⟨h4,h5⟩ | ⟨j,v,h4,h5⟩
    ·refine .inl ⟨?_,by simp [Instr.findAsking,heq,h,h5]⟩
     obtain ⟨y1,y2⟩:=y;rw [dJ,hb];exact h4
    ·refine .inr ⟨j,v,?_,by simp [Instr.findAsking,heq,h,h5]⟩
     obtain ⟨y1,y2⟩:=y;rw [dJ,hb];exact h4
def jy (w:World) (b:Nat) (l:List (Option Nat×Value)):Prop:=∃es clock,w.heap[b]? = some (.map es clock)/\es.toList.map (fun x=>(x.key,x.val))=l.map (fun x=>(pk x.1,x.2))
theorem run_findKey {t e:TypeId} (ht:P.underlying t=some (.pointer e)) (he:∀w,(sizeOf e).run P w=.ok 3 w) {k:Option Nat} (hk:fP w k) (es:List MapEntry) (l:List (Option Nat×Value))
  (hl:es.map (fun x=>(x.key,x.val))=l.map (fun x=>(pk x.1,x.2))) (hok:∀x∈l,fP w x.1) :
   (l.lookup k=none/\(Instr.findKey t (pk k) es).run P w=.ok none w)\/∃j v,l.lookup k=some v/\(Instr.findKey t (pk k) es).run P w=.ok (some (j,v)) w:=by
 have hu:=run_underlying (w:=w) ht;have h:=Lh ht he hk es l 0 hl hok;cases es with
 | nil =>
  cases l with
  | nil=>exact .inl ⟨rfl,by simp [Instr.findKey,hu,Instr.findNow]⟩
  | cons=>cases hl
 | cons x es =>
  have hn:Instr.findNow (.pointer e) (pk k) (x::es) 0=none:=by simp [Instr.findNow,Instr.sameNow]
  rcases h with ⟨h1,h2⟩ | ⟨j,v,h1,h2⟩
  ·exact .inl ⟨h1,by simp [Instr.findKey,hu,hn,h2]⟩
  ·exact .inr ⟨j,v,h1,by simp [Instr.findKey,hu,hn,h2]⟩
theorem run_checkKey {t e:TypeId} (ht:P.underlying t=some (.pointer e)) (em:Bool) (k:Option Nat):(Instr.checkKey em 10000 t (pk k)).run P w=.ok () w:=by
 have hu:=run_underlying (w:=w) ht;show (Instr.checkKey em (9999+1) t (pk k)).run P w=_;unfold Instr.checkKey;cases k<;>simp [hu,pk]
theorem vJ {mt t e el:TypeId} (hm:P.underlying mt=some (.map t el)) (ht:P.underlying t=some (.pointer e)) (he:∀w,(sizeOf e).run P w=.ok 3 w) {b:Nat} {l:List (Option Nat×Value)} (h:jy w b l) {k:Option Nat} {v:Value}
  (hk:fP w k) (hok:∀x∈l,fP w x.1) (hv:l.lookup k=some v):(Instr.lookup mt (.map (some b)) (pk k) false).run P w=.ok v w:=by
 obtain ⟨es,clock,hb,hl⟩:=h;have hu:=run_underlying (w:=w) hm;have hg:=yT (P:=P) hb;rcases run_findKey ht he hk es.toList l hl hok with ⟨h1,h2⟩ | ⟨j,v',h1,h2⟩
 ·rw [h1] at hv;cases hv
 ·rw [h1] at hv;injection hv with hv;subst hv
  simp [Instr.lookup,hu,hg,run_checkKey ht,h2]
theorem Gd {mt t e el:TypeId} (hm:P.underlying mt=some (.map t el)) (ht:P.underlying t=some (.pointer e)) (he:∀w,(sizeOf e).run P w=.ok 3 w) {b:Nat} {l:List (Option Nat×Value)} (h:jy w b l) {k:Option Nat} (v:Value)
  (hk:fP w k) (hok:∀x∈l,fP w x.1) (hv:l.lookup k=none) :
  ∃w',(Instr.mapUpdate mt (.map (some b)) (pk k) v).run P w=.ok () w'/\jy w' b (l++[(k,v)])/\w'.heap.size=w.heap.size/\w'.os=w.os/\w'.tape=w.tape/\w'.output=w.output/\∀j,j≠b->w'.heap[j]? = w.heap[j]?:=by
 obtain ⟨es,clock,hb,hl⟩:=h;have hu:=run_underlying (w:=w) hm;have hg:=yT (P:=P) hb;rcases run_findKey ht he hk es.toList l hl hok with ⟨h1,h2⟩ | ⟨j,v',h1,h2⟩
 ·have hs:=MapKept.run_setObj_map (P:=P) (.map (es.push { key:=pk k,val:=v,born:=clock }) (clock+1)) hb
  refine ⟨{ w with heap:=w.heap.setIfInBounds b (.map (es.push { key:=pk k,val:=v,born:=clock }) (clock+1)) },by simp [Instr.mapUpdate,hu,hg,run_checkKey ht,h2,hs],⟨es.push { key:=pk k,val:=v,born:=clock },clock+1,?_,by simp [hl]⟩,by simp,rfl,rfl,rfl,fun j hj=>?_⟩
  ·have:=(bq.1 hb).1
   simp [this]
  ·simp [Ne.symm hj]
 ·rw [h1] at hv;cases hv
end
def Ge (w wr:World) (g0 N k:Nat):Prop:=Up w wr/\∃f,wr.rowIs g0 27 N f/\∀i,i<k->af (fun b=>b≠g0) wr (f i) (lT N i)
theorem Gf {N k j:Nat} (hj:j<N):(if j=k then Value.int .i64 0 else if j<N then .int .i64 1 else .int .i64 0)=.int .i64 (gi (lT N k) j):=by
 rw [Bg hj];unfold Fp;by_cases h:j=k
 ·rw [if_pos h,if_pos h.symm]
 ·rw [if_neg h,if_pos hj,if_neg (fun e=>h e.symm)]
theorem BD {w:World} {p:Addr} {v:Value} (h:∃u,w.cell? p=some u):(w.setCell p v).cell? p=some v:=by
 obtain ⟨u,h⟩:=h;exact World.cell?_setCell_same' _ _ _ (by rw [h];rfl)
theorem rT {w:World} {p:Addr} {v:Value} {b o:Nat} (h:p.block≠b):(w.setCell p v).cell? ⟨b,o,none⟩=w.cell? ⟨b,o,none⟩ :=
 cW (a:=⟨b,o,none⟩) (blk_setCell_other _ _ _ _ (fun e=>h e.symm))
theorem Ge.step {w wr w8:World} {g0 g N k:Nat} (h:Ge w wr g0 N k) (hk:k<N) (hu:Up wr w8) (hg:wr.heap.size<=g) (hr:w8.heap[g]? = some (.cells (eO N N).toArray 3 (0,0))) (hw0:w.heap.size<=g0) :
  Ge w ((w8.setCell ⟨g0,k,none⟩ (.slice (some ⟨g,0,none⟩) N N)).setCell ⟨g,k,none⟩ (.int .i64 0)) g0 N (k+1):=by
 obtain ⟨dy,f,hrow,hin⟩:=h;have hg0:=hrow.lt;have hne:g0≠g:=by omega
 have BF:w8.rowIs g0 27 N f:=hrow.of_block (aO hu g0 hg0);have ZL:=(BF.set k (.slice (some ⟨g,0,none⟩) N N)).setOther (a:=⟨g,k,none⟩) hne (.int .i64 0);have hwg:w.heap.size<=g:=aV dy.size hg;refine ⟨((dy.trans hu).setCell (p:=⟨g0,k,none⟩) hw0 _).setCell (p:=⟨g,k,none⟩) hwg _,_,ZL,fun i hi=>?_⟩;by_cases hik:i=k
 ·subst hik
  simp only [if_true];refine ⟨_,_,by rw [tT],by rw [tT];exact aj _,.inr ⟨g,0,rfl,fun e=>hne e.symm,fun j hj=>?_⟩⟩;rw [tT] at hj;show _=some (Value.int .i64 (gi (lT N i) j));rw [jQ,<- Gf hj];have hb:(w8.setCell ⟨g0,i,none⟩ (.slice (some ⟨g,0,none⟩) N N)).cell? ⟨g,j,none⟩=some (if j<N then .int .i64 1 else .int .i64 0):=by rw [rT (by simpa using hne)];exact sZ hr hj
  have hb2:(w8.setCell ⟨g0,i,none⟩ (.slice (some ⟨g,0,none⟩) N N)).cell? ⟨g,i,none⟩=some (if i<N then .int .i64 1 else .int .i64 0):=by rw [rT (by simpa using hne)];exact sZ hr hk
  by_cases e:j=i
  ·subst e;rw [if_pos rfl];exact BD ⟨_,hb⟩
  ·rw [if_neg e]
   exact (World.cell?_setCell_other _ ⟨g,i,none⟩ ⟨g,j,none⟩ _ (fun h=>e (by injection h with _ h2;exact h2.symm))).trans hb
 ·simp only [hik,if_false]
  refine af.keep (hin i (by omega)) (w:=wr) fun b hb hl=>?_;have h1:w8.heap[b]? = wr.heap[b]?:=aO hu b hl;rw [<- h1];exact (blk_setCell_other _ _ _ _ (by simp;omega)).trans (blk_setCell_other _ _ _ _ (by simpa using hb))
theorem V7 (w:World) (N:Nat) (sX:1<=N) (hN:N<=16):Calls Tryz.prog 82 #[.int .i64 N] w (Bz w (bT N)):=by
 have hmk:=fun W=>run_make_row' (P:=Tryz.prog) 23 27 (.slice none 0 0) 24 Tryz.underlying23 Tryz.MB rfl .i64 .i64 N (by omega) (by omega) W;have HO:Hid (Ge w (w.alloc (.cells (madeCells #[.slice none 0 0] N) 27)) w.heap.size N 0):=⟨Up.alloc _ _,_,World.rowIs_made w (.slice none 0 0) N 27,fun _ hi=>absurd hi (cz _)⟩;go_in;go_wp2_with fail;generalize w.alloc (.cells (madeCells #[.slice none 0 0] N) 27)=w1 at *
 go_loopw [9] (fun i wr=>∃k:Nat,k<=N/\i=.int .i64 k/\Hid (Ge w wr w.heap.size N k)) (fun i _=>N - (intOf i).toNat)
 case atStart=>exact ⟨0,bg _,rfl,HO⟩
 case round =>
  obtain ⟨k,hk,rfl,hO⟩:=hrel;obtain ⟨wo,rfl⟩:=e9 wr;by_cases hlt:k<N
  ·obtain ⟨dy,f,hrow,_⟩:=hO.out
   have hg0:=hrow.lt;have K6:=aa hrow;have M0:=aa (FR (wo.alloc (.cells #[.int .i64 1] 3)) wo.heap.size 0 N sX (by omega) (bE _ _ _ 0));clear dy hrow;go_wp2_with fail;refine M0.out.mono ?_;rintro e w8 ⟨g,rfl,hg,hu,hr⟩;rw [aN] at hg;have oC:Up wo w8:=(Up.alloc _ _).trans hu;have hst:=hO.out.step hlt oC (by omega) hr (aj _);have BF:=K6.out.of_block (aO oC _ hg0);have hcell:w8.cell? ⟨w.heap.size,k,none⟩=some (f k):=BF.cell hlt;have hfz:w8.frozen? ⟨w.heap.size,k,none⟩=false:=BF.frozen k
   (have hcg:w8.cell? ⟨g,k,none⟩=some (.int .i64 1):=by have h:=sZ hr hlt;rw [if_pos hlt] at h;exact h);(have hfg:w8.frozen? ⟨g,k,none⟩=false:=by simp [World.frozen?,hr]);(have hne:w.heap.size≠g:=by omega);(have KU:g≠w.heap.size:=by omega);have HST:=aa hst;clear hst BF hr hu oC K6 M0 hO;go_wp2
   go_roundw
   case rel=>exact ⟨k+1,by omega,by go_num,HST⟩
   case measure=>simp [intOf];omega
  ·obtain rfl:k=N:=by omega
   go_wp2;go_ret;obtain ⟨dy,f,hrow,hin⟩:=hO.out;refine ⟨dy,.slice (some ⟨w.heap.size,0,none⟩) k k,rfl,f,⟨_,_,by rw [kY],by rw [kY];exact aj _,.inr ⟨_,0,rfl,trivial,fun i hi=>?_⟩⟩,fun i hi=>?_⟩
   ·rw [kY] at hi
    rw [jQ];exact hrow.cell hi
   ·rw [kY] at hi
    rw [Fq hi];exact (hin i hi).sub fun _ _ _=>trivial
end
end Go.Proofs.YtfomhlbhcifgbaaGreatDoor
