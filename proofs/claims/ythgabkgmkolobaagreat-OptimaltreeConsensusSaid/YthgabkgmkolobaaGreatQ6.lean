/- Nodes that point at each other: how a .. -/
import Derived.Lib.Bytealg
import Derived.Sort.Statements
import Derived.MapKept
import Derived.Laws.Pointers
import Derived.Shelf.SlGeneric
import Derived.Shelf.SlSortCmp.NoneTotal
import Derived.Sort.OwnSorted
import Derived.Test.YthgabkgmkolobaaGreatQ5
set_option maxRecDepth 100000
set_option maxHeartbeats 800000
namespace Go.Proofs.YthgabkgmkolobaaGreat
section
open Go.RowKit Go.Deep
structure bW where
 nm:Nat->ByteArray
 old:Nat->Int
 kids:Nat->List Nat
def dh (A:Nat->Nat) (k:Nat):Value:=.pointer (some ⟨A k,0,none⟩)
def upd {α:Type} (f:Nat->α) (k:Nat) (x:α) (i:Nat):α:=if i=k then x else f i
theorem upd_same {α:Type} (f:Nat->α) (k:Nat) (x:α):upd f k x k=x:=by simp [upd]
theorem upd_ne {α:Type} (f:Nat->α) {k i:Nat} (x:α) (h:i≠k):upd f k x i=f i:=by simp [upd,h]
structure cE (base n:Nat) (A:Nat->Nat) (kv:Nat->Value) (F:bW) (w:World):Prop where
 node:∀i,i<n->w.heap[A i]? = some (.cells #[.string (F.nm i),kv i,.int .i64 (F.old i)] 122 (0,0))
 lo:∀i,i<n->base<=A i
 inj:∀i j,i<n->j<n->A i=A j->i=j
 own:∀i,i<n->au base 119 w (kv i) ((F.kids i).map (dh A))
 apart:∀i j,i<n->j<n->(kv i).ownBlock≠some (A j)
 alone:∀i j b,i<n->j<n->(kv i).ownBlock=some b->(kv j).ownBlock=some b->i=j
 kid:∀i,i<n->∀k∈F.kids i,k<n
theorem au.same {base:Nat} {e:TypeId} {w w':World} {v:Value} {vs:List Value} (h:au base e w v vs) (k:∀b,v.ownBlock=some b->w'.heap[b]? = w.heap[b]?):au base e w' v vs:=by
 obtain ⟨hl,h | ⟨g,cap,cur,rfl,hg,hc,hr⟩⟩:=h
 ·exact ⟨hl,.inl h⟩
 ·exact ⟨hl,.inr ⟨g,cap,cur,rfl,hg,by rw [k g rfl];exact hc,hr⟩⟩
theorem au.tK {base base':Nat} {e:TypeId} {w:World} {v:Value} {vs:List Value} (h:au base e w v vs) (hb:base'<=base):au base' e w v vs:=by
 obtain ⟨hl,h | ⟨g,cap,cur,rfl,hg,hc,hr⟩⟩:=h
 ·exact ⟨hl,.inl h⟩
 ·exact ⟨hl,.inr ⟨g,cap,cur,rfl,aB hb hg,hc,hr⟩⟩
section
variable {base n:Nat} {A:Nat->Nat} {kv:Nat->Value} {F:bW} {w w':World}
theorem cE.lt (h:cE base n A kv F w) {i:Nat} (hi:i<n):A i<w.heap.size:=(fq.1 (h.node i hi)).1
theorem cE.lF (h:cE base n A kv F w) {i b:Nat} (hi:i<n) (hb:(kv i).ownBlock=some b):base<=b/\b<w.heap.size:=av (h.own i hi) hb
theorem cE.name (h:cE base n A kv F w) {i:Nat} (hi:i<n):w.cell? ⟨A i,0,none⟩=some (.string (F.nm i)):=by simp [World.cell?,h.node i hi]
theorem cE.yM (h:cE base n A kv F w) {i:Nat} (hi:i<n):w.cell? ⟨A i,1,none⟩=some (kv i):=by simp [World.cell?,h.node i hi]
theorem cE.thaw (h:cE base n A kv F w) {i:Nat} (hi:i<n) (o:Nat):w.frozen? ⟨A i,o,none⟩=false:=by simp [World.frozen?,h.node i hi]
theorem cE.same (h:cE base n A kv F w) (ha:∀i,i<n->w'.heap[A i]? = w.heap[A i]?) (hk:∀i b,i<n->(kv i).ownBlock=some b->w'.heap[b]? = w.heap[b]?):cE base n A kv F w' :=
 ⟨fun i hi=>by rw [ha i hi];exact h.node i hi,h.lo,h.inj,fun i hi=>(h.own i hi).same fun b hb=>hk i b hi hb,h.apart,h.alone,h.kid⟩
theorem cE.kept (h:cE base n A kv F w) (k:∀b,base<=b->b<w.heap.size->w'.heap[b]? = w.heap[b]?):cE base n A kv F w' :=
 h.same (fun i hi=>k _ (h.lo i hi) (h.lt hi)) (fun _ _ hi hb=>k _ (h.lF hi hb).1 (h.lF hi hb).2)
theorem cE.up (h:cE base n A kv F w) (k:Up w w'):cE base n A kv F w':=h.kept fun b _ hb=>bH k b hb
theorem cE.put (h:cE base n A kv F w) {k:Nat} (hk:k<n) {v:Value} {ks:List Nat}
  (ha:∀i,i<n->i≠k->w'.heap[A i]? = w.heap[A i]?) (hn:w'.heap[A k]? = some (.cells #[.string (F.nm k),v,.int .i64 (F.old k)] 122 (0,0)))
  (hv:au base 119 w' v (ks.map (dh A))) (ho:∀i b,i<n->i≠k->(kv i).ownBlock=some b->w'.heap[b]? = w.heap[b]?)
  (hb:∀b,v.ownBlock=some b->(kv k).ownBlock=some b\/w.heap.size<=b) (hks:∀j∈ks,j<n):cE base n A (upd kv k v) { F with kids:=upd F.kids k ks } w':=by
 refine ⟨fun i hi=>?_,h.lo,h.inj,fun i hi=>?_,fun i j hi hj=>?_,fun i j b hi hj h1 h2=>?_,fun i hi=>?_⟩
 ·by_cases e:i=k
  ·subst e;rw [upd_same];exact hn
  ·rw [upd_ne _ _ e,ha i hi e];exact h.node i hi
 ·by_cases e:i=k
  ·subst e;simp only [upd_same];exact hv
  ·simp only [upd_ne _ _ e];exact (h.own i hi).same fun b hb=>ho i b hi e hb
 ·by_cases e:i=k
  ·subst e;rw [upd_same];intro h3
   rcases hb _ h3 with h4 | h4
   ·exact h.apart i j hi hj h4
   ·exact absurd (h.lt hj) (by omega)
  ·rw [upd_ne _ _ e];exact h.apart i j hi hj
 ·by_cases e1:i=k
  ·by_cases e2:j=k
   ·rw [e1,e2]
   ·subst e1
    rw [upd_same] at h1;rw [upd_ne _ _ e2] at h2;rcases hb _ h1 with h4 | h4
    ·exact h.alone i j b hi hj h4 h2
    ·exact absurd (h.lF hj h2).2 (by omega)
  ·by_cases e2:j=k
   ·subst e2
    rw [upd_same] at h2;rw [upd_ne _ _ e1] at h1;rcases hb _ h2 with h4 | h4
    ·exact h.alone i j b hi hj h1 h4
    ·exact absurd (h.lF hi h1).2 (by omega)
   ·rw [upd_ne _ _ e1] at h1
    rw [upd_ne _ _ e2] at h2;exact h.alone i j b hi hj h1 h2
 ·by_cases e:i=k
  ·subst e;simp only [upd_same];exact hks
  ·simp only [upd_ne _ _ e];exact h.kid i hi
theorem cE.Hv (h:cE base n A kv F w) (hb:base<=w.heap.size) (nm:ByteArray) (old:Int) :
  cE base (n+1) (upd A n w.heap.size) (upd kv n (.slice none 0 0)) ⟨upd F.nm n nm,upd F.old n old,upd F.kids n []⟩ (w.alloc (.cells #[.string nm,.slice none 0 0,.int .i64 old] 122)):=by
 have hne:∀i,i<n->i≠n:=fun i hi=>by omega
 have hmap:∀i,i<n->(F.kids i).map (dh (upd A n w.heap.size))=(F.kids i).map (dh A):=fun i hi=>by refine lz fun k hk=>?_;unfold dh;rw [upd_ne _ _ (hne k (h.kid i hi k hk))]
 have td:∀i,i<n+1->i<n\/i=n:=fun i hi=>by omega
 refine ⟨fun i hi=>?_,fun i hi=>?_,fun i j hi hj e=>?_,fun i hi=>?_,fun i j hi hj=>?_,fun i j b hi hj h1 h2=>?_,fun i hi=>?_⟩
 ·rcases td i hi with hi | rfl
  ·simp only [upd_ne _ _ (hne i hi)];rw [blk_alloc_lt _ _ _ (h.lt hi)];exact h.node i hi
  ·simp only [upd_same];exact blk_alloc_new _ _
 ·rcases td i hi with hi | rfl
  ·rw [upd_ne _ _ (hne i hi)];exact h.lo i hi
  ·rw [upd_same];exact hb
 ·rcases td i hi with hi | rfl<;>rcases td j hj with hj | rfl
  ·rw [upd_ne _ _ (hne i hi),upd_ne _ _ (hne j hj)] at e;exact h.inj i j hi hj e
  ·rw [upd_ne _ _ (hne i hi),upd_same] at e;have:=h.lt hi;omega
  ·rw [upd_same,upd_ne _ _ (hne j hj)] at e;have:=h.lt hj;omega
  ·rfl
 ·rcases td i hi with hi | rfl
  ·simp only [upd_ne _ _ (hne i hi)];rw [hmap i hi];exact (h.own i hi).alloc _
  ·simp only [upd_same];exact au.nil _ _ _
 ·rcases td i hi with hi | rfl
  ·rw [upd_ne _ _ (hne i hi)]
   rcases td j hj with hj | rfl
   ·rw [upd_ne _ _ (hne j hj)];exact h.apart i j hi hj
   ·rw [upd_same];intro e;have:=(h.lF hi e).2;omega
  ·rw [upd_same];intro e;cases e
 ·rcases td i hi with hi | rfl<;>rcases td j hj with hj | rfl
  ·rw [upd_ne _ _ (hne i hi)] at h1;rw [upd_ne _ _ (hne j hj)] at h2;exact h.alone i j b hi hj h1 h2
  ·rw [upd_same] at h2;cases h2
  ·rw [upd_same] at h1;cases h1
  ·rfl
 ·rcases td i hi with hi | rfl
  ·simp only [upd_ne _ _ (hne i hi)];intro k hk;have:=h.kid i hi k hk;omega
  ·simp only [upd_same];intro k hk;cases hk
theorem cE.empty (base:Nat) (A:Nat->Nat) (kv:Nat->Value) (F:bW) (w:World):cE base 0 A kv F w :=
 ⟨fun _ h=>absurd h (aZ _),fun _ h=>absurd h (aZ _),fun _ _ h=>absurd h (aZ _),fun _ h=>absurd h (aZ _),fun _ _ h=>absurd h (aZ _),fun _ _ _ h=>absurd h (aZ _),fun _ h=>absurd h (aZ _)⟩
theorem cE.push (h:cE base n A kv F w) {k c:Nat} (hk:k<n) (hc:c<n) {v:Value} (hv:au base 119 w' v ((F.kids k++[c]).map (dh A))) (hg:w.grownBy w' (kv k).ownBlock)
  (hb:∀b,v.ownBlock=some b->(kv k).ownBlock=some b\/w.heap.size<=b):cE base n A (upd kv k v) { F with kids:=upd F.kids k (F.kids k++[c]) } (w'.setCell ⟨A k,1,none⟩ v):=by
 have hold:∀i,i<n->w'.heap[A i]? = w.heap[A i]?:=fun i hi=>hg.block (A i) (h.lt hi) (fun e=>h.apart k i hk hi e.symm);have hnA:∀b,v.ownBlock=some b->b≠A k:=fun b hv2 e=>by
  rcases hb b hv2 with h4 | h4
  ·exact h.apart k k hk hk (by rw [h4,e])
  ·have:=h.lt hk;omega
 refine h.put hk (fun i hi e=>?_) ?_ (hv.same fun b hv2=>blk_setCell_other _ _ _ _ (hnA b hv2)) (fun i b hi e hb2=>?_) hb ?_
 ·rw [blk_setCell_other _ _ _ _ (fun e2=>e (h.inj i k hi hk e2))];exact hold i hi
 ·have hn:=hold k hk
  rw [h.node k hk] at hn;simp [World.setCell,Array.getElem?_modify,hn]
 ·have hne:b≠A k:=fun e2=>h.apart i k hi hk (by rw [hb2,e2])
  rw [blk_setCell_other _ _ _ _ hne];exact hg.block b (h.lF hi hb2).2 (fun e2=>e (h.alone i k b hi hk hb2 e2.symm))
 ·intro j hj
  rcases ey.1 hj with h1 | h1
  ·exact h.kid k hk j h1
  ·have:j=c:=by simpa using h1
   omega
end
end
section
open Go.Sort
theorem tB:∀a b:List UInt8,Lib.compareBytes b a = - Lib.compareBytes a b
 | [],[]=>rfl
 | [],_::_=>rfl
 | _::_,[]=>rfl
 | a::u,b::v=>by
  unfold Lib.compareBytes
  by_cases h1:a<b
  ·have h2:¬b<a:=by rw [yC] at *;omega
   simp [h1,h2]
  ·by_cases h2:b<a
   ·simp [h1,h2]
   ·simp only [h1,h2,if_false];exact tB u v
theorem yN:∀ {a b:List UInt8},Lib.compareBytes a b=0->a=b
 | [],[],_=>rfl
 | [],_::_,h=>by cases h
 | _::_,[],h=>by cases h
 | a::u,b::v,h=>by
  unfold Lib.compareBytes at h
  split at h
  ·cases h
  ·split at h
   ·cases h
   ·rename_i h1 h2
    have e:a=b:=by
     apply UInt8.toNat.inj
     rw [yC] at h1 h2;omega
    rw [e,yN h]
theorem Hw (a:List UInt8):Lib.compareBytes a a=0:=by have:=tB a a;omega
theorem Ah:∀ {a b c:List UInt8},Lib.compareBytes a b<0->Lib.compareBytes b c<0->Lib.compareBytes a c<0
 | [],[],_,h,_=>by cases h
 | [],_::_,[],_,h=>by cases h
 | [],_::_,_::_,_,_=>Int.negSucc_lt_zero 0
 | _::_,[],_,h,_=>by cases h
 | _::_,_::_,[],_,h=>by cases h
 | a::u,b::v,c::x,h,h'=>by
  unfold Lib.compareBytes at *
  by_cases h1:a<b
  ·by_cases h2:b<c
   ·have h3:a<c:=by rw [yC] at *;omega
    rw [if_pos h3];decide
   ·rw [if_neg h2] at h'
    by_cases h3:c<b
    ·rw [if_pos h3] at h';cases h'
    ·have h4:a<c:=by rw [yC] at *;omega
     rw [if_pos h4];decide
  ·rw [if_neg h1] at h
   by_cases h2:b<a
   ·rw [if_pos h2] at h;cases h
   ·rw [if_neg h2] at h
    have e:a=b:=by
     apply UInt8.toNat.inj
     rw [yC] at h1 h2;omega
    subst e
    by_cases h3:a<c
    ·rw [if_pos h3];decide
    ·rw [if_neg h3] at h' ⊢
     by_cases h4:c<a
     ·rw [if_pos h4] at h';cases h'
     ·rw [if_neg h4] at h' ⊢;exact Ah h h'
def eB (a b:ByteArray):Int:=Lib.compareBytes a.data.toList b.data.toList
theorem lT (a b:ByteArray):eB b a = - eB a b:=tB _ _
theorem lU {a b:ByteArray} (h:eB a b=0):a=b:=yD (yN h)
theorem xQ {a b c:ByteArray} (h:eB a b<0) (h':eB b c<0):eB a c<0:=Ah h h'
theorem Mi (a:ByteArray):eB a a=0:=Hw _
def tL (f:Nat->ByteArray) (x y:Nat):Bool:=decide (eB (f x) (f y)<=0)
def eU (f:Nat->ByteArray) (l:List Nat):List Nat:=l.mergeSort (tL f)
theorem Mj (f:Nat->ByteArray) (a b c:Nat) (h:tL f a b=true) (h':tL f b c=true):tL f a c=true:=by
 unfold tL at *;simp only [decide_eq_true_eq] at *;by_cases h1:eB (f a) (f b)=0
 ·rw [lU h1];exact h'
 ·by_cases h2:eB (f b) (f c)=0
  ·rw [<- lU h2];exact h
  ·have:=xQ (a:=f a) (b:=f b) (c:=f c) (by omega) (by omega);omega
theorem Mk (f:Nat->ByteArray) (a b:Nat):(tL f a b || tL f b a)=true:=by
 unfold tL;have:=lT (f a) (f b);simp only [s7,decide_eq_true_eq];omega
theorem ic (f:Nat->ByteArray) (l:List Nat):(eU f l).Perm l:=F4 _ _
theorem yO (f:Nat->ByteArray) (l:List Nat):(eU f l).Pairwise (fun a b=>tL f a b=true):=List.pairwise_mergeSort (Mj f) (Mk f) l
theorem Gy {f g:Nat->ByteArray} {l:List Nat} (h:∀x∈l,f x=g x):eU f l=eU g l:=by
 have:=List.map_mergeSort (f:=id) (r:=tL f) (s:=tL g) (l:=l) (fun a ha b hb=>by simp only [tL,id];rw [h a ha,h b hb]);simpa [eU] using this
def Sep (f:Nat->ByteArray) (l:List Nat):Prop:=∀x∈l,∀y∈l,f x=f y->x=y
theorem DN {f:Nat->ByteArray} {l l':List Nat} (hp:l.Perm l') (hs:Sep f l):eU f l=eU f l':=by
 refine List.Perm.eq_of_pairwise (le:=fun a b=>tL f a b=true) ?_ (yO f l) (yO f l') (((ic f l).trans hp).trans (ic f l').symm);intro a b ha hb h1 h2;refine hs a ((ic f l).mem_iff.1 ha) b (hp.mem_iff.2 ((ic f l').mem_iff.1 hb)) (lU ?_);unfold tL at h1 h2;simp only [decide_eq_true_eq] at h1 h2;have:=lT (f a) (f b);omega
structure Wf (F:bW) (n:Nat) (rk:Nat->Nat):Prop where
 kid:∀i,i<n->∀k∈F.kids i,k<n/\rk k<rk i
def Ai (F:bW):Nat->Nat->ByteArray
 | 0,i=>F.nm i
 | d+1,i=>match eU (Ai F d) (F.kids i) with | []=>F.nm i | k::_=>Ai F d k
theorem Hx {F:bW} {n:Nat} {rk:Nat->Nat} (h:Wf F n rk):∀ {d e i:Nat},i<n->rk i<=d->rk i<=e->Ai F d i=Ai F e i:=by
 intro d
 induction d with
 | zero =>
  intro e i hi hd he;have hk:F.kids i=[]:=by
   cases hk:F.kids i with
   | nil=>rfl
   | cons k l=>have:=(h.kid i hi k (by rw [hk];simp)).2;omega
  cases e with
  | zero=>rfl
  | succ e=>simp [Ai,hk,eU]
 | succ d ih =>
  intro e i hi hd he;have hsame:∀e',rk i<=e'+1->eU (Ai F d) (F.kids i)=eU (Ai F e') (F.kids i):=fun e' he'=>Gy fun k hk=>by have:=h.kid i hi k hk;exact ih this.1 (by omega) (by omega)
  cases e with
  | zero =>
   have hk:F.kids i=[]:=by
    cases hk:F.kids i with
    | nil=>rfl
    | cons k l=>have:=(h.kid i hi k (by rw [hk];simp)).2;omega
   simp [Ai,hk,eU]
  | succ e =>
   simp only [Ai];rw [hsame e (by omega)];cases hc:eU (Ai F e) (F.kids i) with
   | nil=>rfl
   | cons k l =>
    have hk:k∈F.kids i:=(ic _ _).mem_iff.1 (by rw [hc];simp);have:=h.kid i hi k hk;exact ih this.1 (by omega) (by omega)
def j9 (F:bW) (rk:Nat->Nat) (i:Nat):ByteArray:=Ai F (rk i) i
theorem yP {F:bW} {n:Nat} {rk:Nat->Nat} (h:Wf F n rk) {i:Nat} (hi:i<n):j9 F rk i=match eU (j9 F rk) (F.kids i) with | []=>F.nm i | k::_=>j9 F rk k:=by
 have h1:j9 F rk i=Ai F (rk i+1) i:=Hx h hi (ah _) (oh _);rw [h1];simp only [Ai];have hs:eU (Ai F (rk i)) (F.kids i)=eU (j9 F rk) (F.kids i):=Gy fun k hk=>by have:=h.kid i hi k hk;exact Hx h this.1 (by omega) (ah _)
 rw [hs];cases hc:eU (j9 F rk) (F.kids i) with
 | nil=>rfl
 | cons k l =>
  have hk:k∈F.kids i:=(ic _ _).mem_iff.1 (by rw [hc];simp);have:=h.kid i hi k hk;exact Hx h this.1 (by omega) (ah _)
def wU (F:bW):Nat->Nat->Nat->Bool
 | 0,i,j=>j==i
 | d+1,i,j=>(j==i) || (F.kids i).any fun k=>wU F d k j
def dz (F:bW) (rk:Nat->Nat) (i j:Nat):Bool:=wU F (rk i) i j
theorem EK {F:bW} {n:Nat} {rk:Nat->Nat} (h:Wf F n rk):∀ {d e i j:Nat},i<n->rk i<=d->rk i<=e->wU F d i j=wU F e i j:=by
 intro d
 induction d with
 | zero =>
  intro e i j hi hd he;have hk:F.kids i=[]:=by
   cases hk:F.kids i with
   | nil=>rfl
   | cons k l=>have:=(h.kid i hi k (by rw [hk];simp)).2;omega
  cases e with
  | zero=>rfl
  | succ e=>simp [wU,hk]
 | succ d ih =>
  intro e i j hi hd he;cases e with
  | zero =>
   have hk:F.kids i=[]:=by
    cases hk:F.kids i with
    | nil=>rfl
    | cons k l=>have:=(h.kid i hi k (by rw [hk];simp)).2;omega
   simp [wU,hk]
  | succ e =>
   simp only [wU];congr 1;rw [mW,dx,dx];constructor
   ·rintro ⟨k,hk,h1⟩
    have:=h.kid i hi k hk;exact ⟨k,hk,by rw [<- ih (e:=e) this.1 (by omega) (by omega)];exact h1⟩
   ·rintro ⟨k,hk,h1⟩
    have:=h.kid i hi k hk;exact ⟨k,hk,by rw [ih (e:=e) this.1 (by omega) (by omega)];exact h1⟩
theorem l5 {F:bW} {n:Nat} {rk:Nat->Nat} (h:Wf F n rk) {i:Nat} (hi:i<n) (j:Nat):dz F rk i j=((j==i) || (F.kids i).any fun k=>dz F rk k j):=by
 have h1:dz F rk i j=wU F (rk i+1) i j:=EK h hi (ah _) (oh _);rw [h1];simp only [wU];congr 1;rw [mW,dx,dx];constructor
 ·rintro ⟨k,hk,h1⟩
  have:=h.kid i hi k hk;exact ⟨k,hk,by unfold dz;rw [<- EK h this.1 (d:=rk i) (by omega) (ah _)];exact h1⟩
 ·rintro ⟨k,hk,h1⟩
  have:=h.kid i hi k hk;exact ⟨k,hk,by rw [EK h this.1 (e:=rk k) (by omega) (ah _)];exact h1⟩
def bW.mQ (F:bW) (rk:Nat->Nat) (p:Nat->Bool):bW:={ F with kids:=fun i=>if p i then eU (j9 F rk) (F.kids i) else F.kids i }
theorem bW.mB (F:bW) (rk:Nat->Nat) (p:Nat->Bool) (i:Nat):((F.mQ rk p).kids i).Perm (F.kids i):=by
 show (if p i then _ else _:List Nat).Perm _;split
 ·exact ic _ _
 ·exact mM _
end
section
open Go.RowKit Go.Deep
def Plain (w:World) (b:Nat):Prop:=∃c t,w.heap[b]? = some (.cells c t (0,0))/\0<c.size
section
variable {P:Program} {w:World}
theorem Pd {a b:Nat} (ha:Plain w a) (hb:Plain w b):(sameAddr ⟨a,0,none⟩ ⟨b,0,none⟩).run P w=.ok (decide (a=b)) w:=by
 obtain ⟨ca,ta,ha,hca⟩:=ha;obtain ⟨cb,tb,hb,hcb⟩:=hb;by_cases h:a=b
 ·subst h;simp [sameAddr]
 ·have h1:(a==b)=false:=by simp [h]
  simp [sameAddr,h1,h,World.frozen?,ha,hb,noView,viewAt,mayBeOne,stringish,World.shape?,getObj,Sem.run,shape,frozen]
def pk:Option Nat->Value
 | none=>.pointer none
 | some b=>.pointer (some ⟨b,0,none⟩)
def kA (w:World):Option Nat->Prop
 | none=>True
 | some b=>Plain w b
theorem aaL {t e:TypeId} (ht:P.underlying t=some (.pointer e)) (he:∀w,(sizeOf e).run P w=.ok 3 w) {x y:Option Nat} (hx:kA w x) (hy:kA w y) (d:Nat):(Op.equalIn (d+1) t (pk x) (pk y)).run P w=.ok (decide (x=y)) w:=by
 have hu:=run_underlying (w:=w) ht;unfold Op.equalIn;cases x with
 | none=>cases y<;>simp [hu,pk]
 | some a =>
  cases y with
  | none=>simp [hu,pk]
  | some b =>
   have h:=Pd (P:=P) hx hy;simp [hu,pk,he,h]
theorem TB {t e:TypeId} (ht:P.underlying t=some (.pointer e)) (he:∀w,(sizeOf e).run P w=.ok 3 w) {x y:Option Nat} (hx:kA w x) (hy:kA w y):(Op.equal t (pk x) (pk y)).run P w=.ok (decide (x=y)) w :=
 aaL ht he hx hy 9999
theorem VG {t e:TypeId} (ht:P.underlying t=some (.pointer e)) (he:∀w,(sizeOf e).run P w=.ok 3 w) {k:Option Nat} (hk:kA w k):∀(es:List MapEntry) (l:List (Option Nat×Value)) (i:Nat),
  es.map (fun x=>(x.key,x.val))=l.map (fun x=>(pk x.1,x.2))->(∀x∈l,kA w x.1) ->
   (l.lookup k=none/\(Instr.findAsking t (pk k) es i).run P w=.ok none w)\/∃j v,l.lookup k=some v/\(Instr.findAsking t (pk k) es i).run P w=.ok (some (j,v)) w:=by
 intro es
 induction es with
 | nil =>
  intro l i hl _;cases l with
  | nil=>exact .inl ⟨rfl,by simp [Instr.findAsking]⟩
  | cons=>cases hl
 | cons x es ih =>
  intro l i hl hok;cases l with
  | nil=>cases hl
  | cons y l =>
   simp only [dV,List.cons.injEq,kX] at hl;obtain ⟨⟨h1,h2⟩,h3⟩:=hl;have heq:=TB (w:=w) ht he hk (hok y (by simp));rw [<- h1] at heq;by_cases h:k=y.1
   ·subst h
    refine .inr ⟨i,y.2,?_,?_⟩
    ·obtain ⟨y1,y2⟩:=y;simp
    ·simp [Instr.findAsking,heq,h2]
   ·have hb:(k==y.1)=false:=by simpa using h
    rcases ih l (i+1) h3 (fun z hz=>hok z (by simp [hz])) with ⟨h4,h5⟩ | ⟨j,v,h4,h5⟩
    ·refine .inl ⟨?_,by simp [Instr.findAsking,heq,h,h5]⟩
     obtain ⟨y1,y2⟩:=y;rw [gm,hb];exact h4
    ·refine .inr ⟨j,v,?_,by simp [Instr.findAsking,heq,h,h5]⟩
     obtain ⟨y1,y2⟩:=y;rw [gm,hb];exact h4
def ou (w:World) (b:Nat) (l:List (Option Nat×Value)):Prop:=∃es clock,w.heap[b]? = some (.map es clock)/\es.toList.map (fun x=>(x.key,x.val))=l.map (fun x=>(pk x.1,x.2))
theorem run_findKey {t e:TypeId} (ht:P.underlying t=some (.pointer e)) (he:∀w,(sizeOf e).run P w=.ok 3 w) {k:Option Nat} (hk:kA w k) (es:List MapEntry) (l:List (Option Nat×Value))
  (hl:es.map (fun x=>(x.key,x.val))=l.map (fun x=>(pk x.1,x.2))) (hok:∀x∈l,kA w x.1) :
   (l.lookup k=none/\(Instr.findKey t (pk k) es).run P w=.ok none w)\/∃j v,l.lookup k=some v/\(Instr.findKey t (pk k) es).run P w=.ok (some (j,v)) w:=by
 have hu:=run_underlying (w:=w) ht;have h:=VG ht he hk es l 0 hl hok;cases es with
 | nil =>
  cases l with
  | nil=>exact .inl ⟨rfl,by simp [Instr.findKey,hu,Instr.findNow]⟩
  | cons=>cases hl
 | cons x es =>
  have hn:Instr.findNow (.pointer e) (pk k) (x::es) 0=none:=by simp [Instr.findNow,Instr.sameNow]
  rcases h with ⟨h1,h2⟩ | ⟨j,v,h1,h2⟩
  ·exact .inl ⟨h1,by simp [Instr.findKey,hu,hn,h2]⟩
  ·exact .inr ⟨j,v,h1,by simp [Instr.findKey,hu,hn,h2]⟩
theorem run_checkKey {t e:TypeId} (ht:P.underlying t=some (.pointer e)) (em:Bool) (k:Option Nat):(Instr.checkKey em 10000 t (pk k)).run P w=.ok () w:=by
 have hu:=run_underlying (w:=w) ht;show (Instr.checkKey em (9999+1) t (pk k)).run P w=_;unfold Instr.checkKey;cases k<;>simp [hu,pk]
theorem C7 {mt t e el:TypeId} (hm:P.underlying mt=some (.map t el)) (ht:P.underlying t=some (.pointer e)) (he:∀w,(sizeOf e).run P w=.ok 3 w) {b:Nat} {l:List (Option Nat×Value)} (h:ou w b l) {k:Option Nat} {v:Value}
  (hk:kA w k) (hok:∀x∈l,kA w x.1) (hv:l.lookup k=some v):(Instr.lookup mt (.map (some b)) (pk k) false).run P w=.ok v w:=by
 obtain ⟨es,clock,hb,hl⟩:=h;have hu:=run_underlying (w:=w) hm;have hg:=BX (P:=P) hb;rcases run_findKey ht he hk es.toList l hl hok with ⟨h1,h2⟩ | ⟨j,v',h1,h2⟩
 ·rw [h1] at hv;cases hv
 ·rw [h1] at hv;injection hv with hv;subst hv
  simp [Instr.lookup,hu,hg,run_checkKey ht,h2]
theorem Pe {mt t e el:TypeId} (hm:P.underlying mt=some (.map t el)) (ht:P.underlying t=some (.pointer e)) (he:∀w,(sizeOf e).run P w=.ok 3 w) {b:Nat} {l:List (Option Nat×Value)} (h:ou w b l) {k:Option Nat} (v:Value)
  (hk:kA w k) (hok:∀x∈l,kA w x.1) (hv:l.lookup k=none) :
  ∃w',(Instr.mapUpdate mt (.map (some b)) (pk k) v).run P w=.ok () w'/\ou w' b (l++[(k,v)])/\w'.heap.size=w.heap.size/\w'.os=w.os/\w'.tape=w.tape/\w'.output=w.output/\∀j,j≠b->w'.heap[j]? = w.heap[j]?:=by
 obtain ⟨es,clock,hb,hl⟩:=h;have hu:=run_underlying (w:=w) hm;have hg:=BX (P:=P) hb;rcases run_findKey ht he hk es.toList l hl hok with ⟨h1,h2⟩ | ⟨j,v',h1,h2⟩
 ·have hs:=MapKept.run_setObj_map (P:=P) (.map (es.push { key:=pk k,val:=v,born:=clock }) (clock+1)) hb
  refine ⟨{ w with heap:=w.heap.setIfInBounds b (.map (es.push { key:=pk k,val:=v,born:=clock }) (clock+1)) },by simp [Instr.mapUpdate,hu,hg,run_checkKey ht,h2,hs],⟨es.push { key:=pk k,val:=v,born:=clock },clock+1,?_,by simp [hl]⟩,by simp,rfl,rfl,rfl,fun j hj=>?_⟩
  ·have:=(fq.1 hb).1
   simp [this]
  ·simp [Ne.symm hj]
 ·rw [h1] at hv;cases hv
end
theorem Tryz.yQ:∀w,(Go.sizeOf 122).run Tryz.prog w=.ok 3 w:=Tryz.sizeOf122
structure qz (n:Nat) (A:Nat->Nat) (kv:Nat->Value) (w w':World):Prop where
 os:w'.os=w.os
 tape:w'.tape=w.tape
 output:w'.output=w.output
 size:w.heap.size<=w'.heap.size
 block:∀b,b<w.heap.size->(∀i,i<n->b≠A i)->(∀i,i<n->(kv i).ownBlock≠some b)->w'.heap[b]? = w.heap[b]?
section
variable {n base:Nat} {A:Nat->Nat} {kv:Nat->Value} {F:bW} {a b c:World}
theorem qz.refl (n:Nat) (A:Nat->Nat) (kv:Nat->Value) (w:World):qz n A kv w w:=⟨rfl,rfl,rfl,ah _,fun _ _ _ _=>rfl⟩
theorem qz.trans (h:qz n A kv a b) (k:qz n A kv b c):qz n A kv a c :=
 ⟨k.os.trans h.os,k.tape.trans h.tape,k.output.trans h.output,aB h.size k.size,fun j hj h1 h2=>(k.block j (iI hj h.size) h1 h2).trans (h.block j hj h1 h2)⟩
theorem qz.F7 (h:Up a b):qz n A kv a b:=⟨h.os,h.tape,h.output,h.size,fun j hj _ _=>bH h j hj⟩
theorem qz.below (h:qz n A kv a b) (hF:cE base n A kv F a) (hb:base<=a.heap.size):Below base a b :=
 ⟨h.os,h.tape,h.output,h.size,fun j hj=>h.block j (by omega) (fun i hi e=>by have:=hF.lo i hi;omega) (fun i hi e=>by have:=(hF.lF hi e).1;omega)⟩
end
theorem XJ (w:World) (bx m0 x y:Nat) (l:List (Option Nat×Value)) (sx sy:ByteArray) (gX:w.cell? ⟨bx,0,none⟩=some (.map (some m0))) (hm:ou w m0 l) (hok:∀z∈l,kA w z.1) (hx:Plain w x) (hy:Plain w y)
  (h1:l.lookup (some x)=some (.string sx)) (h2:l.lookup (some y)=some (.string sy)) :
  Calls Tryz.prog 241 #[.pointer (some ⟨x,0,none⟩),.pointer (some ⟨y,0,none⟩),.pointer (some ⟨bx,0,none⟩)] w fun e w'=>e=.returned (.int .i64 (eB sx sy))/\w=w':=by
 have g1:=C7 (P:=Tryz.prog) Tryz.underlying245 Tryz.underlying119 Tryz.yQ hm (k:=some x) hx hok h1;have g2:=C7 (P:=Tryz.prog) Tryz.underlying245 Tryz.underlying119 Tryz.yQ hm (k:=some y) hy hok h2;simp only [pk] at g1 g2;clear hm hok hx hy h1 h2;go_in;go_wp2_with (go_at_call 242;refine (Tryz.strings_Compare sx sy _).mono ?_;rintro e w' ⟨rfl,rfl⟩);go_ret;exact ⟨rfl,rfl⟩
end
end Go.Proofs.YthgabkgmkolobaaGreat
namespace Go.Proofs
open Go.Shelf
def Tryz.sortNode_ren:Go.Shelf.Ren:=⟨fun | 6=>240 | 15=>127 | 14=>271 | 28=>181 | 29=>182 | 20=>281 | 21=>282 | 22=>283 | 23=>284 | 24=>285 | 25=>286 | 26=>287 | 27=>288 | 46=>291 | 47=>235 | 48=>236 | 49=>292 | 50=>293 | 57=>294 | n=>n,fun | 22=>120 | 24=>119 | 25=>247 | 3=>3 | 39=>154 | 0=>0 | 53=>191 | 55=>193 | 4=>4 | 46=>183 | 45=>182 | 50=>188 | 5=>5 | 9=>9 | 66=>238 | 70=>242 | 76=>267 | 77=>177 | n=>n,fun | n=>n⟩
theorem Tryz.sortNode:Go.Proofs.SlLaysF.n6 Tryz.prog Tryz.sortNode_ren:={
 mixed:=by kernel_rfl
 f6:=⟨Tryz.f240.name,by decide,Tryz.func240.trans (congrArg some (by kernel_rfl))⟩
 f14:=⟨Tryz.f271.name,by decide,Tryz.func271.trans (congrArg some (by kernel_rfl))⟩
 f15:=Tryz.func127.trans (congrArg some (by kernel_rfl))
 f20:=⟨Tryz.f281.name,by decide,Tryz.func281.trans (congrArg some (by kernel_rfl))⟩
 f21:=⟨Tryz.f282.name,by decide,Tryz.func282.trans (congrArg some (by kernel_rfl))⟩
 f22:=⟨Tryz.f283.name,by decide,Tryz.func283.trans (congrArg some (by kernel_rfl))⟩
 f23:=⟨Tryz.f284.name,by decide,Tryz.func284.trans (congrArg some (by kernel_rfl))⟩
 f24:=⟨Tryz.f285.name,by decide,Tryz.func285.trans (congrArg some (by kernel_rfl))⟩
 f25:=⟨Tryz.f286.name,by decide,Tryz.func286.trans (congrArg some (by kernel_rfl))⟩
 f26:=⟨Tryz.f287.name,by decide,Tryz.func287.trans (congrArg some (by kernel_rfl))⟩
 f27:=⟨Tryz.f288.name,by decide,Tryz.func288.trans (congrArg some (by kernel_rfl))⟩
 f28:=Tryz.func181.trans (congrArg some (by kernel_rfl))
 f29:=Tryz.func182.trans (congrArg some (by kernel_rfl))
 f46:=⟨Tryz.f291.name,by decide,Tryz.func291.trans (congrArg some (by kernel_rfl))⟩
 f47:=Tryz.func235.trans (congrArg some (by kernel_rfl))
 f48:=Tryz.func236.trans (congrArg some (by kernel_rfl))
 f49:=⟨Tryz.f292.name,by decide,Tryz.func292.trans (congrArg some (by kernel_rfl))⟩
 f50:=⟨Tryz.f293.name,by decide,Tryz.func293.trans (congrArg some (by kernel_rfl))⟩
 f57:=⟨Tryz.f294.name,by decide,Tryz.func294.trans (congrArg some (by kernel_rfl))⟩
 t0:=Tryz.underlying0
 a0:=Tryz.isAgg0
 z0:=Tryz.sizeOf0
 v0:=Tryz.zeroValue0
 t3:=Tryz.underlying3
 a3:=Tryz.isAgg3
 z3:=Tryz.sizeOf3
 v3:=Tryz.zeroValue3
 t4:=Tryz.underlying4
 a4:=Tryz.isAgg4
 z4:=Tryz.sizeOf4
 v4:=Tryz.zeroValue4
 t5:=Tryz.underlying5
 a5:=Tryz.isAgg5
 z5:=Tryz.sizeOf5
 v5:=Tryz.zeroValue5
 t9:=Tryz.underlying9
 a9:=Tryz.isAgg9
 z9:=Tryz.sizeOf9
 v9:=Tryz.zeroValue9
 t22:=Tryz.underlying120
 a22:=Tryz.isAgg120
 z22:=Tryz.sizeOf120
 v22:=Tryz.zeroValue120
 a24:=Tryz.isAgg119
 z24:=Tryz.sizeOf119
 t25:=Tryz.underlying247
 a25:=Tryz.isAgg247
 z25:=Tryz.sizeOf247
 v25:=Tryz.zeroValue247
 t39:=Tryz.underlying154
 a39:=Tryz.isAgg154
 z39:=Tryz.sizeOf154
 v39:=Tryz.zeroValue154
 t45:=Tryz.underlying182
 a45:=Tryz.isAgg182
 z45:=Tryz.sizeOf182
 v45:=Tryz.zeroValue182
 t46:=Tryz.underlying183
 a46:=Tryz.isAgg183
 z46:=Tryz.sizeOf183
 v46:=Tryz.zeroValue183
 t50:=Tryz.underlying188
 a50:=Tryz.isAgg188
 z50:=Tryz.sizeOf188
 v50:=Tryz.zeroValue188
 t53:=Tryz.underlying191
 a53:=Tryz.isAgg191
 z53:=Tryz.sizeOf191
 v53:=Tryz.zeroValue191
 t55:=Tryz.underlying193
 a55:=Tryz.isAgg193
 z55:=Tryz.sizeOf193
 v55:=Tryz.zeroValue193
 t66:=Tryz.underlying238
 a66:=Tryz.isAgg238
 z66:=Tryz.sizeOf238
 v66:=Tryz.zeroValue238
 t70:=Tryz.underlying242
 a70:=Tryz.isAgg242
 z70:=Tryz.sizeOf242
 v70:=Tryz.zeroValue242
 t76:=Tryz.underlying267
 a76:=Tryz.isAgg267
 z76:=Tryz.sizeOf267
 v76:=Tryz.zeroValue267
 t77:=Tryz.underlying177
 a77:=Tryz.isAgg177
 z77:=Tryz.sizeOf177
 v77:=Tryz.zeroValue177 }
end Go.Proofs
namespace Go.Proofs.YthgabkgmkolobaaGreat
open Go.RowKit Go.Deep Go.Sort Go.Shelf Go.Lib
section
variable {α:Type} [Inhabited α] {enc:α->Value}
theorem aaM (cur:Array Value) (ts:List α) (h:ts.length<=cur.size):(putCells enc 0 ts.toArray cur).toList.take ts.length=ts.map enc:=by
 apply xL;intro j;by_cases hj:j<ts.length
 ·rw [List.getElem?_take_of_lt hj,o7]
  simp [putCells,hj,show j<cur.size by omega]
 ·rw [List.getElem?_take_eq_none (by omega),xM (by simp;omega)]
theorem B8 (w:World) (g n:Nat) (d:Array α) (os:Array Obj):w.heap.size<=(sortWorld enc w g 0 n d os).heap.size:=by
 simp [sortWorld,grow,putRow,mapBlock,Sort.ahead]
theorem gI {w:World} {g n:Nat} {d:Array α} {os:Array Obj} {b:Nat} (h:b≠g) (hl:b<w.heap.size):(sortWorld enc w g 0 n d os).heap[b]? = w.heap[b]?:=by
 unfold sortWorld;rw [heap_grow_old _ _ (by simpa [putRow,mapBlock,Sort.ahead] using hl)];simp [putRow,mapBlock,Sort.ahead,Array.getElem?_modify,Ne.symm h]
theorem Oh {w:World} {g n:Nat} {d:Array α} {os:Array Obj} {cur:Array Value} {e:TypeId} {fr:Nat×Nat} (hb:w.heap[g]? = some (.cells cur e fr)) :
  (sortWorld enc w g 0 n d os).heap[g]? = some (.cells (putCells enc 0 d cur) e fr):=by
 have hg:g<w.heap.size:=(fq.1 hb).1;unfold sortWorld;rw [heap_grow_old _ _ (by simpa [putRow,mapBlock,Sort.ahead] using hg)];simp [putRow,mapBlock,Sort.ahead,Array.getElem?_modify,hb,onCells]
end
theorem au.sorted {α:Type} [Inhabited α] {enc:α->Value} {base g cap n:Nat} {e:TypeId} {w:World} {os:Array Obj} {vs:List Value} {ts:List α} (h:au base e w (.slice (some ⟨g,0,none⟩) vs.length cap) vs) (hl:ts.length=vs.length) :
  au base e (sortWorld enc w g 0 n ts.toArray os) (.slice (some ⟨g,0,none⟩) vs.length cap) (ts.map enc):=by
 obtain ⟨_,⟨h1,_⟩ | ⟨g',cap',cur,hs,hg,hc,hn,hcm,hcs,ht⟩⟩:=h
 ·cases h1
 ·injection hs with hs1 hs2 hs3
  injection hs1 with hs1;injection hs1 with hs1;subst hs1;subst hs3;refine ⟨by simp,.inr ⟨g,cap,putCells enc 0 ts.toArray cur,by simp [hl],hg,Oh hc,by simp [hl];exact hn,hcm,by simpa [putCells] using hcs,?_⟩⟩;rw [aD,Nat.mul_one];exact aaM cur ts (by omega)
theorem aaN (f:Nat->ByteArray) {L:List Nat}:SWO (ltOf fun (x y:{k // k∈L})=>eB (f x.1) (f y.1)) where
 irrefl x:=by simp [ltOf,Mi]
 trans x y z h1 h2:=by
  simp only [ltOf,decide_eq_true_eq] at *
  exact xQ h1 h2
 ntrans x y z h1 h2:=by
  simp only [ltOf,decide_eq_false_iff_not] at *
  intro h3
  by_cases e:eB (f x.1) (f y.1)=0
  ·rw [lU e] at h3;exact h2 h3
  ·have h4:eB (f y.1) (f x.1)<0:=by have:=lT (f x.1) (f y.1);omega
   exact h2 (xQ h4 h3)
def afX (n base:Nat) (A:Nat->Nat) (kv:Nat->Value) (F:bW) (w:World) (i:Nat) (l:List Nat) (e:Ending) (w':World):Prop :=
 e=.returned (.tuple #[])/\cE base n A kv { F with kids:=upd F.kids i l } w'/\qz n A kv w w'
theorem cE.plain {base n:Nat} {A:Nat->Nat} {kv:Nat->Value} {F:bW} {w:World} (h:cE base n A kv F w) {i:Nat} (hi:i<n):Plain w (A i):=⟨_,_,h.node i hi,by simp⟩
theorem Plain.of_block {w w':World} {b:Nat} (h:Plain w b) (e:w'.heap[b]? = w.heap[b]?):Plain w' b:=by
 obtain ⟨c,t,h1,h2⟩:=h;exact ⟨c,t,by rw [e];exact h1,h2⟩
theorem ou.of_block {w w':World} {b:Nat} {l:List (Option Nat×Value)} (h:ou w b l) (e:w'.heap[b]? = w.heap[b]?):ou w' b l:=by
 obtain ⟨es,c,h1,h2⟩:=h;exact ⟨es,c,by rw [e];exact h1,h2⟩
theorem ou.lt {w:World} {b:Nat} {l:List (Option Nat×Value)} (h:ou w b l):b<w.heap.size:=by
 obtain ⟨es,c,h1,h2⟩:=h;exact (fq.1 h1).1
theorem S1 {base n:Nat} {A:Nat->Nat} {kv:Nat->Value} {F:bW} {w:World} (hF:cE base n A kv F w) {i g cap:Nat} (hi:i<n) (hv:kv i=.slice (some ⟨g,0,none⟩) (F.kids i).length cap) (h0:F.kids i≠[]) (hlen:(F.kids i).length<=1000000)
  (f:Nat->ByteArray) (hs:Sep f (F.kids i)) {bx m0:Nat} {l:List (Option Nat×Value)} (gX:w.cell? ⟨bx,0,none⟩=some (.map (some m0))) (hm:ou w m0 l) (hgb:g≠bx) (hgm:g≠m0)
  (hl:∀k∈F.kids i,l.lookup (some (A k))=some (.string (f k))) (hok:∀z∈l,∃k,k<n/\z.1=some (A k)) :
  Calls Tryz.prog 240 #[kv i,.func (.func 241) #[] #[.pointer (some ⟨bx,0,none⟩)]] w (afX n base A kv F w i (eU f (F.kids i))):=by
 obtain ⟨k0,nj⟩:∃k,k∈F.kids i:=CP _ h0;letI:Inhabited {k // k∈F.kids i}:=⟨⟨k0,nj⟩⟩;have hown:=hF.own i hi;rw [hv] at hown;have hgo:(kv i).ownBlock=some g:=by rw [hv];rfl
 have Ae:=(hF.lF hi hgo).2;have XK:∀j,j<n->A j≠g:=fun j hj e=>hF.apart i j hi hj (by rw [hgo,e]);have eg:∀args w,(callFunc 241 args).run Tryz.prog w=.ok (.enter 241 args) w:=enters_of Tryz.func241 (by kernel_rfl) rfl;have hsize:((F.kids i).attach.toArray).size=(F.kids i).length:=by simp
 have og:((F.kids i).map (dh A)).length=(F.kids i).length:=by simp
 have hH:Holds (fun (x:{k // k∈F.kids i})=>dh A x.1) w g 0 (F.kids i).attach.toArray:=by
  intro j hj;rw [hsize] at hj;obtain ⟨p,c,e,_,H⟩:=hown.uf.open;injection e with e1;subst e1;obtain ⟨b,off,e,hc⟩:=H j (by rw [og];exact hj);injection e with e;injection e with e1 e2;subst e1;subst e2;refine ⟨?_,?_⟩
  ·rw [hc,getElem!_pos _ _ (by simpa using hj)];simp [hj]
  ·obtain ⟨_,⟨h1,_⟩ | ⟨g',cap',cur,hs',_,hc',_⟩⟩:=hown
   ·cases h1
   ·injection hs' with hs1
    injection hs1 with hs1;injection hs1 with hs1;subst hs1;simp [World.frozen?,hc']
 have hcmp:CmpLays1 Tryz.prog 241 #[.pointer (some ⟨bx,0,none⟩)] (fun (x:{k // k∈F.kids i})=>dh A x.1) (fun x y=>eB (f x.1) (f y.1)) g 0 (F.kids i).attach.toArray.size w:=by
  intro m os dk hdk x y;have hx:=hF.kid i hi x.1 x.2;have hy:=hF.kid i hi y.1 y.2;have hbl:bx<w.heap.size:=dL w _ gX;have h1:(sortWorld (fun (x:{k // k∈F.kids i})=>dh A x.1) w g 0 m dk os).cell? ⟨bx,0,none⟩=some (.map (some m0)):=by rw [cU (a:=⟨bx,0,none⟩) (gI (iJ hgb) hbl)];exact gX
  refine (XJ _ bx m0 (A x.1) (A y.1) l (f x.1) (f y.1) h1 (hm.of_block (gI (iJ hgm) hm.lt)) (fun z hz=>?_)
   ((hF.plain hx).of_block (gI (XK _ hx) (hF.lt hx))) ((hF.plain hy).of_block (gI (XK _ hy) (hF.lt hy))) (hl x.1 x.2) (hl y.1 y.2)).mono fun e w' ⟨he,hw⟩=>⟨he,0,#[],by rw [<- hw,grow_empty];rfl⟩
  obtain ⟨k,hk,e⟩:=hok z hz;rw [e];exact (hF.plain hk).of_block (gI (XK _ hk) (hF.lt hk))
 have hcon:=Any.slices_SortFunc_total Tryz.sortNode (fun (x:{k // k∈F.kids i})=>dh A x.1) (fun _=>rfl) (fun x y=>eB (f x.1) (f y.1)) (aaN f) 241 #[.pointer (some ⟨bx,0,none⟩)] g 0 cap (F.kids i).attach.toArray w eg hcmp hH Ae (by rw [hsize];omega)
  (fun x y h1 h2=>by
   simp only [ltOf,decide_eq_false_iff_not] at h1 h2;have h3:eB (f x.1) (f y.1)=0:=by have:=lT (f x.1) (f y.1);omega
   exact Subtype.ext (hs x.1 x.2 y.1 y.2 (lU h3)))
 rw [hsize,<- hv] at hcon;refine hcon.mono fun e w' ⟨he,m,os,hw⟩=>⟨he,?_,?_⟩
 ·have ai5:(((F.kids i).attach.toArray.toList.mergeSort fun x y=>!(ltOf fun (x y:{k // k∈F.kids i})=>eB (f x.1) (f y.1)) y x).map fun x=>x.1)=eU f (F.kids i):=by
   have h:=List.map_mergeSort (f:=fun (x:{k // k∈F.kids i})=>x.1) (r:=fun x y=>!(ltOf fun (x y:{k // k∈F.kids i})=>eB (f x.1) (f y.1)) y x) (s:=tL f) (l:=(F.kids i).attach) (fun a _ b _=>by
    simp only [ltOf,tL]
    have:=lT (f a.1) (f b.1)
    by_cases h:eB (f a.1) (f b.1)<=0
    ·rw [decide_eq_true h];simp;omega
    ·rw [decide_eq_false h];simp;omega)
   rw [List.toList_toArray]
   rw [h,List.attach_map_subtype_val]
   rfl
  have ho:au base 119 w' (kv i) ((eU f (F.kids i)).map (dh A)):=by
   rw [hv,hw,<- ai5,jA]
   have h:=au.sorted (enc:=fun (x:{k // k∈F.kids i})=>dh A x.1) (n:=m) (os:=os) (ts:=((F.kids i).attach.toArray.toList.mergeSort fun x y=>!(ltOf fun (x y:{k // k∈F.kids i})=>eB (f x.1) (f y.1)) y x)) (vs:=(F.kids i).map (dh A)) (by rw [og];exact hown) (by simp)
   rw [og] at h
   exact h
  have hsame:∀b,b≠g->b<w.heap.size->w'.heap[b]? = w.heap[b]?:=fun b hb hbl=>by rw [hw];exact gI hb hbl
  have h2:=hF.put (w':=w') (k:=i) (v:=kv i) (ks:=eU f (F.kids i)) hi (fun j hj _=>hsame _ (XK j hj) (hF.lt hj)) (by rw [hsame _ (XK i hi) (hF.lt hi)];exact hF.node i hi) ho
   (fun j b hj hji hb=>hsame b (fun e=>hji (hF.alone j i b hj hi hb (by rw [hgo,e]))) (hF.lF hj hb).2) (fun b hb=>.inl hb) (fun j hj=>hF.kid i hi j ((ic _ _).mem_iff.1 hj))
  have hkv:upd kv i (kv i)=kv:=by
   funext j;by_cases e:j=i
   ·subst e;exact upd_same _ _ _
   ·exact upd_ne _ _ e
  rw [hkv] at h2
  exact h2
 ·rw [hw]
  exact ⟨rfl,rfl,rfl,B8 _ _ _ _ _,fun b hb _ h2=>gI (fun e=>h2 i hi (by rw [hgo,e])) hb⟩
end Go.Proofs.YthgabkgmkolobaaGreat
