/- The plain law of the order of children: names compared, the least name below a node, .. -/
import Derived.Lib.Bytealg
import Derived.Sort.Statements
import Derived.Shelf.SlGeneric
import Derived.Shelf.SlSortCmp.NoneTotal
import Derived.Sort.OwnSorted
import Derived.Test.YthgabkgmkolobaaGreatQ7
set_option maxRecDepth 100000
set_option maxHeartbeats 800000
namespace Go.Proofs.YthgabkgmkolobaaGreat
section
open Go.Sort
theorem nG:∀a b:List UInt8,Lib.compareBytes b a = - Lib.compareBytes a b
 | [],[]=>rfl
 | [],_::_=>rfl
 | _::_,[]=>rfl
 | a::u,b::v=>by
  unfold Lib.compareBytes
  by_cases h1:a<b
  ·have h2:¬b<a:=by rw [sk] at *;omega
   simp [h1,h2]
  ·by_cases h2:b<a
   ·simp [h1,h2]
   ·simp only [h1,h2,if_false];exact nG u v
theorem pI:∀ {a b:List UInt8},Lib.compareBytes a b=0->a=b
 | [],[],_=>rfl
 | [],_::_,h=>by cases h
 | _::_,[],h=>by cases h
 | a::u,b::v,h=>by
  unfold Lib.compareBytes at h
  split at h
  ·cases h
  ·split at h
   ·cases h
   ·rename_i h1 h2
    have e:a=b:=by
     apply UInt8.toNat.inj
     rw [sk] at h1 h2;omega
    rw [e,pI h]
theorem wP (a:List UInt8):Lib.compareBytes a a=0:=by have:=nG a a;omega
theorem ue:∀ {a b c:List UInt8},Lib.compareBytes a b<0->Lib.compareBytes b c<0->Lib.compareBytes a c<0
 | [],[],_,h,_=>by cases h
 | [],_::_,[],_,h=>by cases h
 | [],_::_,_::_,_,_=>Int.negSucc_lt_zero 0
 | _::_,[],_,h,_=>by cases h
 | _::_,_::_,[],_,h=>by cases h
 | a::u,b::v,c::x,h,h'=>by
  unfold Lib.compareBytes at *
  by_cases h1:a<b
  ·by_cases h2:b<c
   ·have h3:a<c:=by rw [sk] at *;omega
    rw [if_pos h3];decide
   ·rw [if_neg h2] at h'
    by_cases h3:c<b
    ·rw [if_pos h3] at h';cases h'
    ·have h4:a<c:=by rw [sk] at *;omega
     rw [if_pos h4];decide
  ·rw [if_neg h1] at h
   by_cases h2:b<a
   ·rw [if_pos h2] at h;cases h
   ·rw [if_neg h2] at h
    have e:a=b:=by
     apply UInt8.toNat.inj
     rw [sk] at h1 h2;omega
    subst e
    by_cases h3:a<c
    ·rw [if_pos h3];decide
    ·rw [if_neg h3] at h' ⊢
     by_cases h4:c<a
     ·rw [if_pos h4] at h';cases h'
     ·rw [if_neg h4] at h' ⊢;exact ue h h'
def cG (a b:ByteArray):Int:=Lib.compareBytes a.data.toList b.data.toList
theorem iG (a b:ByteArray):cG b a = - cG a b:=nG _ _
theorem iH {a b:ByteArray} (h:cG a b=0):a=b:=fH (pI h)
theorem rL {a b c:ByteArray} (h:cG a b<0) (h':cG b c<0):cG a c<0:=ue h h'
theorem D1 (a:ByteArray):cG a a=0:=wP _
def nP (f:Nat->ByteArray) (x y:Nat):Bool:=decide (cG (f x) (f y)<=0)
def cW (f:Nat->ByteArray) (l:List Nat):List Nat:=l.mergeSort (nP f)
theorem D2 (f:Nat->ByteArray) (a b c:Nat) (h:nP f a b=true) (h':nP f b c=true):nP f a c=true:=by
 unfold nP at *;simp only [decide_eq_true_eq] at *;by_cases h1:cG (f a) (f b)=0
 ·rw [iH h1];exact h'
 ·by_cases h2:cG (f b) (f c)=0
  ·rw [<- iH h2];exact h
  ·have:=rL (a:=f a) (b:=f b) (c:=f c) (by omega) (by omega);omega
theorem D3 (f:Nat->ByteArray) (a b:Nat):(nP f a b || nP f b a)=true:=by
 unfold nP;have:=iG (f a) (f b);simp only [wu,decide_eq_true_eq];omega
theorem eH (f:Nat->ByteArray) (l:List Nat):(cW f l).Perm l:=List.mergeSort_perm _ _
theorem sK (f:Nat->ByteArray) (l:List Nat):(cW f l).Pairwise (fun a b=>nP f a b=true):=List.pairwise_mergeSort (D2 f) (D3 f) l
theorem Af {f g:Nat->ByteArray} {l:List Nat} (h:∀x∈l,f x=g x):cW f l=cW g l:=by
 have:=List.map_mergeSort (f:=id) (r:=nP f) (s:=nP g) (l:=l) (fun a ha b hb=>by simp only [nP,id];rw [h a ha,h b hb]);simpa [cW] using this
def Sep (f:Nat->ByteArray) (l:List Nat):Prop:=∀x∈l,∀y∈l,f x=f y->x=y
theorem xJ {f:Nat->ByteArray} {l l':List Nat} (hp:l.Perm l') (hs:Sep f l):cW f l=cW f l':=by
 refine List.Perm.eq_of_pairwise (le:=fun a b=>nP f a b=true) ?_ (sK f l) (sK f l') (((eH f l).trans hp).trans (eH f l').symm);intro a b ha hb h1 h2;refine hs a ((eH f l).mem_iff.1 ha) b (hp.mem_iff.2 ((eH f l').mem_iff.1 hb)) (iH ?_);unfold nP at h1 h2;simp only [decide_eq_true_eq] at h1 h2;have:=iG (f a) (f b);omega
structure Wf (F:aX) (n:Nat) (rk:Nat->Nat):Prop where
 kid:∀i,i<n->∀k∈F.kids i,k<n/\rk k<rk i
def uf (F:aX):Nat->Nat->ByteArray
 | 0,i=>F.nm i
 | d+1,i=>match cW (uf F d) (F.kids i) with | []=>F.nm i | k::_=>uf F d k
theorem AU {F:aX} {n:Nat} {rk:Nat->Nat} (h:Wf F n rk):∀ {d e i:Nat},i<n->rk i<=d->rk i<=e->uf F d i=uf F e i:=by
 intro d
 induction d with
 | zero =>
  intro e i hi hd he;have hk:F.kids i=[]:=by
   cases hk:F.kids i with
   | nil=>rfl
   | cons k l=>have:=(h.kid i hi k (by rw [hk];simp)).2;omega
  cases e with
  | zero=>rfl
  | succ e=>simp [uf,hk,cW]
 | succ d ih =>
  intro e i hi hd he;have hsame:∀e',rk i<=e'+1->cW (uf F d) (F.kids i)=cW (uf F e') (F.kids i):=fun e' he'=>Af fun k hk=>by have:=h.kid i hi k hk;exact ih this.1 (by omega) (by omega)
  cases e with
  | zero =>
   have hk:F.kids i=[]:=by
    cases hk:F.kids i with
    | nil=>rfl
    | cons k l=>have:=(h.kid i hi k (by rw [hk];simp)).2;omega
   simp [uf,hk,cW]
  | succ e =>
   simp only [uf];rw [hsame e (by omega)];cases hc:cW (uf F e) (F.kids i) with
   | nil=>rfl
   | cons k l =>
    have hk:k∈F.kids i:=(eH _ _).mem_iff.1 (by rw [hc];simp);have:=h.kid i hi k hk;exact ih this.1 (by omega) (by omega)
def gq (F:aX) (rk:Nat->Nat) (i:Nat):ByteArray:=uf F (rk i) i
theorem sL {F:aX} {n:Nat} {rk:Nat->Nat} (h:Wf F n rk) {i:Nat} (hi:i<n):gq F rk i=match cW (gq F rk) (F.kids i) with | []=>F.nm i | k::_=>gq F rk k:=by
 have h1:gq F rk i=uf F (rk i+1) i:=AU h hi (ah _) (kI _);rw [h1];simp only [uf];have hs:cW (uf F (rk i)) (F.kids i)=cW (gq F rk) (F.kids i):=Af fun k hk=>by have:=h.kid i hi k hk;exact AU h this.1 (by omega) (ah _)
 rw [hs];cases hc:cW (gq F rk) (F.kids i) with
 | nil=>rfl
 | cons k l =>
  have hk:k∈F.kids i:=(eH _ _).mem_iff.1 (by rw [hc];simp);have:=h.kid i hi k hk;exact AU h this.1 (by omega) (ah _)
def qW (F:aX):Nat->Nat->Nat->Bool
 | 0,i,j=>j==i
 | d+1,i,j=>(j==i) || (F.kids i).any fun k=>qW F d k j
def b8 (F:aX) (rk:Nat->Nat) (i j:Nat):Bool:=qW F (rk i) i j
theorem yy {F:aX} {n:Nat} {rk:Nat->Nat} (h:Wf F n rk):∀ {d e i j:Nat},i<n->rk i<=d->rk i<=e->qW F d i j=qW F e i j:=by
 intro d
 induction d with
 | zero =>
  intro e i j hi hd he;have hk:F.kids i=[]:=by
   cases hk:F.kids i with
   | nil=>rfl
   | cons k l=>have:=(h.kid i hi k (by rw [hk];simp)).2;omega
  cases e with
  | zero=>rfl
  | succ e=>simp [qW,hk]
 | succ d ih =>
  intro e i j hi hd he;cases e with
  | zero =>
   have hk:F.kids i=[]:=by
    cases hk:F.kids i with
    | nil=>rfl
    | cons k l=>have:=(h.kid i hi k (by rw [hk];simp)).2;omega
   simp [qW,hk]
  | succ e =>
   simp only [qW];congr 1;rw [nv,eF,eF];constructor
   ·rintro ⟨k,hk,h1⟩
    have:=h.kid i hi k hk;exact ⟨k,hk,by rw [<- ih (e:=e) this.1 (by omega) (by omega)];exact h1⟩
   ·rintro ⟨k,hk,h1⟩
    have:=h.kid i hi k hk;exact ⟨k,hk,by rw [ih (e:=e) this.1 (by omega) (by omega)];exact h1⟩
theorem iJ {F:aX} {n:Nat} {rk:Nat->Nat} (h:Wf F n rk) {i:Nat} (hi:i<n) (j:Nat):b8 F rk i j=((j==i) || (F.kids i).any fun k=>b8 F rk k j):=by
 have h1:b8 F rk i j=qW F (rk i+1) i j:=yy h hi (ah _) (kI _);rw [h1];simp only [qW];congr 1;rw [nv,eF,eF];constructor
 ·rintro ⟨k,hk,h1⟩
  have:=h.kid i hi k hk;exact ⟨k,hk,by unfold b8;rw [<- yy h this.1 (d:=rk i) (by omega) (ah _)];exact h1⟩
 ·rintro ⟨k,hk,h1⟩
  have:=h.kid i hi k hk;exact ⟨k,hk,by rw [yy h this.1 (e:=rk k) (by omega) (ah _)];exact h1⟩
def aX.jh (F:aX) (rk:Nat->Nat) (p:Nat->Bool):aX:={ F with kids:=fun i=>if p i then cW (gq F rk) (F.kids i) else F.kids i }
theorem aX.iQ (F:aX) (rk:Nat->Nat) (p:Nat->Bool) (i:Nat):((F.jh rk p).kids i).Perm (F.kids i):=by
 show (if p i then _ else _:List Nat).Perm _;split
 ·exact eH _ _
 ·exact jP _
end
section
open Go.RowKit Go.Deep
theorem Tryz.sM:∀w,(Go.sizeOf 122).run Tryz.prog w=.ok 3 w:=Tryz.sizeOf122
structure lI (n:Nat) (A:Nat->Nat) (kv:Nat->Value) (w w':World):Prop where
 os:w'.os=w.os
 tape:w'.tape=w.tape
 output:w'.output=w.output
 size:w.heap.size<=w'.heap.size
 block:∀b,b<w.heap.size->(∀i,i<n->b≠A i)->(∀i,i<n->(kv i).ownBlock≠some b)->w'.heap[b]? = w.heap[b]?
section
variable {n base:Nat} {A:Nat->Nat} {kv:Nat->Value} {F:aX} {a b c:World}
theorem lI.refl (n:Nat) (A:Nat->Nat) (kv:Nat->Value) (w:World):lI n A kv w w:=⟨rfl,rfl,rfl,ah _,fun _ _ _ _=>rfl⟩
theorem lI.trans (h:lI n A kv a b) (k:lI n A kv b c):lI n A kv a c :=
 ⟨k.os.trans h.os,k.tape.trans h.tape,k.output.trans h.output,aR h.size k.size,fun j hj h1 h2=>(k.block j (mm hj h.size) h1 h2).trans (h.block j hj h1 h2)⟩
theorem lI.Y5 (h:Up a b):lI n A kv a b:=⟨h.os,h.tape,h.output,h.size,fun j hj _ _=>bH h j hj⟩
theorem lI.below (h:lI n A kv a b) (hF:bB base n A kv F a) (hb:base<=a.heap.size):Below base a b :=
 ⟨h.os,h.tape,h.output,h.size,fun j hj=>h.block j (by omega) (fun i hi e=>by have:=hF.lo i hi;omega) (fun i hi e=>by have:=(hF.iA hi e).1;omega)⟩
end
theorem Nf (w:World) (bx m0 x y:Nat) (l:List (Option Nat×Value)) (sx sy:ByteArray) (mV:w.cell? ⟨bx,0,none⟩=some (.map (some m0))) (hm:jZ w m0 l) (hok:∀z∈l,gF w z.1) (hx:Plain w x) (hy:Plain w y)
  (h1:l.lookup (some x)=some (.string sx)) (h2:l.lookup (some y)=some (.string sy)) :
  Calls Tryz.prog 241 #[.pointer (some ⟨x,0,none⟩),.pointer (some ⟨y,0,none⟩),.pointer (some ⟨bx,0,none⟩)] w fun e w'=>e=.returned (.int .i64 (cG sx sy))/\w=w':=by
 have g1:=wO (P:=Tryz.prog) Tryz.underlying245 Tryz.underlying119 Tryz.sM hm (k:=some x) hx hok h1;have g2:=wO (P:=Tryz.prog) Tryz.underlying245 Tryz.underlying119 Tryz.sM hm (k:=some y) hy hok h2;simp only [pk] at g1 g2;clear hm hok hx hy h1 h2
 go_enter Tryz.func241,Tryz.ntmps241
 go_wp2_with (go_at_call 242;refine (Tryz.strings_Compare sx sy _).mono ?_;rintro e w' ⟨rfl,rfl⟩);go_ret;exact ⟨rfl,rfl⟩
end
end Go.Proofs.YthgabkgmkolobaaGreat
namespace Go.Proofs
open Go.Shelf
def Tryz.sortNode_ren:Go.Shelf.Ren:=⟨fun | 6=>240 | 15=>127 | 14=>271 | 28=>181 | 29=>182 | 20=>281 | 21=>282 | 22=>283 | 23=>284 | 24=>285 | 25=>286 | 26=>287 | 27=>288 | 46=>291 | 47=>235 | 48=>236 | 49=>292 | 50=>293 | 57=>294 | n=>n,fun | 22=>120 | 24=>119 | 25=>247 | 3=>3 | 39=>154 | 0=>0 | 53=>191 | 55=>193 | 4=>4 | 46=>183 | 45=>182 | 50=>188 | 5=>5 | 9=>9 | 66=>238 | 70=>242 | 76=>267 | 77=>177 | n=>n,fun | n=>n⟩
theorem Tryz.sortNode:Go.Proofs.SlLaysF.n6 Tryz.prog Tryz.sortNode_ren:={
 mixed:=by kernel_rfl
 f6:=⟨Tryz.f240.name,by decide,Tryz.func240.trans (congrArg some (by kernel_rfl))⟩
 f14:=⟨Tryz.f271.name,by decide,Tryz.func271.trans (congrArg some (by kernel_rfl))⟩
 f15:=Tryz.func127.trans (congrArg some (by kernel_rfl))
 f20:=⟨Tryz.f281.name,by decide,Tryz.func281.trans (congrArg some (by kernel_rfl))⟩
 f21:=⟨Tryz.f282.name,by decide,Tryz.func282.trans (congrArg some (by kernel_rfl))⟩
 f22:=⟨Tryz.f283.name,by decide,Tryz.func283.trans (congrArg some (by kernel_rfl))⟩
 f23:=⟨Tryz.f284.name,by decide,Tryz.func284.trans (congrArg some (by kernel_rfl))⟩
 f24:=⟨Tryz.f285.name,by decide,Tryz.func285.trans (congrArg some (by kernel_rfl))⟩
 f25:=⟨Tryz.f286.name,by decide,Tryz.func286.trans (congrArg some (by kernel_rfl))⟩
 f26:=⟨Tryz.f287.name,by decide,Tryz.func287.trans (congrArg some (by kernel_rfl))⟩
 f27:=⟨Tryz.f288.name,by decide,Tryz.func288.trans (congrArg some (by kernel_rfl))⟩
 f28:=Tryz.func181.trans (congrArg some (by kernel_rfl))
 f29:=Tryz.func182.trans (congrArg some (by kernel_rfl))
 f46:=⟨Tryz.f291.name,by decide,Tryz.func291.trans (congrArg some (by kernel_rfl))⟩
 f47:=Tryz.func235.trans (congrArg some (by kernel_rfl))
 f48:=Tryz.func236.trans (congrArg some (by kernel_rfl))
 f49:=⟨Tryz.f292.name,by decide,Tryz.func292.trans (congrArg some (by kernel_rfl))⟩
 f50:=⟨Tryz.f293.name,by decide,Tryz.func293.trans (congrArg some (by kernel_rfl))⟩
 f57:=⟨Tryz.f294.name,by decide,Tryz.func294.trans (congrArg some (by kernel_rfl))⟩
 t0:=Tryz.underlying0
 a0:=Tryz.isAgg0
 z0:=Tryz.sizeOf0
 v0:=Tryz.zeroValue0
 t3:=Tryz.underlying3
 a3:=Tryz.isAgg3
 z3:=Tryz.sizeOf3
 v3:=Tryz.zeroValue3
 t4:=Tryz.underlying4
 a4:=Tryz.isAgg4
 z4:=Tryz.sizeOf4
 v4:=Tryz.zeroValue4
 t5:=Tryz.underlying5
 a5:=Tryz.isAgg5
 z5:=Tryz.sizeOf5
 v5:=Tryz.zeroValue5
 t9:=Tryz.underlying9
 a9:=Tryz.isAgg9
 z9:=Tryz.sizeOf9
 v9:=Tryz.zeroValue9
 t22:=Tryz.underlying120
 a22:=Tryz.isAgg120
 z22:=Tryz.sizeOf120
 v22:=Tryz.zeroValue120
 a24:=Tryz.isAgg119
 z24:=Tryz.sizeOf119
 t25:=Tryz.underlying247
 a25:=Tryz.isAgg247
 z25:=Tryz.sizeOf247
 v25:=Tryz.zeroValue247
 t39:=Tryz.underlying154
 a39:=Tryz.isAgg154
 z39:=Tryz.sizeOf154
 v39:=Tryz.zeroValue154
 t45:=Tryz.underlying182
 a45:=Tryz.isAgg182
 z45:=Tryz.sizeOf182
 v45:=Tryz.zeroValue182
 t46:=Tryz.underlying183
 a46:=Tryz.isAgg183
 z46:=Tryz.sizeOf183
 v46:=Tryz.zeroValue183
 t50:=Tryz.underlying188
 a50:=Tryz.isAgg188
 z50:=Tryz.sizeOf188
 v50:=Tryz.zeroValue188
 t53:=Tryz.underlying191
 a53:=Tryz.isAgg191
 z53:=Tryz.sizeOf191
 v53:=Tryz.zeroValue191
 t55:=Tryz.underlying193
 a55:=Tryz.isAgg193
 z55:=Tryz.sizeOf193
 v55:=Tryz.zeroValue193
 t66:=Tryz.underlying238
 a66:=Tryz.isAgg238
 z66:=Tryz.sizeOf238
 v66:=Tryz.zeroValue238
 t70:=Tryz.underlying242
 a70:=Tryz.isAgg242
 z70:=Tryz.sizeOf242
 v70:=Tryz.zeroValue242
 t76:=Tryz.underlying267
 a76:=Tryz.isAgg267
 z76:=Tryz.sizeOf267
 v76:=Tryz.zeroValue267
 t77:=Tryz.underlying177
 a77:=Tryz.isAgg177
 z77:=Tryz.sizeOf177
 v77:=Tryz.zeroValue177 }
end Go.Proofs
namespace Go.Proofs.YthgabkgmkolobaaGreat
open Go.RowKit Go.Deep Go.Sort Go.Shelf Go.Lib
section
variable {α:Type} [Inhabited α] {enc:α->Value}
theorem Qn (cur:Array Value) (ts:List α) (h:ts.length<=cur.size):(putCells enc 0 ts.toArray cur).toList.take ts.length=ts.map enc:=by
 apply zv;intro j;by_cases hj:j<ts.length
 ·rw [List.getElem?_take_of_lt hj,kH]
  simp [putCells,hj,show j<cur.size by omega]
 ·rw [List.getElem?_take_eq_none (by omega),Fs (by simp;omega)]
theorem CV (w:World) (g n:Nat) (d:Array α) (os:Array Obj):w.heap.size<=(sortWorld enc w g 0 n d os).heap.size:=by
 simp [sortWorld,grow,putRow,mapBlock,Sort.ahead]
theorem eV {w:World} {g n:Nat} {d:Array α} {os:Array Obj} {b:Nat} (h:b≠g) (hl:b<w.heap.size):(sortWorld enc w g 0 n d os).heap[b]? = w.heap[b]?:=by
 unfold sortWorld;rw [heap_grow_old _ _ (by simpa [putRow,mapBlock,Sort.ahead] using hl)];simp [putRow,mapBlock,Sort.ahead,Array.getElem?_modify,Ne.symm h]
theorem Fh {w:World} {g n:Nat} {d:Array α} {os:Array Obj} {cur:Array Value} {e:TypeId} {fr:Nat×Nat} (hb:w.heap[g]? = some (.cells cur e fr)) :
  (sortWorld enc w g 0 n d os).heap[g]? = some (.cells (putCells enc 0 d cur) e fr):=by
 have hg:g<w.heap.size:=(fW.1 hb).1;unfold sortWorld;rw [heap_grow_old _ _ (by simpa [putRow,mapBlock,Sort.ahead] using hg)];simp [putRow,mapBlock,Sort.ahead,Array.getElem?_modify,hb,onCells]
end
theorem ax.sorted {α:Type} [Inhabited α] {enc:α->Value} {base g cap n:Nat} {e:TypeId} {w:World} {os:Array Obj} {vs:List Value} {ts:List α} (h:ax base e w (.slice (some ⟨g,0,none⟩) vs.length cap) vs) (hl:ts.length=vs.length) :
  ax base e (sortWorld enc w g 0 n ts.toArray os) (.slice (some ⟨g,0,none⟩) vs.length cap) (ts.map enc):=by
 obtain ⟨_,⟨h1,_⟩ | ⟨g',cap',cur,hs,hg,hc,hn,hcm,hcs,ht⟩⟩:=h
 ·cases h1
 ·injection hs with hs1 hs2 hs3
  injection hs1 with hs1;injection hs1 with hs1;subst hs1;subst hs3;refine ⟨by simp,.inr ⟨g,cap,putCells enc 0 ts.toArray cur,by simp [hl],hg,Fh hc,by simp [hl];exact hn,hcm,by simpa [putCells] using hcs,?_⟩⟩;rw [aD,Nat.mul_one];exact Qn cur ts (by omega)
theorem Qo (f:Nat->ByteArray) {L:List Nat}:SWO (ltOf fun (x y:{k // k∈L})=>cG (f x.1) (f y.1)) where
 irrefl x:=by simp [ltOf,D1]
 trans x y z h1 h2:=by
  simp only [ltOf,decide_eq_true_eq] at *
  exact rL h1 h2
 ntrans x y z h1 h2:=by
  simp only [ltOf,decide_eq_false_iff_not] at *
  intro h3
  by_cases e:cG (f x.1) (f y.1)=0
  ·rw [iH e] at h3;exact h2 h3
  ·have h4:cG (f y.1) (f x.1)<0:=by have:=iG (f x.1) (f y.1);omega
   exact h2 (rL h4 h3)
def VB (n base:Nat) (A:Nat->Nat) (kv:Nat->Value) (F:aX) (w:World) (i:Nat) (l:List Nat) (e:Ending) (w':World):Prop :=
 e=.returned (.tuple #[])/\bB base n A kv { F with kids:=upd F.kids i l } w'/\lI n A kv w w'
theorem bB.plain {base n:Nat} {A:Nat->Nat} {kv:Nat->Value} {F:aX} {w:World} (h:bB base n A kv F w) {i:Nat} (hi:i<n):Plain w (A i):=⟨_,_,h.node i hi,by simp⟩
theorem Plain.of_block {w w':World} {b:Nat} (h:Plain w b) (e:w'.heap[b]? = w.heap[b]?):Plain w' b:=by
 obtain ⟨c,t,h1,h2⟩:=h;exact ⟨c,t,by rw [e];exact h1,h2⟩
theorem jZ.of_block {w w':World} {b:Nat} {l:List (Option Nat×Value)} (h:jZ w b l) (e:w'.heap[b]? = w.heap[b]?):jZ w' b l:=by
 obtain ⟨es,c,h1,h2⟩:=h;exact ⟨es,c,by rw [e];exact h1,h2⟩
theorem jZ.lt {w:World} {b:Nat} {l:List (Option Nat×Value)} (h:jZ w b l):b<w.heap.size:=by
 obtain ⟨es,c,h1,h2⟩:=h;exact (fW.1 h1).1
theorem Jz {base n:Nat} {A:Nat->Nat} {kv:Nat->Value} {F:aX} {w:World} (hF:bB base n A kv F w) {i g cap:Nat} (hi:i<n) (hv:kv i=.slice (some ⟨g,0,none⟩) (F.kids i).length cap) (h0:F.kids i≠[]) (hlen:(F.kids i).length<=1000000)
  (f:Nat->ByteArray) (hs:Sep f (F.kids i)) {bx m0:Nat} {l:List (Option Nat×Value)} (mV:w.cell? ⟨bx,0,none⟩=some (.map (some m0))) (hm:jZ w m0 l) (hgb:g≠bx) (hgm:g≠m0)
  (hl:∀k∈F.kids i,l.lookup (some (A k))=some (.string (f k))) (hok:∀z∈l,∃k,k<n/\z.1=some (A k)) :
  Calls Tryz.prog 240 #[kv i,.func (.func 241) #[] #[.pointer (some ⟨bx,0,none⟩)]] w (VB n base A kv F w i (cW f (F.kids i))):=by
 obtain ⟨k0,ud⟩:∃k,k∈F.kids i:=List.exists_mem_of_ne_nil _ h0;letI:Inhabited {k // k∈F.kids i}:=⟨⟨k0,ud⟩⟩;have hown:=hF.own i hi;rw [hv] at hown;have hgo:(kv i).ownBlock=some g:=by rw [hv];rfl
 have vz:=(hF.iA hi hgo).2;have Ng:∀j,j<n->A j≠g:=fun j hj e=>hF.apart i j hi hj (by rw [hgo,e]);have eg:∀args w,(callFunc 241 args).run Tryz.prog w=.ok (.enter 241 args) w:=enters_of Tryz.func241 (by kernel_rfl) rfl;have hsize:((F.kids i).attach.toArray).size=(F.kids i).length:=by simp
 have LF:((F.kids i).map (bD A)).length=(F.kids i).length:=by simp
 have hH:Holds (fun (x:{k // k∈F.kids i})=>bD A x.1) w g 0 (F.kids i).attach.toArray:=by
  intro j hj;rw [hsize] at hj;obtain ⟨p,c,e,_,H⟩:=hown.yl.open;injection e with e1;subst e1;obtain ⟨b,off,e,hc⟩:=H j (by rw [LF];exact hj);injection e with e;injection e with e1 e2;subst e1;subst e2;refine ⟨?_,?_⟩
  ·rw [hc,getElem!_pos _ _ (by simpa using hj)];simp [hj]
  ·obtain ⟨_,⟨h1,_⟩ | ⟨g',cap',cur,hs',_,hc',_⟩⟩:=hown
   ·cases h1
   ·injection hs' with hs1
    injection hs1 with hs1;injection hs1 with hs1;subst hs1;simp [World.frozen?,hc']
 have hcmp:CmpLays1 Tryz.prog 241 #[.pointer (some ⟨bx,0,none⟩)] (fun (x:{k // k∈F.kids i})=>bD A x.1) (fun x y=>cG (f x.1) (f y.1)) g 0 (F.kids i).attach.toArray.size w:=by
  intro m os dk hdk x y;have hx:=hF.kid i hi x.1 x.2;have hy:=hF.kid i hi y.1 y.2;have hbl:bx<w.heap.size:=dN w _ mV;have h1:(sortWorld (fun (x:{k // k∈F.kids i})=>bD A x.1) w g 0 m dk os).cell? ⟨bx,0,none⟩=some (.map (some m0)):=by rw [fG (a:=⟨bx,0,none⟩) (eV (dM hgb) hbl)];exact mV
  refine (Nf _ bx m0 (A x.1) (A y.1) l (f x.1) (f y.1) h1 (hm.of_block (eV (dM hgm) hm.lt)) (fun z hz=>?_)
   ((hF.plain hx).of_block (eV (Ng _ hx) (hF.lt hx))) ((hF.plain hy).of_block (eV (Ng _ hy) (hF.lt hy))) (hl x.1 x.2) (hl y.1 y.2)).mono fun e w' ⟨he,hw⟩=>⟨he,0,#[],by rw [<- hw,grow_empty];rfl⟩
  obtain ⟨k,hk,e⟩:=hok z hz;rw [e];exact (hF.plain hk).of_block (eV (Ng _ hk) (hF.lt hk))
 have hcon:=Any.slices_SortFunc_total Tryz.sortNode (fun (x:{k // k∈F.kids i})=>bD A x.1) (fun _=>rfl) (fun x y=>cG (f x.1) (f y.1)) (Qo f) 241 #[.pointer (some ⟨bx,0,none⟩)] g 0 cap (F.kids i).attach.toArray w eg hcmp hH vz (by rw [hsize];omega)
  (fun x y h1 h2=>by
   simp only [ltOf,decide_eq_false_iff_not] at h1 h2;have h3:cG (f x.1) (f y.1)=0:=by have:=iG (f x.1) (f y.1);omega
   exact Subtype.ext (hs x.1 x.2 y.1 y.2 (iH h3)))
 rw [hsize,<- hv] at hcon;refine hcon.mono fun e w' ⟨he,m,os,hw⟩=>⟨he,?_,?_⟩
 ·have aag:(((F.kids i).attach.toArray.toList.mergeSort fun x y=>!(ltOf fun (x y:{k // k∈F.kids i})=>cG (f x.1) (f y.1)) y x).map fun x=>x.1)=cW f (F.kids i):=by
   have h:=List.map_mergeSort (f:=fun (x:{k // k∈F.kids i})=>x.1) (r:=fun x y=>!(ltOf fun (x y:{k // k∈F.kids i})=>cG (f x.1) (f y.1)) y x) (s:=nP f) (l:=(F.kids i).attach) (fun a _ b _=>by
    simp only [ltOf,nP]
    have:=iG (f a.1) (f b.1)
    by_cases h:cG (f a.1) (f b.1)<=0
    ·rw [decide_eq_true h];simp;omega
    ·rw [decide_eq_false h];simp;omega)
   rw [List.toList_toArray]
   rw [h,List.attach_map_subtype_val]
   rfl
  have ho:ax base 119 w' (kv i) ((cW f (F.kids i)).map (bD A)):=by
   rw [hv,hw,<- aag,jS]
   have h:=ax.sorted (enc:=fun (x:{k // k∈F.kids i})=>bD A x.1) (n:=m) (os:=os) (ts:=((F.kids i).attach.toArray.toList.mergeSort fun x y=>!(ltOf fun (x y:{k // k∈F.kids i})=>cG (f x.1) (f y.1)) y x)) (vs:=(F.kids i).map (bD A)) (by rw [LF];exact hown) (by simp)
   rw [LF] at h
   exact h
  have hsame:∀b,b≠g->b<w.heap.size->w'.heap[b]? = w.heap[b]?:=fun b hb hbl=>by rw [hw];exact eV hb hbl
  have h2:=hF.put (w':=w') (k:=i) (v:=kv i) (ks:=cW f (F.kids i)) hi (fun j hj _=>hsame _ (Ng j hj) (hF.lt hj)) (by rw [hsame _ (Ng i hi) (hF.lt hi)];exact hF.node i hi) ho
   (fun j b hj hji hb=>hsame b (fun e=>hji (hF.alone j i b hj hi hb (by rw [hgo,e]))) (hF.iA hj hb).2) (fun b hb=>.inl hb) (fun j hj=>hF.kid i hi j ((eH _ _).mem_iff.1 hj))
  have hkv:upd kv i (kv i)=kv:=by
   funext j;by_cases e:j=i
   ·subst e;exact upd_same _ _ _
   ·exact upd_ne _ _ e
  rw [hkv] at h2
  exact h2
 ·rw [hw]
  exact ⟨rfl,rfl,rfl,CV _ _ _ _ _,fun b hb _ h2=>eV (fun e=>h2 i hi (by rw [hgo,e])) hb⟩
end Go.Proofs.YthgabkgmkolobaaGreat
