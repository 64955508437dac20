/- Between two rounds of slices.AppendSeq .. -/
import Derived.Shelf.Strings.IndexAnyAll
import Derived.Test.YthgabkgmkolobaaGreatQ20
set_option maxRecDepth 100000
namespace Go.Proofs.YthgabkgmkolobaaGreat
section
open Go.RowKit Go.Shelf Go.Deep
attribute [local go_sem] yB
theorem au.yc {base:Nat} {e:TypeId} {w w':World} {v:Value} {vs:List Value} (h:au base e w v vs) (k:∀b,v.ownBlock=some b->w'.heap[b]? = w.heap[b]?):au base e w' v vs:=by
 obtain ⟨hl,h | ⟨g,cap,cur,rfl,hg,hc,hr⟩⟩:=h
 ·exact ⟨hl,.inl h⟩
 ·exact ⟨hl,.inr ⟨g,cap,cur,rfl,hg,by rw [k g rfl];exact hc,hr⟩⟩
theorem au.Wi {base base':Nat} {e:TypeId} {w:World} {v:Value} {vs:List Value} (h:au base e w v vs) (hb:base'<=base):au base' e w v vs:=by
 obtain ⟨hl,h | ⟨g,cap,cur,rfl,hg,hc,hr⟩⟩:=h
 ·exact ⟨hl,.inl h⟩
 ·exact ⟨hl,.inr ⟨g,cap,cur,rfl,aB hb hg,hc,hr⟩⟩
theorem au.kL {base:Nat} {e:TypeId} {w:World} {v:Value} {vs:List Value} (h:au base e w v vs) {b:Nat} (hb:v.ownBlock=some b):∃c,w.heap[b]? = some (Obj.cells c e (0,0)):=by
 obtain ⟨_,⟨rfl,_⟩ | ⟨g,cap,cur,rfl,_,hc,_⟩⟩:=h
 ·cases hb
 ·injection hb with hb;subst hb;exact ⟨cur,hc⟩

def Nc (w0:World) (pre:List Int) (W:World):Prop:=Below w0.heap.size w0 W/\w0.heap.size+1<=W.heap.size/\∃v,W.heap[w0.heap.size]? = some (Obj.cells #[v] 26 (0,0))/\au (w0.heap.size+1) 3 W v (pre.map (Value.int .i64))
theorem Nc.own (w0:World) {B:Nat} (hB:w0.heap.size+1<=B):OwnFrom B (Nc w0):=by
 rintro s X Y row ⟨hb,hsz,v,iM,hown⟩ hg hr
 have hcell:∀(b:Nat) (c:Array Value) (e:TypeId) (z:Nat×Nat),X.heap[b]? = some (Obj.cells c e z)->Y.heap[b]? = X.heap[b]?:=fun b c e z hc=>hg.block b (fq.1 hc).1 (fun e2=>by
  obtain ⟨_,o,h1,h2⟩:=hr b e2.symm
  rw [hc] at h1;injection h1 with h1;subst h1;cases h2)
 refine ⟨⟨hg.os.trans hb.os,hg.tape.trans hb.tape,hg.output.trans hb.output,aB hb.size hg.size,fun b hb2=>(hg.block b (by have:=hb.size;omega) (fun e=>by obtain ⟨h1,_⟩:=hr b e.symm;omega)).trans (hb.block b hb2)⟩,aB hsz hg.size,v,(hcell _ _ _ _ iM).trans iM,hown.yc fun b hb2=>?_⟩;obtain ⟨c,hc⟩:=hown.kL hb2;exact hcell _ _ _ _ hc
end
section
open Go.RowKit Go.Shelf Go.Deep
def Cz (w:World) (xs:List Int) (e:Ending) (w':World):Prop:=Up w w'/\∃v,e=.returned v/\au w.heap.size 3 w' v (xs.map (Value.int .i64))
theorem Nc.next {w W We:World} {pre:List Int} {x:Int} {v v':Value} (iE:Below w.heap.size w W) (hsz:w.heap.size+1<=W.heap.size) (iM:W.heap[w.heap.size]? = some (Obj.cells #[v] 26 (0,0))) (hown:au (w.heap.size+1) 3 W v (pre.map (Value.int .i64)))
  (ho:au (w.heap.size+1) 3 We v' (pre.map (Value.int .i64)++[.int .i64 x])) (hg:(W.alloc (.cells #[.int .i64 x] 3)).grownBy We v.ownBlock) :
  KeepsFrom (w.heap.size+1) W (We.setCell ⟨w.heap.size,0,none⟩ v')/\KS (· < w.heap.size) W (We.setCell ⟨w.heap.size,0,none⟩ v')/\Nc w (pre++[x]) (We.setCell ⟨w.heap.size,0,none⟩ v'):=by
 have cA:∀b,b≠w.heap.size->(We.setCell ⟨w.heap.size,0,none⟩ v').heap[b]? = We.heap[b]?:=fun b hb=>blk_setCell_other _ _ _ _ hb;have alX:(We.setCell ⟨w.heap.size,0,none⟩ v').heap.size=We.heap.size:=by simp [World.size_setCell]
 have hga:∀b,b<W.heap.size->some b≠v.ownBlock->We.heap[b]? = W.heap[b]?:=fun b hb hne=>(hg.block b (by rw [aQ];exact Nat.lt_succ_of_lt hb) hne).trans (En W _ b hb);have hsize:W.heap.size+1<=We.heap.size:=by have h:=hg.size;rw [aQ] at h;exact h
 have qj:∀b,b<w.heap.size+1->We.heap[b]? = W.heap[b]?:=fun b hb=>hga b (by omega) (fun e=>by have:=(av hown e.symm).1;omega);have xu:=(qj w.heap.size (wu _)).trans iM;refine ⟨⟨by omega,fun k o hk GX hc=>?_⟩,fun b (hb:b<w.heap.size)=>(cA b (by omega)).trans (qj b (by omega)),⟨hg.os.trans iE.os,hg.tape.trans iE.tape,hg.output.trans iE.output,by omega,fun b hb=>((cA b (by omega)).trans (qj b (by omega))).trans (iE.block b hb)⟩,by omega,v',?_,?_⟩
 ·have jt:k<W.heap.size:=(fq.1 GX).1
  rw [cA k (by omega),hga k jt (fun e=>by
   obtain ⟨c,h⟩:=hown.kL e.symm
   rw [GX] at h;injection h with h;subst h;cases hc)]
  exact GX
 ·simp [World.setCell,Array.getElem?_modify,xu]
 ·rw [cg]
  exact ho.yc fun b hb=>cA b (by have:=(av ho hb).1;omega)
end
section
def k9 (l:List Int) (i:Nat):Int:=if gi l i<0\/63<gi l i then 2 else if 0<i/\gi l i<=gi l (i - 1) then 10 else 0
def gM (l:List Int):Int:=bf (k9 l) l.length
structure eD (l:List Int):Prop where
 jM:l.Pairwise (· < ·)
 bd:∀x∈l,0<=x/\x<=63
theorem QO {l:List Int} (h:∀i,i+1<l.length->gi l i<gi l (i+1)):l.Pairwise (· < ·):=by
 have key:∀d i,i+d+1<l.length->gi l i<gi l (i+d+1):=by
  intro d
  induction d with
  | zero=>intro i hi;exact h i hi
  | succ d ih =>
   intro i hi;have h1:=ih i (by omega);have h2:=h (i+d+1) (by omega);rw [show i+(d+1)+1=i+d+1+1 by omega];omega
 refine mY.2 fun i j hi hj hij=>?_;have h1:=key (j - i - 1) i (by omega);rw [show i+(j - i - 1)+1=j by omega] at h1;simpa [gi,hi,hj] using h1
theorem Li {l:List Int} (h:l.Pairwise (· < ·)) {i j:Nat} (hij:i<j) (hj:j<l.length):gi l i<gi l j:=by
 have:=mY.1 h i j (by omega) hj hij;simpa [gi,hj,show i<l.length by omega] using this
theorem gi_in {l:List Int} {k:Nat} (h:k<l.length):gi l k∈l:=by simp [gi,h]
theorem Dm {l:List Int} {x:Int} (h:x∈l):∃k,k<l.length/\gi l k=x:=by
 obtain ⟨k,hk,e⟩:=F3.1 h;exact ⟨k,hk,by simp [gi,hk,e]⟩
theorem jx {l:List Int}:gM l=0↔eD l:=by
 constructor
 ·intro h
  have hb:=iC h;refine ⟨QO fun i hi=>?_,fun x hx=>?_⟩
  ·have:=hb (i+1) hi
   unfold k9 at this;split at this
   ·cases this
   ·split at this
    ·cases this
    ·rename_i h2
     rw [wm] at h2;omega
  ·obtain ⟨k,hk,e⟩:=Dm hx
   have:=hb k hk;unfold k9 at this;split at this
   ·cases this
   ·omega
 ·intro h
  refine cG fun j hj=>?_;have hb:=h.bd _ (gi_in hj);unfold k9;rw [if_neg (by omega),if_neg];rintro ⟨h1,h2⟩;have:=Li h.jM (i:=j - 1) (j:=j) (by omega) hj;omega
def aV (n:Int) (s:List Int):Int :=
 if n<1\/32<n then 2 else if gM s≠0 then gM s else if 0<s.length/\(gi s 0=0\/n<=gi s (s.length - 1)) then 2 else if (s.length:Int)<2\/n - 2<s.length then 8 else 0
structure Dn (n:Int) (s:List Int):Prop where
 n1:1<=n/\n<=32
 set:eD s
 bd:∀x∈s,1<=x/\x<n
 len:2<=s.length/\(s.length:Int)<=n - 2
theorem QS {s:List Int} (h:eD s) {x:Int} (hx:x∈s):gi s 0<=x/\x<=gi s (s.length - 1):=by
 obtain ⟨k,hk,rfl⟩:=Dm hx;constructor
 ·by_cases e:k=0
  ·subst e;exact qm _
  ·exact Int.le_of_lt (Li h.jM (by omega) hk)
 ·by_cases e:k=s.length - 1
  ·subst e;exact qm _
  ·exact Int.le_of_lt (Li h.jM (by omega) (by omega))
theorem qh {n:Int} {s:List Int}:aV n s=0↔Dn n s:=by
 constructor
 ·intro h
  unfold aV at h;split at h
  ·cases h
  ·split at h
   ·rename_i h2;exact absurd h h2
   ·rename_i h2
    have hs:=jx.1 (FW.1 h2);split at h
    ·cases h
    ·rename_i h3
     split at h
     ·cases h
     ·refine ⟨by omega,hs,fun x hx=>?_,by omega⟩
      have h4:=QS hs hx;have h5:=hs.bd x hx;have h6:0<s.length:=List.length_pos_of_mem hx;have h7:=hs.bd _ (gi_in h6);omega
 ·intro h
  have h1:=h.n1;have h2:=h.len;unfold aV;rw [if_neg (by omega),if_neg (fun e=>e (jx.2 h.set)),if_neg,if_neg (by omega)];rintro ⟨h3,h4⟩;have h5:=h.bd _ (gi_in h3);have h6:=h.bd _ (gi_in (l:=s) (k:=s.length - 1) (by omega));omega
def iT (p:Int->Bool) (n:Nat):List Int:=((List.range n).map fun (i:Nat)=>(i:Int)).filter p
theorem wJ (p:Int->Bool) (n:Nat):iT p (n+1)=iT p n++if p n=true then [(n:Int)] else []:=by
 unfold iT;rw [pU,cg,rO];congr 1;simp only [dV,List.map_nil,List.filter_cons,List.filter_nil]
theorem nR (p:Int->Bool) (n:Nat):(iT p n).length<=n:=by
 unfold iT;exact aB (mN _ _) (by simp)
theorem Dp {p:Int->Bool} {n:Nat} {x:Int}:x∈iT p n↔0<=x/\x<n/\p x=true:=by
 unfold iT;rw [gP,bI];constructor
 ·rintro ⟨⟨i,hi,rfl⟩,h2⟩
  have:=bu.1 hi;exact ⟨by omega,by omega,h2⟩
 ·rintro ⟨h0,h1,h2⟩
  obtain ⟨i,rfl⟩:=oa h0;exact ⟨⟨i,bu.2 (by omega),rfl⟩,h2⟩
theorem nS (p:Int->Bool) (n:Nat):(iT p n).Pairwise (· < ·):=by
 refine Jb _ ?_;rw [sI];exact List.pairwise_lt_range.imp fun h=>by omega
theorem rZ {a b:List Int} (ha:a.Pairwise (· < ·)) (hb:b.Pairwise (· < ·)) (h:∀x,x∈a↔x∈b):a=b:=by
 induction a generalizing b with
 | nil =>
  cases b with
  | nil=>rfl
  | cons y b=>exact absurd ((h y).2 (by simp)) (by simp)
 | cons x a ih =>
  cases b with
  | nil=>exact absurd ((h x).1 (by simp)) (by simp)
  | cons y b =>
   rw [iB] at ha hb
   have e:x=y:=by
    have h1:=(h x).1 (by simp)
    have h2:=(h y).2 (by simp)
    rw [bA] at h1 h2
    rcases h1 with h1 | h1
    ·exact h1
    ·rcases h2 with h2 | h2
     ·exact h2.symm
     ·have:=ha.1 y h2;have:=hb.1 x h1;omega
   subst e
   congr 1
   refine ih ha.2 hb.2 fun z=>?_
   constructor
   ·intro hz
    have h1:=(h z).1 (by simp [hz])
    rw [bA] at h1
    rcases h1 with rfl | h1
    ·have:=ha.1 _ hz;omega
    ·exact h1
   ·intro hz
    have h1:=(h z).2 (by simp [hz])
    rw [bA] at h1
    rcases h1 with rfl | h1
    ·have:=hb.1 _ hz;omega
    ·exact h1
def ji (a b:List Int):List Int:=iT (fun x=>a.contains x&&b.contains x) 64
def bG (n:Int) (a:List Int):List Int:=iT (fun x=>!a.contains x) n.toNat
theorem kE {a b:List Int} (ha:eD a) {x:Int}:x∈ji a b↔x∈a/\x∈b:=by
 unfold ji;rw [Dp];simp only [eF,dU];exact ⟨fun h=>h.2.2,fun h=>by have:=ha.bd x h.1;exact ⟨by omega,by omega,h⟩⟩
theorem nD {n:Int} {a:List Int} {x:Int}:x∈bG n a↔0<=x/\x<n/\x∉a:=by
 unfold bG;rw [Dp];constructor
 ·rintro ⟨h1,h2,h3⟩
  exact ⟨h1,by omega,fun h=>by rw [dU.2 h] at h3;cases h3⟩
 ·rintro ⟨h1,h2,h3⟩
  refine ⟨h1,by omega,?_⟩;cases e:a.contains x with
  | false=>rfl
  | true=>exact absurd (dU.1 e) h3
theorem Fi {a:List Int} (h:a.Pairwise (· < ·)):a.Nodup:=h.imp fun h e=>by omega
theorem J5 {a b:List Int} (ha:a.Pairwise (· < ·)) (hb:b.Pairwise (· < ·)) (h:∀x∈a,x∈b):b.filter (fun x=>a.contains x)=a :=
 rZ (hb.filter _) ha fun x=>by
  rw [gP,dU]
  exact ⟨fun e=>e.2,fun e=>⟨h x e,e⟩⟩
theorem gu {a b:List Int} (ha:a.Pairwise (· < ·)) (hb:b.Pairwise (· < ·)) (h:∀x∈a,x∈b):a.length<=b.length:=by
 rw [<- J5 ha hb h];exact mN _ _
theorem pJ {a b:List Int} (ha:a.Pairwise (· < ·)) (hb:b.Pairwise (· < ·)) (h:∀x∈a,x∈b) (hl:a.length=b.length):∀x∈b,x∈a:=by
 have h1:=J5 ha hb h;have h2:(b.filter (fun x=>a.contains x)).length=b.length:=by rw [h1,hl]
 exact fun x hx=>dU.1 (List.length_filter_eq_length_iff.1 h2 x hx)
def jo (a b:List Int):Bool:=decide ((ji a b).length=0) || decide ((ji a b).length=a.length) || decide ((ji a b).length=b.length)
theorem r4 (a b:List Int):(ji a b).Pairwise (· < ·):=nS _ _
theorem AG {a b:List Int} (ha:eD a) (hb:eD b):jo a b=true↔(∀x∈a,x∉b)\/(∀x∈a,x∈b)\/(∀x∈b,x∈a):=by
 unfold jo;simp only [s7,decide_eq_true_eq];have e0:(ji a b).length=0↔∀x∈a,x∉b:=by
  rw [xO];constructor
  ·intro h x h1 h2
   have:=(kE ha).2 ⟨h1,h2⟩;rw [h] at this;cases this
  ·intro h
   refine FX.2 fun x hx=>?_;obtain ⟨h1,h2⟩:=(kE ha).1 hx;exact h x h1 h2
 have e1:(ji a b).length=a.length↔∀x∈a,x∈b:=by
  constructor
  ·intro h x hx
   exact ((kE ha).1 (pJ (r4 a b) ha.jM (fun y hy=>((kE ha).1 hy).1) h x hx)).2
  ·intro h
   have h1:=gu (r4 a b) ha.jM (b:=a) fun y hy=>((kE ha).1 hy).1;have h2:=gu ha.jM (r4 a b) fun y hy=>(kE ha).2 ⟨hy,h y hy⟩;omega
 have e2:(ji a b).length=b.length↔∀x∈b,x∈a:=by
  constructor
  ·intro h x hx
   exact ((kE ha).1 (pJ (r4 a b) hb.jM (fun y hy=>((kE ha).1 hy).2) h x hx)).1
  ·intro h
   have h1:=gu (r4 a b) hb.jM fun y hy=>((kE ha).1 hy).2;have h2:=gu hb.jM (r4 a b) fun y hy=>(kE ha).2 ⟨h y hy,hy⟩;omega
 rw [e0,e1,e2,or_assoc]
def ig (l:List (List Int)) (i:Nat):Int:=dr (fun k=>decide (i<k)&&!jo (gl l i) (gl l k)) l.length
def iY (l:List (List Int)):Int:=dr (fun i=>decide (0<=ig l i)) l.length
def J6 (l:List (List Int)):Int:=ig l (iY l).toNat
end
section
def cmpL:List Int->List Int->Int
 | [],[]=>0
 | [],_::_=>-1
 | _::_,[]=>1
 | a::a1,b::bs=>if a<b then -1 else if b<a then 1 else cmpL a1 bs
theorem AH:∀a:List Int,cmpL a a=0
 | []=>rfl
 | a::a1=>by rw [cmpL,if_neg (by omega),if_neg (by omega)];exact AH a1
theorem nE:∀ {a b:List Int},cmpL a b=0->a=b
 | [],[],_=>rfl
 | [],_::_,h=>by rw [cmpL] at h;omega
 | _::_,[],h=>by rw [cmpL] at h;omega
 | a::a1,b::bs,h=>by
  rw [cmpL] at h
  split at h
  ·omega
  ·split at h
   ·omega
   ·rw [nE h];congr 1;omega
theorem oV:∀a b:List Int,cmpL b a = - cmpL a b
 | [],[]=>rfl
 | [],_::_=>rfl
 | _::_,[]=>rfl
 | a::a1,b::bs=>by
  rw [cmpL,cmpL]
  by_cases h1:a<b
  ·simp only [if_pos h1,if_neg (show ¬b<a by omega)];rfl
  ·by_cases h2:b<a
   ·simp only [if_pos h2,if_neg h1]
   ·rw [if_neg h1,if_neg h2,if_neg h2,if_neg h1];exact oV a1 bs
theorem uE:∀ {a b c:List Int},cmpL a b<0->cmpL b c<0->cmpL a c<0
 | [],[],c,h,_=>by rw [cmpL] at h;omega
 | [],_::_,[],_,h=>by rw [cmpL] at h;omega
 | [],_::_,_::_,_,_=>by rw [cmpL];omega
 | _::_,[],_,h,_=>by rw [cmpL] at h;omega
 | _::_,_::_,[],_,h=>by rw [cmpL] at h;omega
 | a::a1,b::bs,c::cs,h1,h2=>by
  rw [cmpL] at h1 h2 ⊢
  by_cases x1:a<b
  ·by_cases y1:b<c
   ·rw [if_pos (by omega)];omega
   ·rw [if_neg y1] at h2
    by_cases y2:c<b
    ·rw [if_pos y2] at h2;omega
    ·rw [if_pos (by omega)];omega
  ·rw [if_neg x1] at h1
   by_cases x2:b<a
   ·rw [if_pos x2] at h1;omega
   ·rw [if_neg x2] at h1
    by_cases y1:b<c
    ·rw [if_pos (by omega)];omega
    ·rw [if_neg y1] at h2
     by_cases y2:c<b
     ·rw [if_pos y2] at h2;omega
     ·rw [if_neg y2] at h2
      rw [if_neg (by omega),if_neg (by omega)]
      exact uE h1 h2
def AJ (a b:List Int):Prop:=cmpL a b<0
def AK (a b:List Int):Prop:=cmpL a b<=0
theorem YK {a b c:List Int} (h1:AK a b) (h2:AK b c):AK a c:=by
 unfold AK at *;by_cases e1:cmpL a b=0
 ·rw [nE e1];exact h2
 ·by_cases e2:cmpL b c=0
  ·rw [<- nE e2];exact h1
  ·have h3:cmpL a b<0:=by omega
   (have h4:cmpL b c<0:=by omega);exact Int.le_of_lt (uE h3 h4)
def IB (a:List Int):List (List Int)->List (List Int)
 | []=>[a]
 | b::l=>if cmpL a b<=0 then a::b::l else b::IB a l
def J7:List (List Int)->List (List Int)
 | []=>[]
 | a::l=>IB a (J7 l)
theorem Fj (a:List Int):∀l:List (List Int),(IB a l).Perm (a::l)
 | []=>mM _
 | b::l=>by
  rw [IB]
  split
  ·exact mM _
  ·exact (List.Perm.cons b (Fj a l)).trans (List.Perm.swap a b l)
theorem ye:∀l:List (List Int),(J7 l).Perm l
 | []=>mM _
 | a::l=>(Fj a _).trans (List.Perm.cons a (ye l))
theorem GY (a:List Int):∀ {l:List (List Int)},l.Pairwise AK->(IB a l).Pairwise AK
 | [],_=>by simp [IB]
 | b::l,h=>by
  rw [IB]
  rw [iB] at h
  split
  ·rename_i h1
   refine iB.2 ⟨fun c hc=>?_,iB.2 h⟩
   rcases bA.1 hc with rfl | hc
   ·exact h1
   ·exact YK h1 (h.1 c hc)
  ·rename_i h1
   refine iB.2 ⟨fun c hc=>?_,GY a h.2⟩
   rcases bA.1 ((Fj a l).mem_iff.1 hc) with rfl | hc
   ·unfold AK;have:=oV c b;omega
   ·exact h.1 c hc
theorem zv:∀l:List (List Int),(J7 l).Pairwise AK
 | []=>List.Pairwise.nil
 | a::l=>GY a (zv l)
theorem Wj {a b:List (List Int)} (hp:a.Perm b) (h:a.Pairwise AK):a=J7 b :=
 List.Perm.eq_of_pairwise (le:=AK) (fun x y _ _ h1 h2=>nE (by unfold AK at h1 h2;have:=oV x y;omega)) h (zv b) (hp.trans (ye b).symm)
def jd:List (List Int)->List (List Int)
 | []=>[]
 | a::l=>if l.head? = some a then jd l else a::jd l
theorem vF {x:List Int}:∀ {l:List (List Int)},x∈jd l↔x∈l
 | []=>by rw [jd]
 | a::l=>by
  rw [jd]
  split
  ·rename_i h
   rw [vF,bA]
   constructor
   ·exact .inr
   ·rintro (rfl | h1)
    ·exact List.mem_of_head? h
    ·exact h1
  ·rw [bA,bA,vF]
theorem BB:∀ {l:List (List Int)},l.Pairwise AK->(jd l).Pairwise AJ
 | [],_=>List.Pairwise.nil
 | a::l,h=>by
  rw [iB] at h
  rw [jd]
  split
  ·exact BB h.2
  ·rename_i hne
   refine iB.2 ⟨fun c hc=>?_,BB h.2⟩
   have hc:=vF.1 hc
   have h1:=h.1 c hc
   unfold AJ
   unfold AK at h1
   by_cases e:cmpL a c=0
   ·exfalso
    have e:=nE e
    subst e
    cases l with
    | nil=>cases hc
    | cons b l =>
     rw [List.head?_cons] at hne
     have h2:=h.1 b (by simp)
     rcases bA.1 hc with rfl | hc
     ·exact hne rfl
     ·have h3:=(iB.1 h.2).1 _ hc
      unfold AK at h2 h3
      have:=oV a b
      exact hne (by rw [nE (a:=a) (b:=b) (by omega)])
   ·omega
theorem Lj {a b:List (List Int)} (ha:a.Pairwise AJ) (hb:b.Pairwise AJ) (h:∀x,x∈a↔x∈b):a=b:=by
 have nd:∀ {q:List (List Int)},q.Pairwise AJ->q.Nodup:=fun hq=>hq.imp fun {x y} h1 e=>by subst e;unfold AJ at h1;rw [AH] at h1;omega
 have hp:a.Perm b:=(Eo (nd ha) (nd hb)).2 h;exact List.Perm.eq_of_pairwise (le:=AJ) (fun x y _ _ h1 h2=>by unfold AJ at h1 h2;have:=oV x y;omega) ha hb hp
def wX (l:List (List Int)):List (List Int):=jd (J7 l)
theorem zw {x:List Int} {l:List (List Int)}:x∈wX l↔x∈l:=by unfold wX;rw [vF];exact (ye l).mem_iff
theorem sX (l:List (List Int)):(wX l).Pairwise AJ:=BB (zv l)
theorem Wk {a b:List (List Int)} (h:∀x,x∈a↔x∈b):wX a=wX b:=Lj (sX a) (sX b) fun x=>by rw [zw,zw];exact h x
end
section
structure bB (amd:List ByteArray) (t:ax) (S:Nat->List Int):Prop where
 nm:∀k,k<amd.length->bq (gs amd k).data.toList=true
 nd:∀j k,j<k->k<amd.length->gs amd k≠gs amd j
 n0:0<t.ps.length
 n64:t.ps.length<=64
 len:t.ns.length=t.ps.length
 root:gi t.ps 0 = -1
 top:∀b:Nat,b<amd.length->(b:Int)∈S 0
 bd:∀i,i<t.ps.length->(∀x∈S i,0<=x/\x<(amd.length:Int))/\S i≠[]
 par:∀i,0<i->i<t.ps.length->∃p,p<i/\gi t.ps i=(p:Int)/\(∀x∈S i,x∈S p)/\∀j,j<t.ps.length->j≠i->(∀x∈S i,x∈S j)->∀x∈S p,x∈S j
 inj:∀i j,i<t.ps.length->j<t.ps.length->(∀x∈S i,x∈S j)->(∀x∈S j,x∈S i)->i=j
 ajs:∀b:Nat,b<amd.length->∃i,i<t.ps.length/\S i=[(b:Int)]
 nms:∀i,i<t.ps.length->gs t.ns i=M4 amd (S i)
 jM:∀i,i<t.ps.length->(S i).Nodup
section
variable {amd:List ByteArray} {t:ax} {S:Nat->List Int}
theorem bB.Ll (h:bB amd t S) {i c:Nat} (hc:c<t.ps.length) (h0:0<c) (e:gi t.ps c=(i:Int)):(∀x∈S c,x∈S i)/\i<c:=by
 obtain ⟨p,p1,p2,p3,_⟩:=h.par c h0 hc;rw [e] at p2;have:i=p:=by omega
 subst this;exact ⟨p3,p1⟩
theorem bB.meet (h:bB amd t S) {i:Nat} (hi:i<t.ps.length):∃x,x∈S i:=CP _ (h.bd i hi).2
theorem bB.kid (h:bB amd t S) {i:Nat} (hi:i<t.ps.length):∀(d p:Nat),p<=d->p<t.ps.length->p≠i->(∀x∈S p,x∈S i)->∃c,c<t.ps.length/\i<c/\gi t.ps c=(i:Int)/\∀x∈S p,x∈S c:=by
 have z:∀p,p<t.ps.length->p≠i->(∀x∈S p,x∈S i)->0<p:=fun p hp hne hs=>by
  rcases BZ p with e | e
  ·subst e
   refine absurd (h.inj 0 i hp hi hs fun x hx=>?_) hne;obtain ⟨x0,xn⟩:=(h.bd i hi).1 x hx;have:=h.top x.toNat (by omega)
   rwa [Int.toNat_of_nonneg x0] at this
  ·exact e
 intro d
 induction d with
 | zero=>intro p hd hp hne hs;have:=z p hp hne hs;omega
 | succ d ih =>
  intro p hd hp hne hs;obtain ⟨q,q1,q2,q3,q4⟩:=h.par p (z p hp hne hs) hp;by_cases c:q=i
  ·subst c;exact ⟨p,hp,q1,q2,fun x hx=>hx⟩
  ·obtain ⟨k,k1,k2,k3,k4⟩:=ih q (by omega) (by omega) c (q4 i hi (fun e=>hne e.symm) hs)
   exact ⟨k,k1,k2,k3,fun x hx=>k4 x (q3 x hx)⟩
theorem bB.QT (h:bB amd t S) {i:Nat} (hi:i<t.ps.length) (h2:(S i).length≠1) {x:Int} (hx:x∈S i):∃c,c<t.ps.length/\i<c/\gi t.ps c=(i:Int)/\x∈S c:=by
 obtain ⟨x0,xn⟩:=(h.bd i hi).1 x hx;obtain ⟨k,rfl⟩:∃k:Nat,x=k:=⟨x.toNat,by omega⟩;obtain ⟨p,hp,e⟩:=h.ajs k (by omega);have hne:p≠i:=fun q=>by subst q;rw [e] at h2;exact h2 rfl
 obtain ⟨c,c1,c2,c3,c4⟩:=h.kid hi p p (ah _) hp hne (fun y hy=>by rw [e,cN] at hy;subst hy;exact hx);exact ⟨c,c1,c2,c3,c4 _ (by rw [e];simp)⟩
theorem bB.y9 (h:bB amd t S) {i:Nat} (hi:i<t.ps.length):isIn t.ps i=true↔(S i).length≠1:=by
 unfold isIn Gq;rw [dx];constructor
 ·rintro ⟨c,hc,e⟩ h1
  have hc:=bu.1 hc;rw [eF,decide_eq_true_eq,beq_iff_eq] at e;obtain ⟨s1,s2⟩:=h.Ll hc e.1 e.2;obtain ⟨b,hb⟩:=zZ.1 h1;obtain ⟨z,hz⟩:=h.meet hc;have hzb:=s1 z hz;rw [hb,cN] at hzb;have:=h.inj i c hi hc (fun x hx=>by rw [hb,cN] at hx;rw [hx,<- hzb];exact hz) s1;omega
 ·intro h1
  obtain ⟨x,hx⟩:=h.meet hi;obtain ⟨c,c1,c2,c3,_⟩:=h.QT hi h1 hx;exact ⟨c,bu.2 c1,by rw [c3];simp;omega⟩
theorem bB.one (h:bB amd t S) {i:Nat} (hi:i<t.ps.length) (h1:(S i).length=1):∃b:Nat,b<amd.length/\S i=[(b:Int)]/\gs t.ns i=gs amd b:=by
 obtain ⟨x,hx⟩:=zZ.1 h1;obtain ⟨x0,xn⟩:=(h.bd i hi).1 x (by rw [hx];simp);refine ⟨x.toNat,by omega,by rw [hx];congr 1;omega,?_⟩;rw [h.nms i hi,M4,if_pos h1,hx];rfl
theorem bB.big (h:bB amd t S) {i:Nat} (hi:i<t.ps.length) (h1:(S i).length≠1):(gs t.ns i).size=0:=by
 rw [h.nms i hi,M4,if_neg h1];rfl
theorem bB.pok (h:bB amd t S):jB t.ps=true:=by
 unfold jB;rw [s8];intro i hi;have hi:=bu.1 hi;unfold oJ;by_cases c:i=0
 ·subst c;rw [h.root];rfl
 ·rw [if_neg c]
  obtain ⟨p,h1,h2,_⟩:=h.par i (by omega) hi;rw [h2];simp;omega
theorem bB.tree (h:bB amd t S):aA t=0:=by
 have hp:=h.n0;have h64:=h.n64;unfold aA;rw [if_neg (by omega),if_neg (by omega),if_neg (by rw [h.len];simp),if_pos h.pok];refine cG fun i hi=>?_;unfold mg;by_cases h1:(S i).length=1
 ·rw [if_neg (fun q=>(h.y9 hi).1 q h1)]
  obtain ⟨b,hb,e,en⟩:=h.one hi h1;have hn:=h.nm b hb;rw [en,if_pos hn,if_neg];intro q;unfold cW at q;obtain ⟨j,hj,e2⟩:=dx.1 q;have hj:=bu.1 hj;have e2:=of_decide_eq_true e2;rw [en] at e2;by_cases j1:(S j).length=1
  ·obtain ⟨b',hb',e',en'⟩:=h.one (show j<t.ps.length by omega) j1
   rw [en'] at e2;have:b'=b:=by
    rcases oo b' b with c | c | c
    ·exact absurd e2.symm (h.nd b' b c hb)
    ·exact c
    ·exact absurd e2 (h.nd b b' c hb')
   subst this;have:=h.inj j i (by omega) hi (by rw [e',e];exact fun x hx=>hx) (by rw [e',e];exact fun x hx=>hx);omega
  ·have:=h.big (show j<t.ps.length by omega) j1
   rw [e2] at this;exact gK hn this
 ·rw [if_pos ((h.y9 hi).2 h1),if_pos (h.big hi h1)]
theorem bB.JY (h:bB amd t S) {i:Nat} (hi:i<t.ps.length) (h1:(S i).length=1):bL t.ps i=[]:=by
 rw [FX];intro c hc;obtain ⟨c1,c2,c3⟩:=cK.1 hc;refine (h.y9 hi).1 ?_ h1;unfold isIn Gq;rw [dx];exact ⟨c,bu.2 c1,by rw [c3];simp;omega⟩
theorem bB.leaves (h:bB amd t S):∀d i,t.ps.length - i<=d->i<t.ps.length->Lv amd (bE (fA t) (dI t) i) (S i)
 | 0,i,hd,hi=>by omega
 | d+1,i,hd,hi=>by
  have ht:=h.tree
  intro y
  rw [fh (ew ht).wf hi,jW,show (fA t).nm i=gs t.ns i from rfl]
  by_cases h1:(S i).length=1
  ·obtain ⟨b,hb,e,en⟩:=h.one hi h1
   rw [h.JY hi h1,List.map_nil,en,nA (gK (h.nm b hb)),e]
   constructor
   ·intro hy;exact ⟨b,by simp,by simpa using hy⟩
   ·rintro ⟨b',hb',rfl⟩
    have:b'=b:=by have:=cN.1 hb';omega
    subst this;simp
  ·rw [iX (h.big hi h1),iA]
   constructor
   ·rintro ⟨q,hq,hy⟩
    obtain ⟨c,hc,rfl⟩:=bI.1 hq
    obtain ⟨c1,c2,c3⟩:=cK.1 hc
    obtain ⟨b,hb,e⟩:=(bB.leaves h d c (by omega) c1 y).1 hy
    exact ⟨b,(h.Ll c1 (by omega) c3).1 _ hb,e⟩
   ·rintro ⟨b,hb,rfl⟩
    obtain ⟨c,c1,c2,c3,c4⟩:=h.QT hi h1 hb
    exact ⟨_,bI.2 ⟨c,cK.2 ⟨c1,c2,c3⟩,rfl⟩,(bB.leaves h d c (by omega) c1 _).2 ⟨b,c4,rfl⟩⟩
theorem bB.part (h:bB amd t S) {i:Nat} (hi:i<t.ps.length):rz (bE (fA t) (dI t) i):=by
 have ht:=h.tree;unfold rz;rw [yt (ew ht).wf hi,Ap (ew ht).wf hi,jW,show (fA t).nm i=gs t.ns i from rfl];by_cases h1:(S i).length=1
 ·obtain ⟨b,hb,e,en⟩:=h.one hi h1
  rw [h.JY hi h1,en];exact ⟨fun q=>absurd rfl q,fun _=>h.nm b hb,by simp⟩
 ·have rB:∀x∈S i,∃c∈bL t.ps i,x∈S c:=fun x hx=>by
   obtain ⟨c,c1,c2,c3,c4⟩:=h.QT hi h1 hx
   exact ⟨c,cK.2 ⟨c1,c2,c3⟩,c4⟩
  refine ⟨fun _=>h.big hi h1,fun q=>?_,fun q=>?_⟩
  ·have q:bL t.ps i=[]:=by simpa using q
   obtain ⟨x,hx⟩:=h.meet hi
   obtain ⟨c,hc,_⟩:=rB x hx
   rw [q] at hc;cases hc
  ·rw [aD] at q
   obtain ⟨c,hc⟩:=zZ.1 q
   obtain ⟨c1,c2,c3⟩:=cK.1 (show c∈bL t.ps i by rw [hc];simp)
   have:=h.inj i c hi c1 (fun x hx=>by
    obtain ⟨c',hc',hx'⟩:=rB x hx
    rw [hc,cN] at hc'
    subst hc';exact hx') (h.Ll c1 (by omega) c3).1
   omega
theorem bB.QI (h:bB amd t S):mR (jE t):=by
 have ht:=h.tree;refine ⟨(rj ht).nd,fun s hs=>?_⟩;rw [nM ht] at hs;obtain ⟨j,hj,rfl⟩:=bI.1 hs;exact h.part (iO ht hj)
theorem bB.node (h:bB amd t S):∀(d i:Nat),i<=d->i<t.ps.length->bE (fA t) (dI t) i∈bh (jE t)
 | d,i,hd,hi=>by
  have ht:=h.tree
  by_cases h0:i=0
  ·subst h0;exact dm _
  ·obtain ⟨p,p1,p2,_⟩:=h.par i (by omega) hi
   cases d with
   | zero=>omega
   | succ d =>
    have ih:=bB.node h d p (by omega) (by omega)
    refine kD _ ih ?_
    rw [fh (ew ht).wf (show p<t.ps.length by omega),jW]
    exact oA (bI.2 ⟨i,cK.2 ⟨hi,p1,p2⟩,rfl⟩)
theorem bB.parts (h:bB amd t S):(∀s∈bh (jE t),∃i,i<t.ps.length/\Lv amd s (S i))/\∀i,i<t.ps.length->∃s∈bh (jE t),Lv amd s (S i):=by
 have ht:=h.tree;constructor
 ·intro s hs
  rw [nM ht] at hs;obtain ⟨j,hj,rfl⟩:=bI.1 hs;have:=iO ht hj;exact ⟨j,this,h.leaves _ j (ah _) this⟩
 ·exact fun i hi=>⟨_,h.node i i (ah _) hi,h.leaves _ i (ah _) hi⟩
end
end
section
section
variable {ps:List Int}
theorem YL (hp:jB ps=true) (h:0<ps.length):gi ps 0 = -1:=by
 unfold jB at hp;have h1:=s8.1 hp 0 (bu.2 h);unfold oJ at h1;simpa using h1
end
end
section
def QU (s:ByteArray):Int:=match tQ s.data.toList with
 | none=>3
 | some r=>aA (flat r)
def Nd (s:ByteArray):ax:=match tQ s.data.toList with
 | none=>⟨[],[]⟩
 | some r=>if aA (flat r)≠0 then ⟨[],[]⟩ else flat r
end
section
open Go.RowKit Go.Deep
@[go_sem high] theorem aiA (w:World) (ts:Array TypeId) (t:TypeId) (k:IntKind):(Builtin.max_ ts t #[.int k 0,.int k 0,.int k 0,.int k 0]).run Tryz.prog w=.ok (.int k 0) w:=by
 simp [Builtin.max_,Builtin.max2]
@[go_sem high] theorem aiB (w:World) (ts:Array TypeId) (t:TypeId) (k:IntKind):(Builtin.max_ ts t #[.int k 0,.int k 0,.int k 0,.int k 0,.int k 0]).run Tryz.prog w=.ok (.int k 0) w:=by
 simp [Builtin.max_,Builtin.max2]
@[go_sem high] theorem aiC (w:World) (ts:Array TypeId) (t:TypeId) (k:IntKind):(Builtin.max_ ts t #[.int k 0,.int k 0,.int k 0,.int k 0,.int k 0,.int k 0]).run Tryz.prog w=.ok (.int k 0) w:=by
 simp [Builtin.max_,Builtin.max2]
@[go_sem high] theorem aiD (w:World) (ts:Array TypeId) (t:TypeId) (k:IntKind):(Builtin.max_ ts t #[.int k 0,.int k 0,.int k 0,.int k 0,.int k 0,.int k 0,.int k 0]).run Tryz.prog w=.ok (.int k 0) w:=by
 simp [Builtin.max_,Builtin.max2]
end
end Go.Proofs.YthgabkgmkolobaaGreat
namespace Go.Proofs
open Go.Shelf
def Tryz.idxA_ren:Go.Shelf.Ren:=⟨fun | 153=>166 | 152=>217 | 226=>218 | 227=>219 | 228=>220 | 137=>261 | 119=>262 | 224=>263 | 225=>264 | 217=>277 | 266=>290 | n=>n,fun | 9=>9 | 3=>3 | 4=>4 | 5=>5 | 21=>21 | 117=>226 | 116=>225 | 0=>0 | 46=>154 | 124=>262 | n=>n,fun | n=>n⟩
theorem Tryz.idxA:Go.Proofs.Lays.n153 Tryz.prog Tryz.idxA_ren:={
 mixed:=by kernel_rfl
 f119:=Tryz.func262.trans (congrArg some (by kernel_rfl))
 f137:=Tryz.func261.trans (congrArg some (by kernel_rfl))
 f152:=Tryz.func217.trans (congrArg some (by kernel_rfl))
 f153:=Tryz.func166.trans (congrArg some (by kernel_rfl))
 f217:=Tryz.func277.trans (congrArg some (by kernel_rfl))
 f224:=Tryz.func263.trans (congrArg some (by kernel_rfl))
 f225:=Tryz.func264.trans (congrArg some (by kernel_rfl))
 f226:=Tryz.func218.trans (congrArg some (by kernel_rfl))
 f227:=Tryz.func219.trans (congrArg some (by kernel_rfl))
 f228:=Tryz.func220.trans (congrArg some (by kernel_rfl))
 f266:=Tryz.func290.trans (congrArg some (by kernel_rfl))
 t0:=Tryz.underlying0
 a0:=Tryz.isAgg0
 z0:=Tryz.sizeOf0
 v0:=Tryz.zeroValue0
 t3:=Tryz.underlying3
 a3:=Tryz.isAgg3
 z3:=Tryz.sizeOf3
 v3:=Tryz.zeroValue3
 t4:=Tryz.underlying4
 a4:=Tryz.isAgg4
 z4:=Tryz.sizeOf4
 v4:=Tryz.zeroValue4
 t5:=Tryz.underlying5
 a5:=Tryz.isAgg5
 z5:=Tryz.sizeOf5
 v5:=Tryz.zeroValue5
 t9:=Tryz.underlying9
 a9:=Tryz.isAgg9
 z9:=Tryz.sizeOf9
 v9:=Tryz.zeroValue9
 t21:=Tryz.underlying21
 a21:=Tryz.isAgg21
 z21:=Tryz.sizeOf21
 v21:=Tryz.zeroValue21
 t46:=Tryz.underlying154
 a46:=Tryz.isAgg154
 z46:=Tryz.sizeOf154
 v46:=Tryz.zeroValue154
 t116:=Tryz.underlying225
 a116:=Tryz.isAgg225
 z116:=Tryz.sizeOf225
 t117:=Tryz.underlying226
 a117:=Tryz.isAgg226
 z117:=Tryz.sizeOf226
 v117:=Tryz.zeroValue226
 t124:=Tryz.underlying262
 a124:=Tryz.isAgg262
 z124:=Tryz.sizeOf262
 v124:=Tryz.zeroValue262 }
end Go.Proofs
