/- Plain: the table as the reference makes it, in place. Plain: valid stemmata as the law of .. -/
import Derived.WalkKit
import Derived.WalkSpells
import Derived.WalkLawsBesides
import Derived.Deep.OwnRows
import Derived.Deep.QuietTactic
import Derived.BigQuiet
import Derived.Lib.Hide
import Derived.Maps.AppendAt
import Derived.Deep.AppendLies
import Derived.Test.YtfomhlbhcifgbaaGreatDoorQ2
import Derived.Test.YtfomhlbhcifgbaaGreatDoorQ1
set_option maxRecDepth 100000
set_option maxHeartbeats 400000
namespace Go.Proofs.YtfomhlbhcifgbaaGreatDoor
section
def part (t:aA) (st:List Int) (cs:List (List Int)) (k r s:Nat):Int:=fk t st r s+aY (fun c=>if k<=c/\r<c/\gi t.ps c=r then kX t st cs s c else 0) t.ps.length
end
section
def xB (P:List (List Int)):Prop:=∀i,i<P.length->(∀p∈gl P i,0<=p/\p<i)/\∀k,k+1<(gl P i).length->gi (gl P i) k<gi (gl P i) (k+1)
structure fD (ns:List ByteArray) (P:List (List Int)):Prop where
 pos:0<ns.length
 le:ns.length<=7
 len:P.length=ns.length
 nm:∀i,i<ns.length->bD (gs ns i).data.toList=true
 nd:∀i j,i<j->j<ns.length->gs ns i≠gs ns j
 row:xB P
end
section
def Fp (a b:Nat):Int:=if a=b then 0 else 1
def lT (n a:Nat):List Int:=(List.range n).map (Fp a)
def bT (n:Nat):List (List Int):=(List.range n).map (lT n)
theorem tT (n a:Nat):(lT n a).length=n:=by simp [lT]
theorem kY (n:Nat):(bT n).length=n:=by simp [bT]
theorem Bg {n a b:Nat} (h:b<n):gi (lT n a) b=Fp a b:=by simp [gi,lT,h]
theorem Fq {n a:Nat} (h:a<n):gl (bT n) a=lT n a:=by simp [gl,bT,h]
end
section
open Go.RowKit Go.Deep

def aB (S:Nat->Prop) (w:World) (v:Value) (n:Nat) (f:Nat->Value):Prop :=
 ∃p cap,v=.slice p n cap/\n<=cap/\(n=0\/∃b off,p=some ⟨b,off,none⟩/\S b/\∀k,k<n->w.cell? ⟨b,off+k,none⟩=some (f k))
def af (S:Nat->Prop) (w:World) (v:Value) (xs:List Int):Prop:=aB S w v xs.length (fun k=>.int .i64 (gi xs k))
def aC (S:Nat->Prop) (w:World) (v:Value) (xs:List ByteArray):Prop:=aB S w v xs.length (fun k=>.string (gs xs k))
def aS (S:Nat->Prop) (w:World) (v:Value) (xs:List (List Int)):Prop:=∃f,aB S w v xs.length f/\∀k,k<xs.length->af S w (f k) (gl xs k)
def aJ (S:Nat->Prop) (w:World) (v:Value) (t:aA):Prop:=∃P N,v=.agg #[P,N]/\af S w P t.ps/\aC S w N t.ns

def Kept (S:Nat->Prop) (w w':World):Prop:=∀b,S b->b<w.heap.size->w'.heap[b]? = w.heap[b]?
def Any (_:Nat):Prop:=True

theorem aB.keep {S:Nat->Prop} {w w':World} {v:Value} {n:Nat} {f:Nat->Value} (h:aB S w v n f) (k:Kept S w w'):aB S w' v n f:=by
 obtain ⟨p,cap,rfl,hn,h⟩:=h;refine ⟨p,cap,rfl,hn,?_⟩;rcases h with h | ⟨b,off,rfl,hS,h⟩
 ·exact .inl h
 ·refine .inr ⟨b,off,rfl,hS,fun i hi=>?_⟩
  have hlt:b<w.heap.size:=fS w _ (h i hi);rw [cW (a:=⟨b,off+i,none⟩) (k b hS hlt)];exact h i hi
theorem af.keep {S:Nat->Prop} {w w':World} {v:Value} {xs:List Int} (h:af S w v xs) (k:Kept S w w'):af S w' v xs:=aB.keep h k
theorem aC.keep {S:Nat->Prop} {w w':World} {v:Value} {xs:List ByteArray} (h:aC S w v xs) (k:Kept S w w'):aC S w' v xs:=aB.keep h k
theorem aS.keep {S:Nat->Prop} {w w':World} {v:Value} {xs:List (List Int)} (h:aS S w v xs) (k:Kept S w w'):aS S w' v xs:=by
 obtain ⟨f,h,hr⟩:=h;exact ⟨f,h.keep k,fun i hi=>(hr i hi).keep k⟩
theorem aJ.keep {S:Nat->Prop} {w w':World} {v:Value} {t:aA} (h:aJ S w v t) (k:Kept S w w'):aJ S w' v t:=by
 obtain ⟨P,N,rfl,h1,h2⟩:=h;exact ⟨P,N,rfl,h1.keep k,h2.keep k⟩
theorem aB.sub {S T:Nat->Prop} {w:World} {v:Value} {n:Nat} {f:Nat->Value} (h:aB S w v n f) (k:∀b,S b->b<w.heap.size->T b):aB T w v n f:=by
 obtain ⟨p,cap,rfl,hn,h⟩:=h;refine ⟨p,cap,rfl,hn,?_⟩;rcases h with h | ⟨b,off,rfl,hS,h⟩
 ·exact .inl h
 ·by_cases hn0:n=0
  ·exact .inl hn0
  ·exact .inr ⟨b,off,rfl,k b hS (fS w _ (h 0 (by omega))),h⟩
theorem af.sub {S T:Nat->Prop} {w:World} {v:Value} {xs:List Int} (h:af S w v xs) (k:∀b,S b->b<w.heap.size->T b):af T w v xs:=aB.sub h k
theorem aC.sub {S T:Nat->Prop} {w:World} {v:Value} {xs:List ByteArray} (h:aC S w v xs) (k:∀b,S b->b<w.heap.size->T b):aC T w v xs:=aB.sub h k
theorem aS.sub {S T:Nat->Prop} {w:World} {v:Value} {xs:List (List Int)} (h:aS S w v xs) (k:∀b,S b->b<w.heap.size->T b):aS T w v xs:=by
 obtain ⟨f,h,hr⟩:=h;exact ⟨f,h.sub k,fun i hi=>(hr i hi).sub k⟩
theorem aJ.sub {S T:Nat->Prop} {w:World} {v:Value} {t:aA} (h:aJ S w v t) (k:∀b,S b->b<w.heap.size->T b):aJ T w v t:=by
 obtain ⟨P,N,rfl,h1,h2⟩:=h;exact ⟨P,N,rfl,h1.sub k,h2.sub k⟩
theorem Kept.Ae {S:Nat->Prop} {a b:World} {B:Nat} (h:Below B a b) (k:∀i,S i->i<a.heap.size->i<B):Kept S a b :=
 fun i hi hl=>h.block i (k i hi hl)
theorem Kept.below {S:Nat->Prop} {a b:World} (h:Below a.heap.size a b):Kept S a b:=fun i _ hl=>h.block i hl
theorem aB.open {S:Nat->Prop} {w:World} {v:Value} {n:Nat} {f:Nat->Value} (h:aB S w v n f) :
  ∃p cap,v=.slice p n cap/\n<=cap/\∀k,k<n->∃b off,p=some ⟨b,off,none⟩/\w.cell? ⟨b,off+k,none⟩=some (f k):=by
 obtain ⟨p,cap,rfl,hn,h⟩:=h;refine ⟨p,cap,rfl,hn,fun k hk=>?_⟩;rcases h with h | ⟨b,off,rfl,_,h⟩
 ·omega
 ·exact ⟨b,off,rfl,h k hk⟩
theorem below_drewN {B:Nat} {a w:World} (h:Below B a w) (n:Nat):Below B a (w.drewN n):=⟨h.os,h.tape,h.output,h.size,h.block⟩
theorem aU {k:IntKind} {a b:Int} (h:a=b):Ending.returned (.int k a)=.returned (.int k b):=by rw [h]
theorem bu {a b:Bool} (h:a=b):Ending.returned (.bool a)=.returned (.bool b):=by rw [h]
end
section
theorem Dt (f:Nat->Nat->Int) (m:Nat):∀n,aY (fun a=>aY (fun b=>f a b) m) n=aY (fun b=>aY (fun a=>f a b) n) m
 | 0=>by simp only [aY];exact (kW m).symm
 | n+1=>by
  rw [dS,Dt f m n,<- kU]
  rfl
theorem Jc {t:aA} (hok:jt t.ps=true) (cs:List (List Int)) (all:List Int):sQ t cs all=aY (fun c=>if 0<c then pE cs all (gi t.ps c).toNat c else 0) t.ps.length:=by
 unfold sQ E1;rw [bS (fun k _=>xA t cs all k),Dt];refine bS fun c hc=>?_;obtain ⟨h1,h2,h3⟩:=pV hok hc;by_cases h0:0<c
 ·rw [if_pos h0]
  have hp:=h2 h0;obtain ⟨p,Fs⟩:=o7 hp;have h4:∀k,k<t.ps.length->(if k<c/\gi t.ps c=(k:Int) then pE cs all k c else 0)=if k=p then pE cs all p c else 0:=fun k _=>by
   by_cases e:k=p
   ·subst e;rw [if_pos ⟨by omega,Fs⟩,if_pos rfl]
   ·rw [if_neg (by omega),if_neg e]
  rw [bS h4,ry,if_pos (by omega),Fs];rfl
 ·rw [if_neg h0]
  have h4:∀k,k<t.ps.length->(if k<c/\gi t.ps c=(k:Int) then pE cs all k c else 0)=0:=fun k _=>if_neg (by omega);rw [bS h4,kW]
def dd:List Int->List Int
 | []=>[]
 | x::l=>if x∈dd l then dd l else x::dd l
theorem nT {x:Int}:∀ {l:List Int},x∈dd l↔x∈l
 | []=>Iff.rfl
 | y::l=>by
  unfold dd
  split
  ·rename_i h
   rw [nT (l:=l),bQ]
   exact ⟨.inr,fun h2=>h2.elim (fun e=>by rw [e];exact nT.1 h) id⟩
  ·rw [bQ,bQ,nT (l:=l)]
theorem rA:∀l:List Int,(dd l).Nodup
 | []=>List.nodup_nil
 | y::l=>by
  unfold dd
  split
  ·exact rA l
  ·rename_i h;exact sK.2 ⟨h,rA l⟩
theorem Sy {l m:List Int} (h:∀x∈l,x∈m):(dd l).length<=(dd m).length :=
 (rA l).length_le_of_subset fun x hx=>nT.2 (h x (nT.1 hx))
theorem Mh {n a b:Nat} (ha:a<n) (hb:b<n):kE (bT n) a b=if a=b then 0 else 1:=by
 unfold kE;rw [Fq ha,Bg hb];rfl
end
section
theorem Vk:nS (bT 16)=0:=by decide +kernel
theorem ZB {st:List Int} {m:Int} (h:iQ st (-1) m=false) {k:Nat} (hk:k<st.length):-1<=gi st k/\gi st k<m:=by
 have:=any_false h hk;simp at this;omega
theorem Fu {l:List Int} {x:Int} (h:x∈l):∃k,k<l.length/\gi l k=x:=by
 obtain ⟨k,hk,e⟩:=List.mem_iff_getElem.1 h;exact ⟨k,hk,by simp [gi,hk,e]⟩
section
variable {t:aA} {st:List Int}
theorem Vl {n:Nat} {all:List Int} {N:Nat} (ha:vD N n all) {p c:Nat} (hp:p<N) (hc:c<N):pE (bT n) all p c=if gi all p=gi all c then 0 else 1:=by
 obtain ⟨a1,a2⟩:=ha.2 p hp;obtain ⟨b1,b2⟩:=ha.2 c hc;unfold pE;rw [Mh (by omega) (by omega)];by_cases e:gi all p=gi all c
 ·rw [if_pos e,if_pos (by rw [e])]
 ·rw [if_neg e,if_neg (by omega)]
theorem T7 (ht:aF t=0) {n:Nat} {all:List Int} (ha:vD t.ps.length n all):sQ t (bT n) all=aY (fun c=>if 0<c then (if gi all (gi t.ps c).toNat=gi all c then 0 else 1) else 0) t.ps.length:=by
 have hok:=(aG ht).2.2.2.1;rw [Jc hok];refine bS fun c hc=>?_;by_cases h0:0<c
 ·obtain ⟨h1,h2,_⟩:=pV hok hc
  have:=h2 h0;rw [if_pos h0,if_pos h0,Vl ha (by omega) hc]
 ·rw [if_neg h0,if_neg h0]
def bJ (st:List Int):List Int:=st.filter fun s=>decide (0<=s)
theorem Mi {ns:List ByteArray} (st:List Int) {k:Nat} (hk:(gs ns k).size=0):ig ns st k = -1:=by
 unfold ig;refine if_neg fun h=>?_;obtain ⟨h1,h2⟩:=pU h;obtain ⟨j,e,_,h3⟩:=mW h1;rw [h2] at e;have:k=j:=by omega
 subst this;exact h3 hk
end
end
section
open Go.RowKit Go.Deep
def au (base:Nat) (e:TypeId) (w:World) (v:Value) (vs:List Value):Prop:=w.ownsRow base e 1 v vs.length vs
theorem au.nil (base:Nat) (e:TypeId) (w:World):au base e w (.slice none 0 0) []:=World.ownsRow_nil _ _ _ _
theorem aB.congr {S:Nat->Prop} {w:World} {v:Value} {n:Nat} {f g:Nat->Value} (h:aB S w v n f) (e:∀k,k<n->f k=g k):aB S w v n g:=by
 obtain ⟨p,cap,rfl,hn,h⟩:=h;refine ⟨p,cap,rfl,hn,?_⟩;rcases h with h | ⟨b,off,rfl,hS,h⟩
 ·exact .inl h
 ·exact .inr ⟨b,off,rfl,hS,fun k hk=>by rw [<- e k hk];exact h k hk⟩
theorem au.xC {base:Nat} {e:TypeId} {w:World} {v:Value} {vs:List Value} (h:au base e w v vs):aB (fun b=>base<=b) w v vs.length (fun k=>vs.getD k undef):=by
 rcases h.2 with ⟨rfl,h0⟩ | ⟨g,cap,cur,rfl,hg,hc,hn,_,_,ht⟩
 ·exact ⟨none,0,by rw [h0],by omega,.inl h0⟩
 ·refine ⟨_,cap,rfl,hn,.inr ⟨g,0,rfl,hg,fun k hk=>?_⟩⟩
  have:=World.ownsRow.cells h (g:=g) rfl k vs[k] (by simp [hk]);have Af:(⟨g,0,none⟩:Addr).add k=⟨g,0+k,none⟩:=by unfold Addr.add;split<;>simp_all
  rw [Af] at this;rw [this];simp [hk]
theorem au.ints {base:Nat} {e:TypeId} {w:World} {v:Value} {xs:List Int} (h:au base e w v (xs.map (Value.int .i64))):af (fun b=>base<=b) w v xs:=by
 have:=h.xC;rw [aD] at this;exact this.congr fun k hk=>by simp [gi,hk]
theorem au.strs {base:Nat} {e:TypeId} {w:World} {v:Value} {xs:List ByteArray} (h:au base e w v (xs.map Value.string)):aC (fun b=>base<=b) w v xs:=by
 have:=h.xC;rw [aD] at this;exact this.congr fun k hk=>by simp [gs,hk]
theorem au.kept {base:Nat} {e:TypeId} {w w':World} {v:Value} {vs:List Value} (h:au base e w v vs) (k:∀b,base<=b->b<w.heap.size->w'.heap[b]? = w.heap[b]?):au base e w' v vs:=by
 refine ⟨h.1,?_⟩;rcases h.2 with h0 | ⟨g,cap,cur,rfl,hg,hc,hr⟩
 ·exact .inl h0
 ·have hlt:g<w.heap.size:=by
   rcases Nat.lt_or_ge g w.heap.size with h1 | h1
   ·exact h1
   ·rw [KO h1] at hc;cases hc
  exact .inr ⟨g,cap,cur,rfl,hg,(k g hg hlt).trans hc,hr⟩
theorem au.alloc {base:Nat} {e:TypeId} {w:World} {v:Value} {vs:List Value} (h:au base e w v vs) (o:Obj):au base e (w.alloc o) v vs:=World.ownsRow.alloc h o
theorem gQ {w w':World} {o:Obj} {row:Option Nat} (h:(w.alloc o).grownBy w' row):w.grownBy w' row :=
 ⟨h.os,h.tape,h.output,aV (by simp) h.size,fun k hk hne=>(h.block k (by simp;omega) hne).trans (uZ w o k hk)⟩
theorem au.cQ {base:Nat} {e:TypeId} {w w':World} {v:Value} {vs:List Value} (h:au base e w v vs) (hg:w.grownBy w' v.ownBlock) (hb:base<=w.heap.size):Below base w w' :=
 (b7 base w).grown hg hb fun k hk=>(mq h k hk).1
section
variable {P:Program} {ops:Array Oper} {rest:List Oper} {o:Oper} {a:Act} {Q:Exit->Act->World->Prop}
theorem ja (W:World) (hgd:o.guard=none) (s x:Operand) (t:TypeId) (ho:o.op=.call { callee:=.builtin .append,args:=#[s,x],argTypes:=#[t,t] })
  (base:Nat) (e:TypeId) (z:Value) (bytes:Nat) (ht:P.underlying t=some (.slice e)) (hinfo:(P.info? e).map (fun i=>(i.zero,i.size,i.bytes))=some (some z,1,bytes))
  (hz1:z.cells.size=1) (mB:bytes<=64) {v:Value} {vs:List Value} (hown:au base e W v vs) (hs:a.eval s=v) (u:Value)
  (hx:a.eval x=.slice (some ⟨W.heap.size,0,none⟩) 1 1) (h1:u.oneCell'=true) (hn:vs.length<=1000000) (hbase:base<=W.heap.size)
  (h:∀g cap w',au base e w' (.slice (some ⟨g,0,none⟩) (vs.length+1) cap) (vs++[u])->W.grownBy w' v.ownBlock->Below base W w'->wpList P ops Q rest (a.put o.dst (.slice (some ⟨g,0,none⟩) (vs.length+1) cap)) w') :
  wpList P ops Q (o::rest) a (W.alloc (.cells #[u] e)):=by
 obtain ⟨i,hi,hzz⟩:=iN.1 hinfo;simp only [iO] at hzz;obtain ⟨hz,hs1,hb⟩:=hzz;refine wpList_append_lies _ hgd s x t ho base e i z 1 bytes ht hi hz hs1 hb hz1 (by omega) v vs.length vs hs (hown.alloc _) ⟨W.heap.size,0,none⟩ 1 1 [u] hx rfl (cell_one_new _ _ _) (by simpa using h1) (by omega)
  (by unfold maxLen;omega) ?_ (by simp;omega) _ rfl fun g cap w' h2 h3 _ _=>h g cap w' ?_ (gQ h3) (hown.cQ (gQ h3) hbase)
 ·have:(vs.length+1)*bytes<=(vs.length+1)*64:=qK _ mB
  omega
 ·unfold au;rw [bG];exact h2
end
def Vm:ByteArray:=⟨#[46,44,59,58,33,63,40,41,45]⟩
theorem Vn:∀c,c<256->(decide (0<=Lib.indexByte Vm.data.toList c.toUInt8))=yU c:=by
 decide +kernel
theorem ofk {a b:Int} (h:a=b) {w w':World} (hw:w=w'):Ending.returned (.int .i64 a)=.returned (.int .i64 b)/\w=w':=⟨by rw [h],hw⟩
theorem T8 {c:Nat} {x:Int} (hc:c<256) (hx:Lib.indexByte [46,44,59,58,33,63,40,41,45] ((c:Int).toNat).toUInt8=x):0<=x↔yU c=true:=by
 have h:=Vn c hc;rw [<- h,<- hx];simp [Vm]
theorem Vo (c:Nat) (hc:c<256) (w:World):Calls Tryz.prog 149 #[.int .u8 c] w fun e w'=>e=.returned (.int .i64 (sO c))/\w=w':=by
 go_in;go_wp2_with (go_at_call 100;refine (Tryz.strings_IndexByte _ _ _).mono ?_;rintro e w' ⟨rfl,rfl⟩;generalize hx:Lib.indexByte _ _=x)
 all_goals (try go_ret)
 all_goals (refine ofk ?_ rfl)
 all_goals (first | (have h5:=T8 hc ‹Lib.indexByte _ _=_›;unfold sO isLet;by_cases hp:yU c=true<;>simp only [hp] at*<;> simp at*<;> omega) | (simp [sO,isLet,yU] at *;done) | (simp [sO,isLet,yU] at *;omega))
end
section
theorem xD {st:List Int} {k:Nat} (h:k<st.length):bJ (st.take (k+1))=if 0<=gi st k then bJ (st.take k)++[gi st k] else bJ (st.take k):=by
 unfold bJ;rw [iL h,o8];have e:gi st k=st[k]:=by simp [gi,h]
 rw [e];split
 ·rename_i h0;simp [h0]
 ·rename_i h0;simp [h0]
end
section
open Go.RowKit Go.Deep
theorem PN (c:UInt8):(sO c.toNat=1\/sO c.toNat=3)↔A9 c=true:=by
 unfold sO A9 isLet;simp only [vg,fN,decide_eq_true_eq]
 repeat' split
 all_goals simp at *
 all_goals omega
theorem JI (l:List UInt8):nQ l<=l.length:=List.countP_le_length
theorem Mj (l:List UInt8) (c:UInt8):nQ (l++[c])=nQ l+if A9 c then 1 else 0:=by
 simp [nQ,List.countP_append,List.countP_cons]
theorem Mk (s:ByteArray) (k:Nat) (h:k<s.size):s.data.toList.take (k+1)=s.data.toList.take k++[s[k]]:=by
 rw [iL (by simpa using h)];rfl
theorem PO (l:List UInt8):nQ l=l.length↔l.all A9=true:=by
 simp [nQ,List.countP_eq_length]
theorem Fv (s:ByteArray) (k:Nat) (h:k<s.size):nQ (s.data.toList.take (k+1))=nQ (s.data.toList.take k)+if A9 s[k] then 1 else 0:=by
 rw [Mk s k h,Mj]
theorem Ml (s:ByteArray) (hs:s.size<=70000) (w:World):Calls Tryz.prog 126 #[.string s] w fun e w'=>e=.returned (.int .i64 (nQ s.data.toList))/\w=w':=by
 go_in;go_wp2
 go_loop [3,4,5,8] (fun n _ _ i=>∃k:Nat,k<=s.size/\i=.int .i64 k/\n=.int .i64 (nQ (s.data.toList.take k))) (fun _ _ _ i=>s.size - (intOf i).toNat)
 case atStart=>exact ⟨0,bg _,rfl,rfl⟩
 case round =>
  obtain ⟨k,hk,rfl,rfl⟩:=hrel;have hb:nQ (s.data.toList.take k)<=70000:=aV (JI _) (by simp;omega);by_cases hlt:k<s.size
  ·have hst:=Fv s k hlt
   have hk':=PN s[k];have hc:s[k].toNat<256:=s[k].toNat_lt;generalize hm:nQ (s.data.toList.take k)=m at *;have HS:=aa hst;have HK:=aa hk';clear hst hm hk';go_wp2_with (go_at_call 149;refine (Vo _ hc _).mono ?_;rintro e w' ⟨rfl,rfl⟩;generalize sO _=q at *)
   all_goals
    go_round
    case rel=>exact ⟨k+1,by omega,by go_num,by rw [HS.out];first | (rw [if_pos (HK.out.1 (by first | omega | (simp only [beq_iff_eq] at *;omega)))];go_num) | (rw [if_neg (fun h=>by have:=HK.out.2 h;simp only [beq_eq_false_iff_ne,ne_eq] at *;omega)];go_num)⟩
    case measure=>simp [intOf];omega
  ·go_wp2
   go_ret;exact ⟨aU (by rw [sM (by simp;omega)]),rfl⟩
theorem rB (s:ByteArray) (hs:s.size<=70000) (w:World):Calls Tryz.prog 84 #[.string s] w fun e w'=>e=.returned (.bool (fA s.data.toList))/\w=w':=by
 have hl:s.data.toList.length=s.size:=by simp
 have ha:=PO s.data.toList;have hle:=JI s.data.toList;have he:s.data.toList=[]↔s.size=0:=by rw [<- A3,hl]
 rw [hl] at ha hle;have HA:=aa ha;have HL:=aa hl;have HE:=aa he;clear ha hl he;have hE1:=toList_nil s;have jv:fA s.data.toList=decide (1<=s.size/\s.size<=16/\nQ s.data.toList=s.size):=by unfold fA;rw [HL.out,nM];simp only [fN,decide_eq_true_eq];rw [<- HA.out,and_assoc]
 have HF:=aa jv;have HE1:=aa hE1;clear jv hE1 HA HL HE;generalize hm:nQ s.data.toList=m at *;have HM:=aa hm;clear hm;go_in;go_wp2_with (go_at_call 126;refine (Ml _ hs _).mono ?_;rintro e w' ⟨rfl,rfl⟩;rw [HM.out])
 all_goals go_ret
 all_goals refine ⟨bu ?_,rfl⟩
 all_goals rw [HF.out]
 ·have:=HE1.out.1 ‹_›;simp;omega
 ·have hne:¬s.size=0:=fun h=>‹¬s.toList=[]› (HE1.out.2 h)
  have KU:s.toList.isEmpty=false:=by simpa using ‹¬s.toList=[]›
  rw [nM];simp [KU];omega
 ·simp;omega

theorem PR:A9 42=false:=by decide
theorem Fw (l:List UInt8) (h:l.getLast? = some 42):fA l=false:=by
 obtain ⟨a,rfl⟩:=List.getLast?_eq_some_iff.1 h;simp [fA,PR]
theorem Fx (s:ByteArray) (h1:1<=s.size):(s.extract (s.size - 1) s.size).toList=[42]↔s.data.toList.getLast? = some 42:=by
 have hl:=size_data s;rw [toList_data,A1,Array.toList_extract,List.extract_eq_take_drop];generalize s.data.toList=l at *;have hne:l≠[]:=by intro e;rw [e] at hl;simp at hl;omega
 rw [<- hl];clear hl h1;obtain ⟨a,x,rfl⟩:∃a x,l=a++[x]:=⟨l.dropLast,l.getLast hne,(List.dropLast_concat_getLast hne).symm⟩;simp
theorem Fy (s:ByteArray):(s.extract 0 (s.size - 1)).data.toList=s.data.toList.dropLast:=by
 have hl:=size_data s;rw [A1,Array.toList_extract,List.extract_eq_take_drop,List.dropLast_eq_take,hl];simp
def T9 (s:ByteArray) (e:Ending):Prop:=(s.data.toList.getLast? = some 42/\∃r:ByteArray,r.size<=s.size/\r.data.toList=s.data.toList.dropLast/\e=.returned (.tuple #[.string r,.bool true]))\/(s.data.toList.getLast? ≠ some 42/\e=.returned (.tuple #[.string s,.bool false]))
theorem PT (s:ByteArray) (hs:s.size<=70000) (w:World):Calls Tryz.prog 83 #[.string s,.string ⟨#[42]⟩] w fun e w'=>T9 s e/\w=w':=by
 by_cases h0:s.size=0
 ·have hc:s.data.toList=[]:=by rw [<- toList_data];exact (toList_nil s).2 h0
  have HC:=aa hc;clear hc;go_in;go_wp2;go_ret2;exact ⟨.inr ⟨by rw [HC.out];simp,rfl⟩,rfl⟩
 ·have h1:1<=s.size:=by omega
  clear h0;go_in;go_wp2
  ·go_ret2
   refine ⟨.inr ⟨fun e=>?_,rfl⟩,rfl⟩;have:=(Fx s h1).2 e;simp_all
  ·go_ret2
   have h2:=‹(!(s.extract (s.size - 1) s.size).toList==[42])=false›;exact ⟨.inl ⟨(Fx s h1).1 (by simpa using h2),s.extract 0 (s.size - 1),by simp,Fy s,rfl⟩,rfl⟩
theorem uu (s:ByteArray) (hs:s.size<=70000) (w:World):Calls Tryz.prog 49 #[.string s] w fun e w'=>e=.returned (.bool (bD s.data.toList))/\w=w':=by
 have hl:=size_data s;have HL:=aa hl;clear hl;go_in;go_wp2_with fail;refine (PT s hs _).mono ?_;rintro e w' ⟨⟨h1,r,hr,hd,rfl⟩ | ⟨h1,rfl⟩,rfl⟩
 ·have hf:bD s.data.toList=(decide (s.size<=16)&&fA r.data.toList):=by
   unfold bD;rw [if_pos h1,hd,HL.out,Bool.and_comm]
  have HF:=aa hf
  clear hf hd h1
  go_wp2_with (go_at_call 84;refine (rB r (by omega) _).mono ?_;rintro e w' ⟨rfl,rfl⟩)
  all_goals
   go_ret
   refine ⟨bu ?_,rfl⟩
   rw [HF.out,nM]
   simp at *
   try omega
 ·have hf:bD s.data.toList=fA s.data.toList:=by unfold bD;rw [if_neg h1]
  have HF:=aa hf;clear hf h1;go_wp2_with (go_at_call 84;refine (rB s hs _).mono ?_;rintro e w' ⟨rfl,rfl⟩);go_ret;exact ⟨bu (by rw [HF.out]),rfl⟩
theorem aB.at0 {S:Nat->Prop} {w:World} {b n cap:Nat} {f:Nat->Value} {o:Nat} (h:aB S w (.slice (some ⟨b,o,none⟩) n cap) n f) {k:Nat} (hk:k<n):w.cell? ⟨b,o+k,none⟩=some (f k):=by
 obtain ⟨p,c,e,_,H⟩:=h.open;cases e;obtain ⟨b',o',e',hc⟩:=H k hk;cases e';exact hc
theorem au.form {base:Nat} {e:TypeId} {w:World} {v:Value} {vs:List Value} {n:Nat} (h:au base e w v vs) (hn:vs.length=n):∃p cap,v=.slice p n cap/\(p=none\/∃g,p=some ⟨g,0,none⟩):=by
 subst hn;rcases h.2 with ⟨rfl,h0⟩ | ⟨g,cap,cur,rfl,_⟩
 ·exact ⟨none,0,by rw [h0],.inl rfl⟩
 ·exact ⟨_,cap,rfl,.inr ⟨g,rfl⟩⟩
theorem au.made (w:World) (e:TypeId):au w.heap.size e (w.alloc (.cells #[] e)) (.slice (some ⟨w.heap.size,0,none⟩) 0 0) []:=World.ownsRow_made w #[] 0 (aj _) (by unfold maxLen;omega) (by simp)
end
end Go.Proofs.YtfomhlbhcifgbaaGreatDoor
