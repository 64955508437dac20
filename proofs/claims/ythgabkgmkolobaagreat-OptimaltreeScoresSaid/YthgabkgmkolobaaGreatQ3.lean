/- Plain: unit costs. Plain: the table as the reference makes it, in place. Ways in which .. -/
import Derived.WalkKit
import Derived.WalkSpells
import Derived.WalkLawsBesides
import Derived.Deep.OwnRows
import Derived.Deep.QuietTactic
import Derived.BigQuiet
import Derived.Lib.Hide
import Derived.Maps.AppendAt
import Derived.Deep.AppendLies
import Derived.Test.YthgabkgmkolobaaGreatQ2
import Derived.Test.YthgabkgmkolobaaGreatQ1
set_option maxRecDepth 100000
namespace Go.Proofs.YthgabkgmkolobaaGreat
section
def oB (a b:Nat):Int:=if a=b then 0 else 1
def dU (n a:Nat):List Int:=(List.range n).map (oB a)
def aS (n:Nat):List (List Int):=(List.range n).map (dU n)
def sU (n:Int):Int:=if n<1∨16<n then 2 else 0
def zT (n:Int):List (List Int):=if n<1∨16<n then [] else aS n.toNat
theorem gj (n a:Nat):(dU n a).length=n:=by simp [dU]
theorem iq (n:Nat):(aS n).length=n:=by simp [aS]
theorem zU {n a b:Nat} (h:b<n):gi (dU n a) b=oB a b:=by simp [gi,dU,h]
theorem y5 {n a:Nat} (h:a<n):gl (aS n) a=dU n a:=by simp [gl,aS,h]
end
section
def part (t:aD) (st:List Int) (cs:List (List Int)) (k r s:Nat):Int:=cm t st r s+bD (fun c=>if k≤c∧r<c∧gi t.ps c=r then eH t st cs s c else 0) t.ps.length
section
variable {t:aD} {st:List Int} {cs:List (List Int)}
theorem sG (h:Valid t st cs) {s c:Nat} (hs:s<cs.length) (hc:c<t.ps.length):0≤eH t st cs s c:=by
 rw [Il];exact N5 h.fine hs hc
theorem D7 (_:Valid t st cs) {r:Nat} (hr:r<t.ps.length) (s:Nat):nE t st cs r s=cm t st r s+bD (fun c=>if r<c∧gi t.ps c=r then eH t st cs s c else 0) t.ps.length:=by
 rw [Im t st cs hr,← vZ];rfl
theorem N6 (k r s:Nat) (hk:t.ps.length≤k):part t st cs k r s=cm t st r s:=by
 unfold part;rw [(dy (g:=fun _=>0) fun c hc=>by rw [if_neg (by omega)]).trans (oA _),Int.add_zero]
theorem D8 (h:Valid t st cs) {k r:Nat} (hr:r<t.ps.length) (hk:k≤r+1) (s:Nat):part t st cs k r s=nE t st cs r s:=by
 rw [D7 h hr];unfold part;congr 1;refine dy fun c _=>?_;by_cases e:r<c∧gi t.ps c=r
 ·rw [if_pos ⟨by omega,e⟩,if_pos e]
 ·rw [if_neg (fun h=>e h.2),if_neg e]
theorem K0 {k r:Nat} (hr:gi t.ps k≠r) (s:Nat):part t st cs k r s=part t st cs (k+1) r s:=by
 unfold part;congr 1;refine dy fun c _=>?_;by_cases e:c=k
 ·subst e;rw [if_neg (fun h=>hr h.2.2),if_neg (by omega)]
 ·by_cases h2:k≤c∧r<c∧gi t.ps c=r
  ·rw [if_pos h2,if_pos ⟨by omega,h2.2⟩]
  ·rw [if_neg h2,if_neg (fun h=>h2 ⟨by omega,h.2⟩)]
theorem B6 {k r:Nat} (hk:k<t.ps.length) (hr:gi t.ps k=r) (sV:r<k) (s:Nat):part t st cs k r s=part t st cs (k+1) r s+eH t st cs s k:=by
 unfold part;rw [Int.add_assoc];congr 1;have h1:bD (fun c=>if c=k then eH t st cs s k else 0) t.ps.length=eH t st cs s k:=by rw [yZ,if_pos hk]
 conv=>rhs;rw [← h1]
 rw [← uh];refine dy fun c _=>?_;by_cases e:c=k
 ·subst e;rw [if_pos ⟨Nat.le_refl _,sV,hr⟩,if_neg (by omega),if_pos rfl];omega
 ·by_cases h2:k≤c∧r<c∧gi t.ps c=r
  ·rw [if_pos h2,if_pos ⟨by omega,h2.2⟩,if_neg e];omega
  ·rw [if_neg h2,if_neg (fun h=>h2 ⟨by omega,h.2⟩),if_neg e];rfl
theorem N8 (t:aD) (st:List Int) (r s:Nat):-1≤cm t st r s∧cm t st r s≤0:=by unfold cm;split<;>omega
theorem Io (h:Valid t st cs) {k r s:Nat} (hr:r<t.ps.length) (hs:s<cs.length):-1≤part t st cs k r s∧part t st cs k r s≤100000:=by
 have h1:=N8 t st r s
 have h2:=oa (f:=fun c=>if k≤c∧r<c∧gi t.ps c=r then eH t st cs s c else 0) (n:=t.ps.length) (fun c hc=>by
  split
  ·exact sG h hs hc
  ·exact Int.le_refl _)
 have h3:=rK (f:=fun c=>if k≤c∧r<c∧gi t.ps c=r then eH t st cs s c else 0) (g:=fun c=>if r<c∧gi t.ps c=r then eH t st cs s c else 0) (n:=t.ps.length) (fun c hc=>by
  show (if k≤c∧r<c∧gi t.ps c=r then _ else (0:Int))≤(if r<c∧gi t.ps c=r then _ else 0);by_cases e:r<c∧gi t.ps c=r
  ·rw [if_pos e]
   split
   ·exact Int.le_refl _
   ·exact sG h hs hc
  ·rw [if_neg e,if_neg (fun h=>e h.2)];exact Int.le_refl _)
 have h4:=D7 h hr s;have h5:=(h.tb r s hr).2;rw [fD _ _ _ _ hs] at h5;unfold part;omega
def lI (t:aD) (st:List Int) (j i s:Nat):Int:=if cH t.ns i<j then cm t st i s else 0
def iU (t:aD) (st:List Int) (j s i s':Nat):Int:=if cH t.ns i=j then (if s'<s then cm t st i s' else 0) else lI t st j i s'
theorem K1 (ns:List ByteArray) (i:Nat):-1≤cH ns i∧cH ns i<(aq ns).length:=by
 have:=ug (fun j=>decide ((i:Int)=gi (aq ns) j)) (aq ns).length;unfold cH;omega
theorem JA {t:aD} {st:List Int} {i:Nat} (h:cH t.ns i<0) (s:Nat):cm t st i s=0:=by
 unfold cm sD;rw [if_neg (show ¬0≤cH t.ns i by omega),if_neg (by omega)]
theorem JB (t:aD) (st:List Int) (i s:Nat):lI t st 0 i s=0:=by
 unfold lI;split
 ·exact JA (by omega) s
 ·rfl
theorem K2 (t:aD) (st:List Int) (i s:Nat):lI t st (aq t.ns).length i s=cm t st i s:=by
 unfold lI;rw [if_pos (K1 t.ns i).2]
theorem G2 (t:aD) (st:List Int) (j i s':Nat):iU t st j 0 i s'=lI t st j i s':=by
 unfold iU lI;split
 ·rw [if_neg (by omega),if_neg (by omega)]
 ·rfl
theorem JC {t:aD} {st:List Int} {j m i s':Nat} (hs:s'<m):iU t st j m i s'=lI t st (j+1) i s':=by
 unfold iU lI;by_cases e:cH t.ns i=j
 ·rw [if_pos e,if_pos hs,if_pos (by omega)]
 ·rw [if_neg e]
  by_cases h:cH t.ns i<j
  ·rw [if_pos h,if_pos (by omega)]
  ·rw [if_neg h,if_neg (by omega)]
def kL (t:aD) (st:List Int) (cs:List (List Int)) (j s r c:Nat):Int:=if gi t.ps j=r∧c<s then part t st cs j r c else part t st cs (j+1) r c
theorem JD (j r c:Nat):kL t st cs j 0 r c=part t st cs (j+1) r c:=by unfold kL;rw [if_neg (by omega)]
theorem K3 {j m r c:Nat} (hc:c<m):kL t st cs j m r c=part t st cs j r c:=by
 unfold kL;by_cases e:gi t.ps j=r
 ·rw [if_pos ⟨e,hc⟩]
 ·rw [if_neg (fun h=>e h.1),K0 e]
end
end
section
open Go.RowKit Go.Deep

def aC (S:Nat→Prop) (w:World) (v:Value) (n:Nat) (f:Nat→Value):Prop :=
 ∃p cap,v=.slice p n cap∧n≤cap∧(n=0∨∃b off,p=some ⟨b,off,none⟩∧S b∧∀k,k<n→w.cell? ⟨b,off+k,none⟩=some (f k))
def aj (S:Nat→Prop) (w:World) (v:Value) (xs:List Int):Prop:=aC S w v xs.length (fun k=>.int .i64 (gi xs k))
def ah (S:Nat→Prop) (w:World) (v:Value) (xs:List ByteArray):Prop:=aC S w v xs.length (fun k=>.string (gs xs k))
def aQ (S:Nat→Prop) (w:World) (v:Value) (xs:List (List Int)):Prop:=∃f,aC S w v xs.length f∧∀k,k<xs.length→aj S w (f k) (gl xs k)
def au (S:Nat→Prop) (w:World) (v:Value) (t:aD):Prop:=∃P N,v=.agg #[P,N]∧aj S w P t.ps∧ah S w N t.ns

def Kept (S:Nat→Prop) (w w':World):Prop:=∀b,S b→b<w.heap.size→w'.heap[b]? = w.heap[b]?
def Any (_:Nat):Prop:=True

theorem aC.keep {S:Nat→Prop} {w w':World} {v:Value} {n:Nat} {f:Nat→Value} (h:aC S w v n f) (k:Kept S w w'):aC S w' v n f:=by
 obtain ⟨p,cap,rfl,hn,h⟩:=h;refine ⟨p,cap,rfl,hn,?_⟩;rcases h with h | ⟨b,off,rfl,hS,h⟩
 ·exact .inl h
 ·refine .inr ⟨b,off,rfl,hS,fun i hi=>?_⟩
  have hlt:b<w.heap.size:=World.block_lt_of_cell? w _ (h i hi);rw [World.cell?_of_block (a:=⟨b,off+i,none⟩) (k b hS hlt)];exact h i hi
theorem aj.keep {S:Nat→Prop} {w w':World} {v:Value} {xs:List Int} (h:aj S w v xs) (k:Kept S w w'):aj S w' v xs:=aC.keep h k
theorem ah.keep {S:Nat→Prop} {w w':World} {v:Value} {xs:List ByteArray} (h:ah S w v xs) (k:Kept S w w'):ah S w' v xs:=aC.keep h k
theorem aQ.keep {S:Nat→Prop} {w w':World} {v:Value} {xs:List (List Int)} (h:aQ S w v xs) (k:Kept S w w'):aQ S w' v xs:=by
 obtain ⟨f,h,hr⟩:=h;exact ⟨f,h.keep k,fun i hi=>(hr i hi).keep k⟩
theorem au.keep {S:Nat→Prop} {w w':World} {v:Value} {t:aD} (h:au S w v t) (k:Kept S w w'):au S w' v t:=by
 obtain ⟨P,N,rfl,h1,h2⟩:=h;exact ⟨P,N,rfl,h1.keep k,h2.keep k⟩
theorem aC.sub {S T:Nat→Prop} {w:World} {v:Value} {n:Nat} {f:Nat→Value} (h:aC S w v n f) (k:∀b,S b→b<w.heap.size→T b):aC T w v n f:=by
 obtain ⟨p,cap,rfl,hn,h⟩:=h;refine ⟨p,cap,rfl,hn,?_⟩;rcases h with h | ⟨b,off,rfl,hS,h⟩
 ·exact .inl h
 ·by_cases hn0:n=0
  ·exact .inl hn0
  ·exact .inr ⟨b,off,rfl,k b hS (World.block_lt_of_cell? w _ (h 0 (by omega))),h⟩
theorem aj.sub {S T:Nat→Prop} {w:World} {v:Value} {xs:List Int} (h:aj S w v xs) (k:∀b,S b→b<w.heap.size→T b):aj T w v xs:=aC.sub h k
theorem ah.sub {S T:Nat→Prop} {w:World} {v:Value} {xs:List ByteArray} (h:ah S w v xs) (k:∀b,S b→b<w.heap.size→T b):ah T w v xs:=aC.sub h k
theorem aQ.sub {S T:Nat→Prop} {w:World} {v:Value} {xs:List (List Int)} (h:aQ S w v xs) (k:∀b,S b→b<w.heap.size→T b):aQ T w v xs:=by
 obtain ⟨f,h,hr⟩:=h;exact ⟨f,h.sub k,fun i hi=>(hr i hi).sub k⟩
theorem au.sub {S T:Nat→Prop} {w:World} {v:Value} {t:aD} (h:au S w v t) (k:∀b,S b→b<w.heap.size→T b):au T w v t:=by
 obtain ⟨P,N,rfl,h1,h2⟩:=h;exact ⟨P,N,rfl,h1.sub k,h2.sub k⟩
theorem Kept.refl (S:Nat→Prop) (w:World):Kept S w w:=fun _ _ _=>rfl
theorem Kept.below {S:Nat→Prop} {a b:World} (h:Below a.heap.size a b):Kept S a b:=fun i _ hl=>h.block i hl
theorem aC.open {S:Nat→Prop} {w:World} {v:Value} {n:Nat} {f:Nat→Value} (h:aC S w v n f) :
  ∃p cap,v=.slice p n cap∧n≤cap∧∀k,k<n→∃b off,p=some ⟨b,off,none⟩∧w.cell? ⟨b,off+k,none⟩=some (f k):=by
 obtain ⟨p,cap,rfl,hn,h⟩:=h;refine ⟨p,cap,rfl,hn,fun k hk=>?_⟩;rcases h with h | ⟨b,off,rfl,_,h⟩
 ·omega
 ·exact ⟨b,off,rfl,h k hk⟩
theorem below_drewN {B:Nat} {a w:World} (h:Below B a w) (n:Nat):Below B a (w.drewN n):=⟨h.os,h.tape,h.output,h.size,h.block⟩
theorem aH {k:IntKind} {a b:Int} (h:a=b):Ending.returned (.int k a)=.returned (.int k b):=by rw [h]
theorem aR {a b:Bool} (h:a=b):Ending.returned (.bool a)=.returned (.bool b):=by rw [h]
end
section
def dd:List Int→List Int
 | []=>[]
 | x::l=>if x∈dd l then dd l else x::dd l
theorem sW {x:Int}:∀ {l:List Int},x∈dd l↔x∈l
 | []=>Iff.rfl
 | y::l=>by
  unfold dd
  split
  ·rename_i h
   rw [sW (l:=l),List.mem_cons]
   exact ⟨.inr,fun h2=>h2.elim (fun e=>by rw [e];exact sW.1 h) id⟩
  ·rw [List.mem_cons,List.mem_cons,sW (l:=l)]
theorem qA:∀l:List Int,(dd l).Nodup
 | []=>List.nodup_nil
 | y::l=>by
  unfold dd
  split
  ·exact qA l
  ·rename_i h;exact List.nodup_cons.2 ⟨h,qA l⟩
end
section
theorem Tz:eG (aS 16)=0:=by decide +kernel
theorem Xl {st:List Int} {m:Int} (h:fo st (-1) m=false) {k:Nat} (hk:k<st.length):-1≤gi st k∧gi st k<m:=by
 have:=any_false h hk;simp at this;omega
theorem K4 {l:List Int} {x:Int} (h:x∈l):∃k,k<l.length∧gi l k=x:=by
 obtain ⟨k,hk,e⟩:=List.mem_iff_getElem.1 h;exact ⟨k,hk,by simp [gi,hk,e]⟩
section
variable {t:aD} {st:List Int}
def cQ (st:List Int):List Int:=st.filter fun s=>decide (0≤s)
end
end
section
open Go.RowKit Go.Deep
def aF (base:Nat) (e:TypeId) (w:World) (v:Value) (vs:List Value):Prop:=w.ownsRow base e 1 v vs.length vs
theorem aF.nil (base:Nat) (e:TypeId) (w:World):aF base e w (.slice none 0 0) []:=World.ownsRow_nil _ _ _ _
theorem aC.congr {S:Nat→Prop} {w:World} {v:Value} {n:Nat} {f g:Nat→Value} (h:aC S w v n f) (e:∀k,k<n→f k=g k):aC S w v n g:=by
 obtain ⟨p,cap,rfl,hn,h⟩:=h;refine ⟨p,cap,rfl,hn,?_⟩;rcases h with h | ⟨b,off,rfl,hS,h⟩
 ·exact .inl h
 ·exact .inr ⟨b,off,rfl,hS,fun k hk=>by rw [← e k hk];exact h k hk⟩
theorem aF.wA {base:Nat} {e:TypeId} {w:World} {v:Value} {vs:List Value} (h:aF base e w v vs):aC (fun b=>base≤b) w v vs.length (fun k=>vs.getD k undef):=by
 rcases h.2 with ⟨rfl,h0⟩ | ⟨g,cap,cur,rfl,hg,hc,hn,_,_,ht⟩
 ·exact ⟨none,0,by rw [h0],by omega,.inl h0⟩
 ·refine ⟨_,cap,rfl,hn,.inr ⟨g,0,rfl,hg,fun k hk=>?_⟩⟩
  have:=World.ownsRow.cells h (g:=g) rfl k vs[k] (by simp [hk]);have Bi:(⟨g,0,none⟩:Addr).add k=⟨g,0+k,none⟩:=by unfold Addr.add;split<;>simp_all
  rw [Bi] at this;rw [this];simp [hk]
theorem aF.ints {base:Nat} {e:TypeId} {w:World} {v:Value} {xs:List Int} (h:aF base e w v (xs.map (Value.int .i64))):aj (fun b=>base≤b) w v xs:=by
 have:=h.wA;rw [List.length_map] at this;exact this.congr fun k hk=>by simp [gi,hk]
theorem aF.strs {base:Nat} {e:TypeId} {w:World} {v:Value} {xs:List ByteArray} (h:aF base e w v (xs.map Value.string)):ah (fun b=>base≤b) w v xs:=by
 have:=h.wA;rw [List.length_map] at this;exact this.congr fun k hk=>by simp [gs,hk]
theorem aF.kept {base:Nat} {e:TypeId} {w w':World} {v:Value} {vs:List Value} (h:aF base e w v vs) (k:∀b,base≤b→b<w.heap.size→w'.heap[b]? = w.heap[b]?):aF base e w' v vs:=by
 refine ⟨h.1,?_⟩;rcases h.2 with h0 | ⟨g,cap,cur,rfl,hg,hc,hr⟩
 ·exact .inl h0
 ·have hlt:g<w.heap.size:=by
   rcases Nat.lt_or_ge g w.heap.size with h1 | h1
   ·exact h1
   ·rw [Array.getElem?_eq_none h1] at hc;cases hc
  exact .inr ⟨g,cap,cur,rfl,hg,(k g hg hlt).trans hc,hr⟩
theorem aF.alloc {base:Nat} {e:TypeId} {w:World} {v:Value} {vs:List Value} (h:aF base e w v vs) (o:Obj):aF base e (w.alloc o) v vs:=World.ownsRow.alloc h o
theorem gm {w w':World} {o:Obj} {row:Option Nat} (h:(w.alloc o).grownBy w' row):w.grownBy w' row :=
 ⟨h.os,h.tape,h.output,Nat.le_trans (by simp) h.size,fun k hk hne=>(h.block k (by simp;omega) hne).trans (Below.heap_alloc w o k hk)⟩
theorem aF.dh {base:Nat} {e:TypeId} {w w':World} {v:Value} {vs:List Value} (h:aF base e w v vs) (hg:w.grownBy w' v.ownBlock) (hb:base≤w.heap.size):Below base w w' :=
 (Below.refl base w).grown hg hb fun k hk=>(World.ownsRow.lt h k hk).1
section
variable {P:Program} {ops:Array Oper} {rest:List Oper} {o:Oper} {a:Act} {Q:Exit→Act→World→Prop}
theorem iD (W:World) (hgd:o.guard=none) (s x:Operand) (t:TypeId) (ho:o.op=.call { callee:=.builtin .append,args:=#[s,x],argTypes:=#[t,t] })
  (base:Nat) (e:TypeId) (z:Value) (bytes:Nat) (ht:P.underlying t=some (.slice e)) (hinfo:(P.info? e).map (fun i=>(i.zero,i.size,i.bytes))=some (some z,1,bytes))
  (hz1:z.cells.size=1) (k8:bytes≤64) {v:Value} {vs:List Value} (hown:aF base e W v vs) (hs:a.eval s=v) (u:Value)
  (hx:a.eval x=.slice (some ⟨W.heap.size,0,none⟩) 1 1) (h1:u.oneCell'=true) (hn:vs.length≤1000000) (hbase:base≤W.heap.size)
  (h:∀g cap w',aF base e w' (.slice (some ⟨g,0,none⟩) (vs.length+1) cap) (vs++[u])→W.grownBy w' v.ownBlock→Below base W w'→wpList P ops Q rest (a.put o.dst (.slice (some ⟨g,0,none⟩) (vs.length+1) cap)) w') :
  wpList P ops Q (o::rest) a (W.alloc (.cells #[u] e)):=by
 obtain ⟨i,hi,hzz⟩:=Option.map_eq_some_iff.1 hinfo;simp only [Prod.mk.injEq] at hzz;obtain ⟨hz,hs1,hb⟩:=hzz;refine wpList_append_lies _ hgd s x t ho base e i z 1 bytes ht hi hz hs1 hb hz1 (by omega) v vs.length vs hs (hown.alloc _) ⟨W.heap.size,0,none⟩ 1 1 [u] hx rfl (cell_one_new _ _ _) (by simpa using h1) (by omega)
  (by unfold maxLen;omega) ?_ (by simp;omega) _ rfl fun g cap w' h2 h3 _ _=>h g cap w' ?_ (gm h3) (hown.dh (gm h3) hbase)
 ·have:(vs.length+1)*bytes≤(vs.length+1)*64:=Nat.mul_le_mul_left _ k8
  omega
 ·unfold aF;rw [List.length_append];exact h2
end
end
section
open Go.RowKit Go.Deep
def TA:ByteArray:=⟨#[46,44,59,58,33,63,40,41,45]⟩
theorem TB:∀c,c<256→(decide (0≤Lib.indexByte TA.data.toList c.toUInt8))=uf c:=by
 decide +kernel
theorem ofk {a b:Int} (h:a=b) {w w':World} (hw:w=w'):Ending.returned (.int .i64 a)=.returned (.int .i64 b)∧w=w':=⟨by rw [h],hw⟩
theorem Sj {c:Nat} {x:Int} (hc:c<256) (hx:Lib.indexByte [46,44,59,58,33,63,40,41,45] ((c:Int).toNat).toUInt8=x):0≤x↔uf c=true:=by
 have h:=TB c hc;rw [← h,← hx];simp [TA]
set_option maxHeartbeats 400000 in
theorem TC (c:Nat) (hc:c<256) (w:World):Calls Tryz.prog 239 #[.int .u8 c] w fun e w'=>e=.returned (.int .i64 (cK c))∧w=w':=by
 go_enter Tryz.func239,Tryz.ntmps239
 go_wp2_with (go_at_call 261;refine (Tryz.strings_IndexByte _ _ _).mono ?_;rintro e w' ⟨rfl,rfl⟩;generalize hx:Lib.indexByte _ _=x)
 all_goals (try go_ret)
 all_goals (refine ofk ?_ rfl)
 all_goals (first | (have h5:=Sj hc ‹Lib.indexByte _ _=_›;unfold cK isLet;by_cases hp:uf c=true<;>simp only [hp] at*<;> simp at*<;> omega) | (simp [cK,isLet,uf] at *;done) | (simp [cK,isLet,uf] at *;omega))
end
section
open Go.RowKit Go.Deep
theorem qB (c:UInt8):(cK c.toNat=1∨cK c.toNat=3)↔pE c=true:=by
 unfold cK pE isLet;simp only [Bool.or_eq_true,Bool.and_eq_true,decide_eq_true_eq]
 repeat' split
 all_goals simp at *
 all_goals omega
theorem Bj (l:List UInt8):jo l≤l.length:=List.countP_le_length
theorem K5 (l:List UInt8) (c:UInt8):jo (l++[c])=jo l+if pE c then 1 else 0:=by
 simp [jo,List.countP_append,List.countP_cons]
theorem K6 (s:ByteArray) (k:Nat) (h:k<s.size):s.data.toList.take (k+1)=s.data.toList.take k++[s[k]]:=by
 rw [List.take_succ_eq_append_getElem (by simpa using h)];rfl
theorem D9 (l:List UInt8):jo l=l.length↔l.all pE=true:=by
 simp [jo,List.countP_eq_length]
theorem wC (s:ByteArray) (k:Nat) (h:k<s.size):jo (s.data.toList.take (k+1))=jo (s.data.toList.take k)+if pE s[k] then 1 else 0:=by
 rw [K6 s k h,K5]
set_option maxHeartbeats 400000 in
theorem K7 (s:ByteArray) (hs:s.size≤70000) (w:World):Calls Tryz.prog 183 #[.string s] w fun e w'=>e=.returned (.int .i64 (jo s.data.toList))∧w=w':=by
 go_enter Tryz.func183,Tryz.ntmps183
 go_wp2
 go_loop [3,4,5,8] (fun n _ _ i=>∃k:Nat,k≤s.size∧i=.int .i64 k∧n=.int .i64 (jo (s.data.toList.take k))) (fun _ _ _ i=>s.size - (intOf i).toNat)
 case atStart=>exact ⟨0,Nat.zero_le _,rfl,rfl⟩
 case round =>
  obtain ⟨k,hk,rfl,rfl⟩:=hrel
  have hb:jo (s.data.toList.take k)≤70000:=Nat.le_trans (Bj _) (by simp;omega)
  by_cases hlt:k<s.size
  ·have hst:=wC s k hlt
   have hk':=qB s[k]
   have hc:s[k].toNat<256:=s[k].toNat_lt
   generalize hm:jo (s.data.toList.take k)=m at *
   have HS:=aa hst
   have HK:=aa hk'
   clear hst hm hk'
   go_wp2_with (go_at_call 239;refine (TC _ hc _).mono ?_;rintro e w' ⟨rfl,rfl⟩;generalize cK _=q at *)
   all_goals
    go_round
    case rel=>exact ⟨k+1,by omega,by go_num,by rw [HS.out];first | (rw [if_pos (HK.out.1 (by first | omega | (simp only [beq_iff_eq] at *;omega)))];go_num) | (rw [if_neg (fun h=>by have:=HK.out.2 h;simp only [beq_eq_false_iff_ne,ne_eq] at *;omega)];go_num)⟩
    case measure=>simp [intOf];omega
  ·go_wp2
   go_ret
   exact ⟨aH (by rw [List.take_of_length_le (by simp;omega)]),rfl⟩
set_option maxHeartbeats 400000 in
theorem Ea (s:ByteArray) (hs:s.size≤70000) (w:World):Calls Tryz.prog 128 #[.string s] w fun e w'=>e=.returned (.bool (dL s.data.toList))∧w=w':=by
 have hl:s.data.toList.length=s.size:=by simp
 have ha:=D9 s.data.toList;have hle:=Bj s.data.toList;have he:s.data.toList=[]↔s.size=0:=by rw [← List.length_eq_zero_iff,hl]
 rw [hl] at ha hle;have HA:=aa ha;have HL:=aa hl;have HE:=aa he;clear ha hl he;have XT:=toList_nil s;have b8:dL s.data.toList=decide (1≤s.size∧s.size≤16∧jo s.data.toList=s.size):=by unfold dL;rw [HL.out,Bool.eq_iff_iff];simp only [Bool.and_eq_true,decide_eq_true_eq];rw [← HA.out,and_assoc]
 have HF:=aa b8;have K8:=aa XT;clear b8 XT HA HL HE;generalize hm:jo s.data.toList=m at *;have HM:=aa hm;clear hm
 go_enter Tryz.func128,Tryz.ntmps128
 go_wp2_with (go_at_call 183;refine (K7 _ hs _).mono ?_;rintro e w' ⟨rfl,rfl⟩;rw [HM.out])
 all_goals go_ret
 all_goals refine ⟨aR ?_,rfl⟩
 all_goals rw [HF.out]
 ·have:=K8.out.1 ‹_›;simp;omega
 ·have hne:¬s.size=0:=fun h=>‹¬s.toList=[]› (K8.out.2 h)
  have Bk:s.toList.isEmpty=false:=by simpa using ‹¬s.toList=[]›
  rw [Bool.eq_iff_iff];simp [Bk];omega
 ·simp;omega

theorem N9:pE 42=false:=by decide
theorem wD (l:List UInt8) (h:l.getLast? = some 42):dL l=false:=by
 obtain ⟨a,rfl⟩:=List.getLast?_eq_some_iff.1 h;simp [dL,N9]
theorem Eb (s:ByteArray) (h1:1≤s.size):(s.extract (s.size - 1) s.size).toList=[42]↔s.data.toList.getLast? = some 42:=by
 have hl:=size_data s;rw [toList_data,ByteArray.data_extract,Array.toList_extract,List.extract_eq_take_drop];generalize s.data.toList=l at *;have hne:l≠[]:=by intro e;rw [e] at hl;simp at hl;omega
 rw [← hl];clear hl h1;obtain ⟨a,x,rfl⟩:∃a x,l=a++[x]:=⟨l.dropLast,l.getLast hne,(List.dropLast_concat_getLast hne).symm⟩;simp
theorem Ec (s:ByteArray):(s.extract 0 (s.size - 1)).data.toList=s.data.toList.dropLast:=by
 have hl:=size_data s;rw [ByteArray.data_extract,Array.toList_extract,List.extract_eq_take_drop,List.dropLast_eq_take,hl];simp
def Sk (s:ByteArray) (e:Ending):Prop:=(s.data.toList.getLast? = some 42∧∃r:ByteArray,r.size≤s.size∧r.data.toList=s.data.toList.dropLast∧e=.returned (.tuple #[.string r,.bool true]))∨(s.data.toList.getLast? ≠ some 42∧e=.returned (.tuple #[.string s,.bool false]))
set_option maxHeartbeats 400000 in
theorem Oa (s:ByteArray) (hs:s.size≤70000) (w:World):Calls Tryz.prog 197 #[.string s,.string ⟨#[42]⟩] w fun e w'=>Sk s e∧w=w':=by
 by_cases h0:s.size=0
 ·have hc:s.data.toList=[]:=by rw [← toList_data];exact (toList_nil s).2 h0
  have HC:=aa hc;clear hc
  go_enter Tryz.func197,Tryz.ntmps197
  go_wp2;go_ret2;exact ⟨.inr ⟨by rw [HC.out];simp,rfl⟩,rfl⟩
 ·have h1:1≤s.size:=by omega
  clear h0
  go_enter Tryz.func197,Tryz.ntmps197
  go_wp2
  ·go_ret2
   refine ⟨.inr ⟨fun e=>?_,rfl⟩,rfl⟩;have:=(Eb s h1).2 e;simp_all
  ·go_ret2
   have h2:=‹(!(s.extract (s.size - 1) s.size).toList==[42])=false›;exact ⟨.inl ⟨(Eb s h1).1 (by simpa using h2),s.extract 0 (s.size - 1),by simp,Ec s,rfl⟩,rfl⟩
set_option maxHeartbeats 400000 in
theorem sX (s:ByteArray) (hs:s.size≤70000) (w:World):Calls Tryz.prog 138 #[.string s] w fun e w'=>e=.returned (.bool (aX s.data.toList))∧w=w':=by
 have hl:=size_data s;have HL:=aa hl;clear hl
 go_enter Tryz.func138,Tryz.ntmps138
 go_wp2_with fail;refine (Oa s hs _).mono ?_;rintro e w' ⟨⟨h1,r,hr,hd,rfl⟩ | ⟨h1,rfl⟩,rfl⟩
 ·have hf:aX s.data.toList=(decide (s.size≤16)&&dL r.data.toList):=by
   unfold aX;rw [if_pos h1,hd,HL.out,Bool.and_comm]
  have HF:=aa hf
  clear hf hd h1
  go_wp2_with (go_at_call 128;refine (Ea r (by omega) _).mono ?_;rintro e w' ⟨rfl,rfl⟩)
  all_goals
   go_ret
   refine ⟨aR ?_,rfl⟩
   rw [HF.out,Bool.eq_iff_iff]
   simp at *
   try omega
 ·have hf:aX s.data.toList=dL s.data.toList:=by unfold aX;rw [if_neg h1]
  have HF:=aa hf;clear hf h1;go_wp2_with (go_at_call 128;refine (Ea s hs _).mono ?_;rintro e w' ⟨rfl,rfl⟩);go_ret;exact ⟨aR (by rw [HF.out]),rfl⟩
end
end Go.Proofs.YthgabkgmkolobaaGreat
