/- The contract of phylotree.tree. -/
import Derived.RangeFuncWrites
import Derived.Test.YthgabkgmkolobaaGreatQ8
import Derived.Test.YthgabkgmkolobaaGreatQ9
set_option maxRecDepth 100000
set_option maxHeartbeats 4000000
namespace Go.Proofs.YthgabkgmkolobaaGreat
open Go.RowKit Go.Shelf Go.Deep
attribute [local go_sem] yB
theorem Tryz.K0:(Tryz.prog.info? 9).map (fun i=>(i.zero,i.size,i.bytes))=some (some (.string ⟨#[]⟩),1,16):=by kernel_rfl
def qY (l:List (Option Nat×Int)) (k:Option Nat) (v:Int):List (Option Nat×Int):=if (l.lookup k).isNone then l++[(k,v)] else l.map fun x=>if x.1=k then (k,v) else x
structure DR where
 mp:List (Option Nat×Int)
 ps:List Int
 ns:List ByteArray
def uo (F:bW) (s:DR) (x:Nat×Option Nat):DR :=
 ⟨qY s.mp (some x.1) s.ps.length,s.ps++[((qY s.mp (some x.1) s.ps.length).lookup x.2).getD 0],s.ns++[F.nm x.1]⟩
def K1:DR:=⟨[(none,-1)],[],[]⟩
def eV (F:bW) (l:List (Nat×Option Nat)):DR:=l.foldl (uo F) K1
theorem ER (F:bW) (l:List (Nat×Option Nat)) (x:Nat×Option Nat):eV F (l++[x])=uo F (eV F l) x:=by simp [eV]
def kC (F:bW) (rk:Nat->Nat) (i:Nat):ax:=⟨(eV F (gT F rk i none)).ps,(eV F (gT F rk i none)).ns⟩
def sD (A:Nat->Nat) (l:List (Option Nat×Int)):List (Option Nat×Value):=l.map fun x=>(x.1.map A,.int .i64 x.2)
def Ce (n:Nat) (l:List (Option Nat×Int)):Prop:=∀x∈l,∀k,x.1=some k->k<n
theorem map_inj {A:Nat->Nat} {n:Nat} (hinj:∀i j,i<n->j<n->A i=A j->i=j) {x y:Option Nat} (hx:∀k,x=some k->k<n) (hy:∀k,y=some k->k<n) (h:x.map A=y.map A):x=y:=by
 cases x with
 | none=>cases y with
  | none=>rfl
  | some b=>cases h
 | some a=>cases y with
  | none=>cases h
  | some b =>
   simp only [Option.map_some,B3] at h;rw [hinj a b (hx a rfl) (hy b rfl) h]
theorem GC {A:Nat->Nat} {n:Nat} (hinj:∀i j,i<n->j<n->A i=A j->i=j) {k:Option Nat} (hk:∀j,k=some j->j<n):∀ {l:List (Option Nat×Int)},Ce n l->(sD A l).lookup (k.map A)=(l.lookup k).map (Value.int .i64):=by
 intro l
 induction l with
 | nil=>intro _;rfl
 | cons x l ih =>
  intro hl;obtain ⟨x1,x2⟩:=x;have hl2:Ce n l:=fun z hz=>hl z (by simp [hz]);show List.lookup (k.map A) ((x1.map A,Value.int .i64 x2)::sD A l)=_;rw [gm,gm];by_cases h:k=x1
  ·subst h;simp
  ·have h1:(k==x1)=false:=by simpa using h
   (have h2:(k.map A==x1.map A)=false:=by simp only [beq_eq_false_iff_ne,ne_eq];exact fun e=>h (map_inj hinj hk (fun j hj=>hl (x1,x2) (by simp) j hj) e));rw [h1,h2];exact ih hl2
theorem aaX {A:Nat->Nat} {n:Nat} (hinj:∀i j,i<n->j<n->A i=A j->i=j) {k:Option Nat} (hk:∀j,k=some j->j<n) {l:List (Option Nat×Int)} (hl:Ce n l) (v:Int):Bu (sD A l) (k.map A) (.int .i64 v)=sD A (qY l k v):=by
 unfold Bu qY;rw [GC hinj hk hl];cases h:l.lookup k with
 | none=>simp [sD]
 | some y =>
  simp only [Option.map_some,Option.isNone_some,Bool.false_eq_true,if_false];unfold sD;rw [jA,jA];refine lz fun x hx=>?_;show (if x.1.map A=k.map A then (k.map A,Value.int .i64 v) else (x.1.map A,Value.int .i64 x.2))=((if x.1=k then (k,v) else x).1.map A,Value.int .i64 (if x.1=k then (k,v) else x).2);by_cases e:x.1=k
  ·rw [if_pos (by rw [e]),if_pos e]
  ·rw [if_neg (fun e2=>e (map_inj hinj (fun j hj=>hl x hx j hj) hk e2)),if_neg e]
theorem XW {n:Nat} {l:List (Option Nat×Int)} (hl:Ce n l) {k:Option Nat} (hk:∀j,k=some j->j<n) (v:Int):Ce n (qY l k v):=by
 intro x hx;unfold qY at hx;split at hx
 ·rcases ey.1 hx with h | h
  ·exact hl x h
  ·have:x=(k,v):=by simpa using h
   subst this;exact hk
 ·obtain ⟨y,hy,e⟩:=bI.1 hx
  split at e
  ·subst e;exact hk
  ·subst e;exact hl y hy
structure xR (n m:Nat) (s:DR):Prop where
 keys:Ce n s.mp
 lp:s.ps.length=m
 ln:s.ns.length=m
theorem xR.step {n m:Nat} {s:DR} {F:bW} (h:xR n m s) (x:r9 n):xR n (m+1) (uo F s x.1) :=
 ⟨XW h.keys (fun j hj=>by cases hj;exact x.2.1) _,by show (s.ps++[_]).length=_;rw [bg,h.lp];rfl,by show (s.ns++[_]).length=_;rw [bg,h.ln];rfl⟩
theorem VL {n:Nat} {F:bW}:∀(l:List (r9 n)) (m:Nat) (s:DR),xR n m s->xR n (m+l.length) ((dN l).foldl (uo F) s):=by
 intro l
 induction l with
 | nil=>intro m s h;exact h
 | cons x l ih =>
  intro m s h;have h2:=ih (m+1) _ (h.step (F:=F) x);rw [show m+(x::l).length=m+1+l.length by simp;omega];exact h2
theorem VM {n:Nat} {F:bW} (l:List (r9 n)):xR n l.length (eV F (dN l)):=by
 have h:=VL (F:=F) l 0 K1 ⟨fun x hx k hk=>(by
  have:x=(none,-1):=by simpa [K1] using hx
  subst this;cases hk),rfl,rfl⟩
 rw [je] at h;exact h
def XX (w:World) (t:ax) (e:Ending) (w':World):Prop:=Up w w'/\∃v,e=.returned v/\aG (fun b=>w.heap.size<=b) w' v t
structure pY (B0:Nat) (w1 W:World) (Pv Nv:Value) (ps:List Int) (ns:List ByteArray):Prop where
 cn:au B0 3 W Pv (ps.map (Value.int .i64))
 cD:au B0 9 W Nv (ns.map Value.string)
 apart:∀b,Pv.ownBlock=some b->Nv.ownBlock≠some b
 low:Below B0 w1 W
 fns:∀(b:Nat) (c:Array Value) (z:Nat×Nat),w1.heap[b]? = some (Obj.cells c 258 z)->W.heap[b]? = w1.heap[b]?
 far:KeepsFrom B0 w1 W
section
variable {B0:Nat} {w1 W W':World} {Pv Nv:Value} {ps:List Int} {ns:List ByteArray}
theorem au.typed {base:Nat} {e:TypeId} {w:World} {v:Value} {vs:List Value} (h:au base e w v vs) {b:Nat} (hb:v.ownBlock=some b):∃c,w.heap[b]? = some (Obj.cells c e (0,0)):=by
 obtain ⟨_,⟨rfl,_⟩ | ⟨g,cap,cur,rfl,_,hc,_⟩⟩:=h
 ·cases hb
 ·injection hb with hb;subst hb;exact ⟨cur,hc⟩
theorem pY.up (h:pY B0 w1 W Pv Nv ps ns) (hu:Up W W') (hB:B0<=W.heap.size):pY B0 w1 W' Pv Nv ps ns :=
 ⟨h.cn.same fun b hb=>bH hu b (av h.cn hb).2,h.cD.same fun b hb=>bH hu b (av h.cD hb).2,h.apart,iz h.low (Below.mono hu hB),fun b c z hb=>by
  have h1:=h.fns b c z hb
  rw [<- h1]
  exact bH hu b (by rw [hb] at h1;exact (fq.1 h1).1),h.far.trans ⟨hu.size,fun k o _ hk _=>(bH hu k (fq.1 hk).1).trans hk⟩⟩
theorem pY.vo (h:pY B0 w1 W Pv Nv ps ns) (hB:B0<=W.heap.size) {g cap k:Nat} {u:Int} (ho:au B0 3 W' (.slice (some ⟨g,0,none⟩) k cap) (ps.map (Value.int .i64)++[.int .i64 u])) (hg:W.grownBy W' Pv.ownBlock) (gH:Pv.ownBlock=some g\/W.heap.size<=g) :
  pY B0 w1 W' (.slice (some ⟨g,0,none⟩) k cap) Nv (ps++[u]) ns:=by
 refine ⟨by rw [cg];exact ho,h.cD.same fun b hb=>hg.block b (av h.cD hb).2 (fun e=>h.apart b e.symm hb),fun b hb hb2=>?_,iz h.low (h.cn.fF hg hB),fun b c z hb=>?_,h.far.trans ⟨hg.size,fun k o _ hk hc=>(hg.block k (fq.1 hk).1 (fun e=>?_)).trans hk⟩⟩
 ·injection hb with hb
  have hb:g=b:=hb;subst hb;rcases gH with h1 | h1
  ·exact h.apart g h1 hb2
  ·have:=(av h.cD hb2).2;omega
 ·have h1:=h.fns b c z hb
  rw [<- h1];refine hg.block b (by rw [hb] at h1;exact (fq.1 h1).1) (fun e=>?_);obtain ⟨c2,h2⟩:=h.cn.typed e.symm;rw [h1,hb] at h2;injection h2 with h2;injection h2 with _ h2 _;cases h2
 ·obtain ⟨c2,h2⟩:=h.cn.typed e.symm
  rw [h2] at hk;injection hk with hk;subst hk;cases hc
theorem pY.ur (h:pY B0 w1 W Pv Nv ps ns) (hB:B0<=W.heap.size) {g cap k:Nat} {u:ByteArray} (ho:au B0 9 W' (.slice (some ⟨g,0,none⟩) k cap) (ns.map Value.string++[.string u])) (hg:W.grownBy W' Nv.ownBlock) (gH:Nv.ownBlock=some g\/W.heap.size<=g) :
  pY B0 w1 W' Pv (.slice (some ⟨g,0,none⟩) k cap) ps (ns++[u]):=by
 refine ⟨h.cn.same fun b hb=>hg.block b (av h.cn hb).2 (fun e=>h.apart b hb e.symm),by rw [cg];exact ho,fun b hb hb2=>?_,iz h.low (h.cD.fF hg hB),fun b c z hb=>?_,h.far.trans ⟨hg.size,fun k o _ hk hc=>(hg.block k (fq.1 hk).1 (fun e=>?_)).trans hk⟩⟩
 ·injection hb2 with hb2
  have hb2:g=b:=hb2;subst hb2;rcases gH with h1 | h1
  ·exact h.apart g hb h1
  ·have:=(av h.cn hb).2;omega
 ·have h1:=h.fns b c z hb
  rw [<- h1];refine hg.block b (by rw [hb] at h1;exact (fq.1 h1).1) (fun e=>?_);obtain ⟨c2,h2⟩:=h.cD.typed e.symm;rw [h1,hb] at h2;injection h2 with h2;injection h2 with _ h2 _;cases h2
 ·obtain ⟨c2,h2⟩:=h.cD.typed e.symm
  rw [h2] at hk;injection hk with hk;subst hk;cases hc
end
def Mt (n B0 Bt m:Nat) (A:Nat->Nat) (F:bW) (T:Nat->Prop) (w6:World) (pre:List (r9 n)) (W:World):Prop :=
 KS T w6 W/\Below (Bt) w6 W/\∃Pv Nv,W.heap[Bt]? = some (Obj.cells #[Pv,Nv] 39 (0,0))/\pY B0 W W Pv Nv (eV F (dN pre)).ps (eV F (dN pre)).ns/\ou W m (sD A (eV F (dN pre)).mp)/\Db (sD A (eV F (dN pre)).mp)
theorem Mt.own {n B:Nat} {A:Nat->Nat} {F:bW} {w6:World} (hz:w6.heap.size=B+5):OwnFrom w6.heap.size (Mt n (B+5) (B+1) (B+1+1) A F (fun b=>b<B+5/\b≠B+1/\b≠B+1+1) w6):=by
 intro s X Y row hs hg hr;obtain ⟨hk,hb,Pv,Nv,iM,hT,hm,hu⟩:=hs;have hsz:B+5<=X.heap.size:=by have:=hb.size;omega
 have qj:∀b,b<B+5->Y.heap[b]? = X.heap[b]?:=fun b hb2=>hg.block b (by omega) (fun e=>by obtain ⟨h1,_⟩:=hr b e.symm;omega)
 have hcell:∀(b:Nat) (c:Array Value) (e:TypeId) (z:Nat×Nat),X.heap[b]? = some (Obj.cells c e z)->Y.heap[b]? = X.heap[b]?:=fun b c e z hc=>hg.block b (fq.1 hc).1 (fun e2=>by
  obtain ⟨_,o,h1,h2⟩:=hr b e2.symm
  rw [hc] at h1;injection h1 with h1;subst h1;cases h2)
 refine ⟨fun b hb2=>(qj b hb2.1).trans (hk b hb2),⟨hg.os.trans hb.os,hg.tape.trans hb.tape,hg.output.trans hb.output,aB hb.size hg.size,fun b hb2=>(qj b (by omega)).trans (hb.block b hb2)⟩,Pv,Nv,(qj _ (by omega)).trans iM,?_,hm.of_block (qj _ (by omega)),hu⟩;refine ⟨hT.cn.same fun b hb2=>?_,hT.cD.same fun b hb2=>?_,hT.apart,cM _ _,fun _ _ _ _=>rfl,KeepsFrom.refl _ _⟩
 ·obtain ⟨c,hc⟩:=hT.cn.typed hb2;exact hcell _ _ _ _ hc
 ·obtain ⟨c,hc⟩:=hT.cD.typed hb2;exact hcell _ _ _ _ hc
theorem Mt.next {n B:Nat} {A:Nat->Nat} {F:bW} {w6 W w1 We:World} (hz:w6.heap.size=B+5) {pre:List (r9 n)} {x:r9 n} (hks:KS (fun b=>b<B+5/\b≠B+1/\b≠B+1+1) w6 W) (iE:Below (B+1) w6 W)
  {P0 N0:Value} (iM:W.heap[B+1]? = some (Obj.cells #[P0,N0] 39 (0,0))) {es:List (Option Nat×Value)} (ajd:ou W (B+1+1) es)
  (K2:ou w1 (B+1+1) (sD A (eV F (dN (pre++[x]))).mp)) (TE:Db (sD A (eV F (dN (pre++[x]))).mp)) (hs1:w1.heap.size=W.heap.size) (ho1:w1.os=W.os) (VN:w1.tape=W.tape) (VO:w1.output=W.output) (hb1:∀j,j≠B+1+1->w1.heap[j]? = W.heap[j]?)
  {Pv Nv:Value} (hT:pY (B+5) w1 We Pv Nv (eV F (dN (pre++[x]))).ps (eV F (dN (pre++[x]))).ns) :
  KeepsFrom w6.heap.size W ((We.setCell ⟨B+1,0,none⟩ Pv).setCell ⟨B+1,1,none⟩ Nv)/\KN (fun b=>b<B+5/\b≠B+1/\b≠B+1+1) W ((We.setCell ⟨B+1,0,none⟩ Pv).setCell ⟨B+1,1,none⟩ Nv) /\
   Mt n (B+5) (B+1) (B+1+1) A F (fun b=>b<B+5/\b≠B+1/\b≠B+1+1) w6 (pre++[x]) ((We.setCell ⟨B+1,0,none⟩ Pv).setCell ⟨B+1,1,none⟩ Nv):=by
 have cA:∀b,b≠B+1->((We.setCell ⟨B+1,0,none⟩ Pv).setCell ⟨B+1,1,none⟩ Nv).heap[b]? = We.heap[b]?:=fun b hb=>by rw [blk_setCell_other _ _ _ _ hb,blk_setCell_other _ _ _ _ hb]
 have hsz:((We.setCell ⟨B+1,0,none⟩ Pv).setCell ⟨B+1,1,none⟩ Nv).heap.size=We.heap.size:=by simp [World.size_setCell]
 have xu:We.heap[B+1]? = some (Obj.cells #[P0,N0] 39 (0,0)):=(hT.low.block (B+1) (by omega)).trans ((hb1 _ (by omega)).trans iM);have TG:((We.setCell ⟨B+1,0,none⟩ Pv).setCell ⟨B+1,1,none⟩ Nv).heap[B+1]? = some (Obj.cells #[Pv,Nv] 39 (0,0)):=by simp [World.setCell,Array.getElem?_modify,xu]
 have hkT:KS (fun b=>b<B+5/\b≠B+1/\b≠B+1+1) W ((We.setCell ⟨B+1,0,none⟩ Pv).setCell ⟨B+1,1,none⟩ Nv):=fun b hb=>(cA b hb.2.1).trans ((hT.low.block b hb.1).trans (hb1 b hb.2.2));refine ⟨⟨?_,fun k o hk ho hc=>?_⟩,⟨hkT,fun b c z hb=>?_⟩,hks.trans hkT,⟨hT.low.os.trans (ho1.trans iE.os),hT.low.tape.trans (VN.trans iE.tape),hT.low.output.trans (VO.trans iE.output),?_,fun b hb=>(hkT b ⟨by omega,by omega,by omega⟩).trans (iE.block b hb)⟩,Pv,Nv,TG,⟨hT.cn.same fun b hb=>cA b (by have:=(av hT.cn hb).1;omega),hT.cD.same fun b hb=>cA b (by have:=(av hT.cD hb).1;omega),hT.apart,cM _ _,fun _ _ _ _=>rfl,KeepsFrom.refl _ _⟩,K2.of_block ((cA _ (by omega)).trans (hT.low.block _ (by omega))),TE⟩
 ·rw [hsz,<- hs1];exact hT.low.size
 ·rw [cA k (by omega)]
  exact hT.far.same k o (by omega) ((hb1 k (by omega)).trans ho) hc
 ·have hne:b≠B+1+1:=fun e=>by
   subst e
   obtain ⟨es',ck,h1,_⟩:=ajd
   rw [h1] at hb;cases hb
  have Ib:b≠B+1:=fun e=>by
   subst e
   rw [iM] at hb
   injection hb with hb
   injection hb with _ hb _
   cases hb
  rw [cA b Ib,hT.fns b c z (by rw [hb1 b hne];exact hb),hb1 b hne]
 ·rw [hsz];have h1:=hT.low.size;have h2:=iE.size;omega
theorem XY {n base:Nat} {A:Nat->Nat} {kv:Nat->Value} {F:bW} {rk:Nat->Nat} (hwf:Wf F n rk) (hlen:∀i,i<n->(F.kids i).length<=1000) (w:World) (i:Nat) (hi:i<n) (hF:cE base n A kv F w) (hN:(gT F rk i none).length<=100000) :
  Calls Tryz.prog 165 #[.pointer (some ⟨A i,0,none⟩)] w (XX w (kC F rk i)):=by
 refine (callsIn_wide (n:=9)).1 ?_;refine callsIn_of_wp_marks Tryz.func165 rfl trivial ?_ rfl;simp only [Tryz.ntmps165,dY,aW,dw,Nat.reduceAdd,Nat.reduceSub,iu,iw,dX,s9,di,cm];have hmm:=fun W=>run_makeMap (P:=Tryz.prog) 219 W;obtain ⟨w3,hw3⟩:∃w3,w3=((w.alloc (.cells #[.slice none 0 0,.slice none 0 0] 39)).alloc (.cells #[.slice none 0 0,.slice none 0 0] 39)).alloc (.map #[] 0):=⟨_,rfl⟩;have cR:Up w w3:=by rw [hw3];exact ((Up.alloc _ _).trans (Up.alloc _ _)).trans (Up.alloc _ _)
 have hz3:w3.heap.size=w.heap.size+3:=by rw [hw3];simp
 have hp3:ou w3 (w.heap.size+1+1) []:=⟨#[],0,by
  rw [hw3];have h:=blk_alloc_new ((w.alloc (.cells #[.slice none 0 0,.slice none 0 0] 39)).alloc (.cells #[.slice none 0 0,.slice none 0 0] 39)) (.map #[] 0)
  simp only [aQ] at h;exact h,rfl⟩
 have ht3:w3.heap[w.heap.size+1]? = some (Obj.cells #[.slice none 0 0,.slice none 0 0] 39 (0,0)):=by rw [hw3,blk_alloc_lt _ _ _ (by simp)];have h:=blk_alloc_new (w.alloc (.cells #[.slice none 0 0,.slice none 0 0] 39)) (.cells #[.slice none 0 0,.slice none 0 0] 39);rw [aQ] at h;exact h
 have hr3:w3.heap[w.heap.size]? = some (Obj.cells #[.slice none 0 0,.slice none 0 0] 39 (0,0)):=by rw [hw3,blk_alloc_lt _ _ _ (by simp;omega),blk_alloc_lt _ _ _ (by simp)];exact blk_alloc_new _ _
 obtain ⟨w4,cA,hp4,hs4,XZ,af2,af3,hb4⟩:=Pu (P:=Tryz.prog) Tryz.underlying219 Tryz.underlying119 Tryz.yQ hp3 List.nodup_nil (k:=none) (.int .i64 (-1)) trivial (fun x hx=>by cases hx);have gU:Up w w4:=⟨XZ.trans cR.os,af2.trans cR.tape,af3.trans cR.output,by rw [hs4];exact cR.size,fun b hb=>(hb4 b (by omega)).trans (bH cR b hb)⟩;have ht4:=(hb4 (w.heap.size+1) (by omega)).trans ht3;have hr4:=(hb4 w.heap.size (by omega)).trans hr3;have hz4:w4.heap.size=w.heap.size+3:=hs4.trans hz3;rw [hw3] at cA;simp only [pk] at cA;have k7:=aa gU;have TH:=aa ht4;have HR4:=aa hr4;have Mu:=aa hz4;have Mv:=aa hp4;have HF:=aa hF;have Pn:=aa hwf;have HLEN:=aa hlen;have HN:=aa hN;clear hw3 cR hz3 hp3 ht3 hr3 hp4 hs4 XZ af2 af3 hb4 gU ht4 hr4 hz4 hF hwf hlen hN;gi_wp2_with fail;refine ⟨trivial,(callsIn_wide.2 (aer _ _)).mono ?_⟩;rintro e w6 ⟨rfl,rfl⟩;rw [aQ,Mu.out];gi_wp2_with fail;have ir:Up w4 ((w4.alloc (.cells #[.map (some (w.heap.size+1+1))] 219)).alloc (.cells #[.pointer (some ⟨A i,0,none⟩)] 119)):=(Up.alloc _ _).trans (Up.alloc _ _);have X0:((w4.alloc (.cells #[.map (some (w.heap.size+1+1))] 219)).alloc (.cells #[.pointer (some ⟨A i,0,none⟩)] 119)).heap.size=w.heap.size+5:=by simp [Mu.out]
 have hx6:((w4.alloc (.cells #[.map (some (w.heap.size+1+1))] 219)).alloc (.cells #[.pointer (some ⟨A i,0,none⟩)] 119)).cell? ⟨w.heap.size+3+1,0,none⟩=some (.pointer (some ⟨A i,0,none⟩)):=by have h:=aS (w4.alloc (.cells #[.map (some (w.heap.size+1+1))] 219)) #[.pointer (some ⟨A i,0,none⟩)] 119 0;rw [aQ,Mu.out] at h;exact h
 have hm6:((w4.alloc (.cells #[.map (some (w.heap.size+1+1))] 219)).alloc (.cells #[.pointer (some ⟨A i,0,none⟩)] 119)).cell? ⟨w.heap.size+3,0,none⟩=some (.map (some (w.heap.size+1+1))):=by have h:=aS w4 #[.map (some (w.heap.size+1+1))] 219 0;rw [Mu.out] at h;exact (Up.alloc _ _).cell h
 have ht6:=(bH ir (w.heap.size+1) (by rw [Mu.out];omega)).trans TH.out;have hr6:=(bH ir w.heap.size (by rw [Mu.out];omega)).trans HR4.out;have hp6:=Mv.out.of_block (bH ir (w.heap.size+1+1) (by rw [Mu.out];omega));have hF6:=(HF.out.up k7.out).up ir;have af4:=k7.out.trans ir;generalize (w4.alloc (.cells #[.map (some (w.heap.size+1+1))] 219)).alloc (.cells #[.pointer (some ⟨A i,0,none⟩)] 119)=w6 at *;have hlt:∀j,j<n->A j<w.heap.size:=fun j hj=>HF.out.lt hj;have hlo:∀j b,j<n->(kv j).ownBlock=some b->b<w.heap.size:=fun j b hj hb=>(HF.out.lF hj hb).2;have hinj:=HF.out.inj;have HX:=aa (show Up w w6 from af4);clear ir af4 k7 TH HR4 Mu Mv cA;generalize hB:w.heap.size=B at *;have HB:Hid (w.heap.size=B):=hB;clear hB;apply wpIn_rangeFunc_ownG (F:=Fence.wide) (n:=9) (P:=Tryz.prog) (ps:=#[11,12]) (w:=w6) rfl (by omega) (gf:=259) (lb:=#[.pointer (some ⟨B+3+1,0,none⟩)]) rfl trivial (enters_of Tryz.func259 (by kernel_rfl) rfl)
  (S3 (T:=fun b=>b<B+5/\b≠B+1/\b≠B+1+1) Pn.out HLEN.out (fun j hj=>⟨by have:=hlt j hj;omega,by have:=hlt j hj;omega,by have:=hlt j hj;omega⟩) (fun j b hj hb=>⟨by have:=hlo j b hj hb;omega,by have:=hlo j b hj hb;omega,by have:=hlo j b hj hb;omega⟩) 8 (B+3+1) i hi w6 (fun b hb=>by rw [X0];exact hb.1) ⟨by omega,by omega,by omega⟩ hF6 hx6)
  (fun h k=>KN.trans h k) (fun W l o o' hl ho hc _=>⟨fun b hb=>l9 (by have:=hb.1;omega),fun b c z hb=>l9 (fun e=>by subst e;rw [hb] at ho;injection ho with ho;subst ho;cases hc)⟩) (cM _ _) (fun _=>(rfl:(2:Nat)=2))
  (Mt n (B+5) (B+1) (B+1+1) A F (fun b=>b<B+5/\b≠B+1/\b≠B+1+1) w6) (fun _ _ _=>False)
 ·exact Mt.own X0
 ·exact fun _ _ _ _ _ h _ _=>h
 ·exact ⟨KS.refl _ _,cM _ _,.slice none 0 0,.slice none 0 0,ht6,⟨au.nil _ _ _,au.nil _ _ _,fun b hb=>(by cases hb),cM _ _,fun _ _ _ _=>rfl,KeepsFrom.refl _ _⟩,hp6,by simp [Db,sD,dN,eV,K1]⟩
 ·intro l x W K hK
  simp only [KY];gi_wp2;exact hK
 ·rintro l pre x W ⟨hks,iE,Pv,Nv,iM,Cf,hmp,TE⟩ hpl
  obtain ⟨⟨x1,xp⟩,hx1,yY⟩:=x;have aR:=aa hlt;have af5:=aa hinj;have hxl:=hlt x1 hx1;have hFW:cE base n A kv F W:=hF6.same (fun j hj=>hks (A j) ⟨by have:=hlt j hj;omega,by have:=hlt j hj;omega,by have:=hlt j hj;omega⟩) (fun j b hj hb=>hks b ⟨by have:=hlo j b hj hb;omega,by have:=hlo j b hj hb;omega,by have:=hlo j b hj hb;omega⟩);have hok:xR n pre.length (eV F (dN pre)):=VM pre;have hb0:W.cell? ⟨B+1,0,none⟩=some Pv:=by simp [World.cell?,iM]
  have hmb:W.cell? ⟨B+3,0,none⟩=some (.map (some (B+1+1))):=by rw [cU (a:=⟨B+3,0,none⟩) (hks (B+3) ⟨by omega,by omega,by omega⟩)];exact hm6
  obtain ⟨pp,pc,rfl,_⟩:=Cf.cn.form (n:=pre.length) (by rw [aD];exact hok.lp);have hkeys:∀z∈sD A (eV F (dN pre)).mp,kA W z.1:=fun z hz=>by
   obtain ⟨y,hy,rfl⟩:=bI.1 hz;obtain ⟨y1,y2⟩:=y;cases y1 with
   | none=>trivial
   | some k=>exact hFW.plain (hok.keys _ hy k rfl)
  obtain ⟨w1,cA,K2,hs1,ho1,VN,VO,hb1⟩:=Pu (P:=Tryz.prog) Tryz.underlying219 Tryz.underlying119 Tryz.yQ hmp TE (k:=some (A x1)) (.int .i64 (pre.length:Nat)) (hFW.plain hx1) hkeys;simp only [pk] at cA;have VP:pre.length<=100000:=by have:=HN.out;omega
  gi_wp2;have nt:pY (B+5) w1 w1 (.slice pp pre.length pc) Nv (eV F (dN pre)).ps (eV F (dN pre)).ns:=⟨Cf.cn.same fun b hb=>hb1 b (by have:=(av Cf.cn hb).1;omega),Cf.cD.same fun b hb=>hb1 b (by have:=(av Cf.cD hb).1;omega),Cf.apart,cM _ _,fun _ _ _ _=>rfl,KeepsFrom.refl _ _⟩;obtain ⟨np,nc,rfl,_⟩:=Cf.cD.form (n:=pre.length) (by rw [aD];exact hok.ln);have hput:Bu (sD A (eV F (dN pre)).mp) (some (A x1)) (.int .i64 (pre.length:Nat))=sD A (eV F (dN (pre++[⟨(x1,xp),hx1,yY⟩]))).mp:=by rw [Cc,show dN [(⟨(x1,xp),hx1,yY⟩:r9 n)]=[(x1,xp)] from rfl,ER];show _=sD A (qY (eV F (dN pre)).mp (some x1) ((eV F (dN pre)).ps.length:Nat));rw [hok.lp,<- aaX af5.out (fun j hj=>by cases hj;exact hx1) hok.keys];rfl
  rw [hput] at K2;have af6:Db (sD A (eV F (dN (pre++[⟨(x1,xp),hx1,yY⟩]))).mp):=by rw [<- hput];exact XU TE _ _
  have aaY:xR n (pre++[(⟨(x1,xp),hx1,yY⟩:r9 n)]).length (eV F (dN (pre++[⟨(x1,xp),hx1,yY⟩]))):=VM _;have Ms:cE base n A kv F w1:=hFW.same (fun j hj=>hb1 _ (by have:=aR.out j hj;omega)) (fun j b hj hb=>hb1 _ (by have:=hlo j b hj hb;omega));obtain ⟨z,hz⟩:∃z:Int,z=(((eV F (dN (pre++[⟨(x1,xp),hx1,yY⟩]))).mp).lookup xp).getD 0:=⟨_,rfl⟩;have af7:(eV F (dN (pre++[⟨(x1,xp),hx1,yY⟩]))).ps=(eV F (dN pre)).ps++[z]:=by rw [hz,Cc,show dN [(⟨(x1,xp),hx1,yY⟩:r9 n)]=[(x1,xp)] from rfl,ER];rfl
  have af8:(eV F (dN (pre++[⟨(x1,xp),hx1,yY⟩]))).ns=(eV F (dN pre)).ns++[F.nm x1]:=by rw [Cc,show dN [(⟨(x1,xp),hx1,yY⟩:r9 n)]=[(x1,xp)] from rfl,ER];rfl
  have VQ:Hid (∀We P2 N2,pY (B+5) w1 We P2 N2 ((eV F (dN pre)).ps++[z]) ((eV F (dN pre)).ns++[F.nm x1])->KeepsFrom w6.heap.size W ((We.setCell ⟨B+1,0,none⟩ P2).setCell ⟨B+1,1,none⟩ N2)/\KN (fun b=>b<B+5/\b≠B+1/\b≠B+1+1) W ((We.setCell ⟨B+1,0,none⟩ P2).setCell ⟨B+1,1,none⟩ N2) /\
   Mt n (B+5) (B+1) (B+1+1) A F (fun b=>b<B+5/\b≠B+1/\b≠B+1+1) w6 (pre++[⟨(x1,xp),hx1,yY⟩]) ((We.setCell ⟨B+1,0,none⟩ P2).setCell ⟨B+1,1,none⟩ N2)):=fun We P2 N2 hT=>Mt.next X0 hks iE iM hmp K2 af6 hs1 ho1 VN VO hb1 (by rw [af7,af8];exact hT)
  have hb0:w1.heap[B+1]? = some (Obj.cells #[.slice pp pre.length pc,.slice np pre.length nc] 39 (0,0)):=(hb1 _ (by omega)).trans iM;have nu:Hid (∀w',KS (fun b=>b<B+5) w1 w'->w'.cell? ⟨B+1,0,none⟩=some (.slice pp pre.length pc)/\w'.cell? ⟨B+1,1,none⟩=some (.slice np pre.length nc)/\w'.cell? ⟨B+3,0,none⟩=some (.map (some (B+1+1)))/\w'.cell? ⟨A x1,0,none⟩=some (.string (F.nm x1))/\(Instr.lookup 219 (.map (some (B+1+1))) (KX A xp) false).run Tryz.prog w'=.ok (.int .i64 z) w'):=fun w' hS=>by
   refine ⟨?_,?_,?_,?_,?_⟩
   ·simp [World.cell?,(hS (B+1) (by omega)).trans hb0]
   ·simp [World.cell?,(hS (B+1) (by omega)).trans hb0]
   ·rw [cU (a:=⟨B+3,0,none⟩) ((hS (B+3) (by show B+3<B+5;omega)).trans (hb1 (B+3) (by omega)))];exact hmb
   ·rw [cU (a:=⟨A x1,0,none⟩) (hS (A x1) (by show A x1<B+5;omega))];exact Ms.name hx1
   ·have hpl:∀j,j<n->Plain w' (A j):=fun j hj=>(Ms.plain hj).of_block (hS _ (by have:=aR.out j hj;show A j<B+5;omega))
    have h:=XV (P:=Tryz.prog) (w:=w') Tryz.underlying219 Tryz.underlying119 Tryz.yQ (z:=.int .i64 0) Tryz.zeroValue3 (K2.of_block (hS _ (by show B+1+1<B+5;omega))) (k:=xp.map A)
     (by cases xp with | none=>trivial | some k=>exact hpl k (yY k rfl)) (fun zz hzz=>by
      obtain ⟨y,hy,rfl⟩:=bI.1 hzz;obtain ⟨y1,y2⟩:=y;cases y1 with
      | none=>trivial
      | some k=>exact hpl k (aaY.keys _ hy k rfl))
    rw [GC af5.out (fun j hj=>yY j hj) aaY.keys] at h;(have e1:pk (xp.map A)=KX A xp:=by cases xp<;>rfl);(have e2:((((eV F (dN (pre++[⟨(x1,xp),hx1,yY⟩]))).mp).lookup xp).map (Value.int .i64)).getD (.int .i64 0)=.int .i64 z:=by rw [hz];cases List.lookup xp (eV F (dN (pre++[⟨(x1,xp),hx1,yY⟩]))).mp<;>rfl);rw [e1,e2] at h;exact h
  have TI:Hid (∀w',KS (fun b=>b<B+5) w1 w'->∀o,w'.frozen? ⟨B+1,o,none⟩=false):=fun w' hS o=>by simp [World.frozen?,(hS (B+1) (by omega)).trans hb0]
  have HTd:Hid (pY (B+5) w1 w1.drew (.slice pp pre.length pc) (.slice np pre.length nc) (eV F (dN pre)).ps (eV F (dN pre)).ns):=nt.up (Up.drewN w1 1) (by rw [hs1];have:=iE.size;omega);have eC:Hid ((eV F (dN pre)).ps.length=pre.length/\(eV F (dN pre)).ns.length=pre.length):=⟨hok.lp,hok.ln⟩;have hSz:B+5<=w1.drew.heap.size:=by show B+5<=w1.heap.size;rw [hs1];have:=iE.size;omega
  have alJ:=aa Ms;clear hput nt Cf TE af6 hok aaY af7 af8 hb0 Ms hFW hmp K2 cA hks iE iM hkeys hmb hz hb1 hs1 ho1 VN VO hlt hlo hinj;generalize (eV F (dN pre)).ps=PS at *;generalize (eV F (dN pre)).ns=NS at *;generalize F.nm x1=nm at *;refine Pr (by kernel_rfl) 15 (KS (fun b=>b<B+5) w1) (KS.refl _ _) (fun hS=>?_);simp only [dY,aW,dw,Nat.reduceAdd,iu,iw,dX,di,cm];generalize w1.drew=Wd at *;refine cr.take (i:=0) (v:=?gv0) rfl (by kernel_rfl) (fun _ _ _ h=>h) (by rfl) (fun _=>rfl) (fun w hSw=>?gy0) hS ?gr0
  case gy0 =>obtain ⟨q1,q2,q3,q4,q5⟩:=nu.out w hSw;go_simp;try with_reducible rfl
  try simp only [Act.put,aL,aM,aN]
  refine cr.take (i:=1) (v:=?gv1) rfl (by kernel_rfl) (fun _ _ _ h=>h) (by rfl) (fun _=>rfl) (fun w hSw=>?gy1) hS ?gr1
  case gy1 =>obtain ⟨q1,q2,q3,q4,q5⟩:=nu.out w hSw;go_simp;try with_reducible rfl
  try simp only [Act.put,aL,aM,aN]
  refine cr.take (i:=2) (v:=?gv2) rfl (by kernel_rfl) (fun _ _ _ h=>h) (by rfl) (fun _=>rfl) (fun w hSw=>?gy2) hS ?gr2
  case gy2 =>obtain ⟨q1,q2,q3,q4,q5⟩:=nu.out w hSw;go_simp;try with_reducible rfl
  try simp only [Act.put,aL,aM,aN]
  refine cr.take (i:=3) (v:=?gv3) rfl (by kernel_rfl) (fun _ _ _ h=>h) (by rfl) (fun _=>rfl) (fun w hSw=>?gy3) hS ?gr3
  case gy3 =>obtain ⟨q1,q2,q3,q4,q5⟩:=nu.out w hSw;go_simp;try with_reducible rfl
  try simp only [Act.put,aL,aM,aN]
  refine cr.take (i:=4) (v:=?gv4) rfl (by kernel_rfl) (fun _ _ _ h=>h) (by rfl) (fun _=>rfl) (fun w hSw=>?gy4) hS ?gr4
  case gy4 =>obtain ⟨q1,q2,q3,q4,q5⟩:=nu.out w hSw;go_simp;try with_reducible rfl
  try simp only [Act.put,aL,aM,aN]
  refine cr.take (i:=7) (v:=?gv7) rfl (by kernel_rfl) (fun _ _ _ h=>h) (by rfl) (fun _=>rfl) (fun w hSw=>?gy7) hS ?gr7
  case gy7 =>obtain ⟨q1,q2,q3,q4,q5⟩:=nu.out w hSw;go_simp;try with_reducible rfl
  try simp only [Act.put,aL,aM,aN]
  refine cr.take (i:=8) (v:=?gv8) rfl (by kernel_rfl) (fun _ _ _ h=>h) (by rfl) (fun _=>rfl) (fun w hSw=>?gy8) hS ?gr8
  case gy8 =>obtain ⟨q1,q2,q3,q4,q5⟩:=nu.out w hSw;go_simp;try with_reducible rfl
  try simp only [Act.put,aL,aM,aN]
  refine cr.take (i:=9) (v:=?gv9) rfl (by kernel_rfl) (fun _ _ _ h=>h) (by rfl) (fun _=>rfl) (fun w hSw=>?gy9) hS ?gr9
  case gy9 =>obtain ⟨q1,q2,q3,q4,q5⟩:=nu.out w hSw;go_simp;try with_reducible rfl
  try simp only [Act.put,aL,aM,aN]
  refine cr.take (i:=10) (v:=?alK) rfl (by kernel_rfl) (fun _ _ _ h=>h) (by rfl) (fun _=>rfl) (fun w hSw=>?aje) hS ?alL
  case aje =>obtain ⟨q1,q2,q3,q4,q5⟩:=nu.out w hSw;go_simp;try with_reducible rfl
  try simp only [Act.put,aL,aM,aN]
  refine cr.take (i:=11) (v:=?alM) rfl (by kernel_rfl) (fun _ _ _ h=>h) (by rfl) (fun _=>rfl) (fun w hSw=>?ajf) hS ?alN
  case ajf =>obtain ⟨q1,q2,q3,q4,q5⟩:=nu.out w hSw;go_simp;try with_reducible rfl
  try simp only [Act.put,aL,aM,aN]
  refine cr.take (i:=12) (v:=?alO) rfl (by kernel_rfl) (fun _ _ _ h=>h) (by rfl) (fun _=>rfl) (fun w hSw=>?ajg) hS ?alR
  case ajg =>obtain ⟨q1,q2,q3,q4,q5⟩:=nu.out w hSw;go_simp;try with_reducible rfl
  try simp only [Act.put,aL,aM,aN]
  refine cr.C8 (i:=5) (i2:=13) rfl rfl (by kernel_rfl) (fun K' hK=>?_) (fun K' hK=>?_)
  ·go_simp
   have Pw:Hid (pY (B+5) w1 (Wd.alloc (.cells #[.int .i64 z] 3)) _ _ _ _):=HTd.out.up (Up.alloc _ _) hSz;have Mw:B+5<=(Wd.alloc (.cells #[.int .i64 z] 3)).heap.size:=aB hSz (Up.alloc _ _).size;refine hK.out _ _ (fun _=>Pw.out.low.block) (fun _=>?_);(try simp only [aL,aM,aN]);refine cr.C8 (i:=6) (i2:=13) rfl rfl (by kernel_rfl) (fun K' hK=>?_) (fun K' hK=>?_)
   ·refine rU (by rfl) _ _ _ (by rfl) (B+5) 3 _ 8 Tryz.underlying26 Tryz.iD (by rfl) (by decide) (by rfl) Pw.out.cn (.int .i64 z) Wd.heap.size (by rfl) (aS Wd #[.int .i64 z] 3 0) (by rfl) (by rw [aD,eC.out.1];omega) Mw ?_
    intro g1 Mx ki qZ kI hrg1 _;have ES:Hid (pY (B+5) w1 ki _ _ _ _):=Pw.out.vo Mw qZ kI (hrg1.imp id (fun e=>fD e.symm));have GD:B+5<=ki.heap.size:=aB Mw kI.size;refine hK.out _ _ (fun _=>ES.out.low.block) (fun _=>?_);(try simp only [Act.put,aL,aM,aN]);refine cr.free (i:=15) (v:=?ak4) rfl (by kernel_rfl) (fun _ _ _ h=>h) (by rfl) (fun _=>rfl) (fun w=>?air) (fun _=>ES.out.low.block) ?ak5
    case air =>go_simp;try with_reducible rfl
    (try simp only [Act.put,aL,aM,aN]);refine cr.step (i:=13) rfl (by kernel_rfl) (fun K' hK=>?_);go_simp;have Cg:Hid (pY (B+5) w1 (ki.alloc (.cells #[.string nm] 9)) _ _ _ _):=ES.out.up (Up.alloc _ _) GD;have ET:B+5<=(ki.alloc (.cells #[.string nm] 9)).heap.size:=aB GD (Up.alloc _ _).size;refine hK.out _ _ (fun _=>Cg.out.low.block) (fun _=>?_);(try simp only [aL,aM,aN]);refine cr.step (i:=14) rfl (by kernel_rfl) (fun K' hK=>?_);refine rU (by rfl) _ _ _ (by rfl) (B+5) 9 _ 16 Tryz.underlying22 Tryz.K0 (by rfl) (by decide) (by rfl) Cg.out.cD (.string nm) ki.heap.size (by rfl) (aS ki #[.string nm] 9 0) (by rfl) (by rw [aD,eC.out.2];omega) ET ?_;intro g2 GF gy pE mU hrg2 _;have tN:Hid (pY (B+5) w1 gy _ _ _ _):=Cg.out.ur ET pE mU (hrg2.imp id (fun e=>fD e.symm));have hSf:B+5<=gy.heap.size:=aB ET mU.size;refine hK.out _ _ (fun _=>tN.out.low.block) (fun _=>?_);(try simp only [Act.put,aL,aM,aN]);have xu:gy.cell? ⟨B+1,0,none⟩=some (.slice pp pre.length pc):=(nu.out gy tN.out.low.block).1;have gC:gy.cell? ⟨B+1,1,none⟩=some (.slice np pre.length nc):=(nu.out gy tN.out.low.block).2.1;have GG:gy.frozen? ⟨B+1,0,none⟩=false:=TI.out gy tN.out.low.block 0;have Bv:gy.frozen? ⟨B+1,1,none⟩=false:=TI.out gy tN.out.low.block 1;have iy:=aa (VQ.out gy _ _ tN.out);refine cr.step (i:=16) rfl (by kernel_rfl) (fun K' hK=>?_);go_simp;refine hK.out _ _ (bF ·) (fun _=>?_);(try simp only [aL,aM,aN]);refine cr.free (i:=17) (v:=?ak6) rfl (by kernel_rfl) (fun _ _ _ h=>h) (by rfl) (fun _=>rfl) (fun w=>?ais) (bF ·) ?ak7
    case ais =>go_simp;try with_reducible rfl
    (try simp only [Act.put,aL,aM,aN]);refine cr.step (i:=18) rfl (by kernel_rfl) (fun K' hK=>?_);go_simp;refine hK.out _ _ (bF ·) (fun _=>?_);refine cr.done (by kernel_rfl) ?_;gi_wp2;have dK:=iy.out;simp only [aD] at dK;exact dK
   ·go_simp
    have ES:Hid (pY (B+5) w1 ((Wd.alloc (.cells #[.int .i64 z] 3)).alloc (.cells #[.string nm] 9)) _ _ _ _):=Pw.out.up (Up.alloc _ _) Mw;have GD:B+5<=((Wd.alloc (.cells #[.int .i64 z] 3)).alloc (.cells #[.string nm] 9)).heap.size:=aB Mw (Up.alloc _ _).size;refine hK.out _ _ (fun _=>ES.out.low.block) (fun _=>?_);(try simp only [aL,aM,aN]);have uh:=aS (Wd.alloc (.cells #[.int .i64 z] 3)) #[.string nm] 9 0;have sP:=(Up.alloc (Wd.alloc (.cells #[.int .i64 z] 3)) (.cells #[.string nm] 9)).cell (aS Wd #[.int .i64 z] 3 0);rw [aQ] at uh;refine cr.step (i:=6) rfl (by kernel_rfl) (fun K' hK=>?_);refine rU (by rfl) _ _ _ (by rfl) (B+5) 3 _ 8 Tryz.underlying26 Tryz.iD (by rfl) (by decide) (by rfl) ES.out.cn (.int .i64 z) Wd.heap.size (by rfl) sP (by rfl) (by rw [aD,eC.out.1];omega) GD ?_;intro g1 Mx ki qZ kI hrg1 _;have Cg:Hid (pY (B+5) w1 ki _ _ _ _):=ES.out.vo GD qZ kI (hrg1.imp id (fun e=>fD e.symm));have ET:B+5<=ki.heap.size:=aB GD kI.size;(have tA:ki.cell? ⟨Wd.heap.size+1,0,none⟩=some (.string nm):=by rw [kI.cell_far ⟨Wd.heap.size+1,0,none⟩ (by simp) (fun e=>absurd (av HTd.out.cn e.symm).2 (by show ¬(Wd.heap.size+1<Wd.heap.size);omega))];exact uh);refine hK.out _ _ (fun _=>Cg.out.low.block) (fun _=>?_);(try simp only [Act.put,aL,aM,aN]);refine cr.free (i:=15) (v:=?ak8) rfl (by kernel_rfl) (fun _ _ _ h=>h) (by rfl) (fun _=>rfl) (fun w=>?ait) (fun _=>Cg.out.low.block) ?ak9
    case ait =>go_simp;try with_reducible rfl
    (try simp only [Act.put,aL,aM,aN]);refine cr.step (i:=14) rfl (by kernel_rfl) (fun K' hK=>?_);refine rU (by rfl) _ _ _ (by rfl) (B+5) 9 _ 16 Tryz.underlying22 Tryz.K0 (by rfl) (by decide) (by rfl) Cg.out.cD (.string nm) (Wd.heap.size+1) (by rfl) tA (by rfl) (by rw [aD,eC.out.2];omega) ET ?_;intro g2 GF gy pE mU hrg2 _;have tN:Hid (pY (B+5) w1 gy _ _ _ _):=Cg.out.ur ET pE mU (hrg2.imp id (fun e=>fD e.symm));have hSf:B+5<=gy.heap.size:=aB ET mU.size;refine hK.out _ _ (fun _=>tN.out.low.block) (fun _=>?_);(try simp only [Act.put,aL,aM,aN]);have xu:gy.cell? ⟨B+1,0,none⟩=some (.slice pp pre.length pc):=(nu.out gy tN.out.low.block).1;have gC:gy.cell? ⟨B+1,1,none⟩=some (.slice np pre.length nc):=(nu.out gy tN.out.low.block).2.1;have GG:gy.frozen? ⟨B+1,0,none⟩=false:=TI.out gy tN.out.low.block 0;have Bv:gy.frozen? ⟨B+1,1,none⟩=false:=TI.out gy tN.out.low.block 1;have iy:=aa (VQ.out gy _ _ tN.out);refine cr.step (i:=16) rfl (by kernel_rfl) (fun K' hK=>?_);go_simp;refine hK.out _ _ (bF ·) (fun _=>?_);(try simp only [aL,aM,aN]);refine cr.free (i:=17) (v:=?ala) rfl (by kernel_rfl) (fun _ _ _ h=>h) (by rfl) (fun _=>rfl) (fun w=>?aiu) (bF ·) ?alb
    case aiu =>go_simp;try with_reducible rfl
    (try simp only [Act.put,aL,aM,aN]);refine cr.step (i:=18) rfl (by kernel_rfl) (fun K' hK=>?_);go_simp;refine hK.out _ _ (bF ·) (fun _=>?_);refine cr.done (by kernel_rfl) ?_;gi_wp2;have dK:=iy.out;simp only [aD] at dK;exact dK
  ·go_simp
   have Pw:Hid (pY (B+5) w1 (Wd.alloc (.cells #[.string nm] 9)) _ _ _ _):=HTd.out.up (Up.alloc _ _) hSz;have Mw:B+5<=(Wd.alloc (.cells #[.string nm] 9)).heap.size:=aB hSz (Up.alloc _ _).size;refine hK.out _ _ (fun _=>Pw.out.low.block) (fun _=>?_);(try simp only [aL,aM,aN]);refine cr.step (i:=5) rfl (by kernel_rfl) (fun K' hK=>?_);go_simp;have ES:Hid (pY (B+5) w1 ((Wd.alloc (.cells #[.string nm] 9)).alloc (.cells #[.int .i64 z] 3)) _ _ _ _):=Pw.out.up (Up.alloc _ _) Mw;have GD:B+5<=((Wd.alloc (.cells #[.string nm] 9)).alloc (.cells #[.int .i64 z] 3)).heap.size:=aB Mw (Up.alloc _ _).size;refine hK.out _ _ (fun _=>ES.out.low.block) (fun _=>?_);(try simp only [aL,aM,aN]);have sP:=aS (Wd.alloc (.cells #[.string nm] 9)) #[.int .i64 z] 3 0;have uh:=(Up.alloc (Wd.alloc (.cells #[.string nm] 9)) (.cells #[.int .i64 z] 3)).cell (aS Wd #[.string nm] 9 0);rw [aQ] at sP;refine cr.step (i:=6) rfl (by kernel_rfl) (fun K' hK=>?_);refine rU (by rfl) _ _ _ (by rfl) (B+5) 3 _ 8 Tryz.underlying26 Tryz.iD (by rfl) (by decide) (by rfl) ES.out.cn (.int .i64 z) (Wd.heap.size+1) (by rfl) sP (by rfl) (by rw [aD,eC.out.1];omega) GD ?_;intro g1 Mx ki qZ kI hrg1 _;have Cg:Hid (pY (B+5) w1 ki _ _ _ _):=ES.out.vo GD qZ kI (hrg1.imp id (fun e=>fD e.symm));have ET:B+5<=ki.heap.size:=aB GD kI.size;(have tA:ki.cell? ⟨Wd.heap.size,0,none⟩=some (.string nm):=by rw [kI.cell_far ⟨Wd.heap.size,0,none⟩ (by simp;omega) (fun e=>absurd (av HTd.out.cn e.symm).2 (by show ¬(Wd.heap.size<Wd.heap.size);omega))];exact uh);refine hK.out _ _ (fun _=>Cg.out.low.block) (fun _=>?_);(try simp only [Act.put,aL,aM,aN]);refine cr.free (i:=15) (v:=?alc) rfl (by kernel_rfl) (fun _ _ _ h=>h) (by rfl) (fun _=>rfl) (fun w=>?aiv) (fun _=>Cg.out.low.block) ?ald
   case aiv =>go_simp;try with_reducible rfl
   (try simp only [Act.put,aL,aM,aN]);refine cr.step (i:=14) rfl (by kernel_rfl) (fun K' hK=>?_);refine rU (by rfl) _ _ _ (by rfl) (B+5) 9 _ 16 Tryz.underlying22 Tryz.K0 (by rfl) (by decide) (by rfl) Cg.out.cD (.string nm) Wd.heap.size (by rfl) tA (by rfl) (by rw [aD,eC.out.2];omega) ET ?_;intro g2 GF gy pE mU hrg2 _;have tN:Hid (pY (B+5) w1 gy _ _ _ _):=Cg.out.ur ET pE mU (hrg2.imp id (fun e=>fD e.symm));have hSf:B+5<=gy.heap.size:=aB ET mU.size;refine hK.out _ _ (fun _=>tN.out.low.block) (fun _=>?_);(try simp only [Act.put,aL,aM,aN]);have xu:gy.cell? ⟨B+1,0,none⟩=some (.slice pp pre.length pc):=(nu.out gy tN.out.low.block).1;have gC:gy.cell? ⟨B+1,1,none⟩=some (.slice np pre.length nc):=(nu.out gy tN.out.low.block).2.1;have GG:gy.frozen? ⟨B+1,0,none⟩=false:=TI.out gy tN.out.low.block 0;have Bv:gy.frozen? ⟨B+1,1,none⟩=false:=TI.out gy tN.out.low.block 1;have iy:=aa (VQ.out gy _ _ tN.out);refine cr.step (i:=16) rfl (by kernel_rfl) (fun K' hK=>?_);go_simp;refine hK.out _ _ (bF ·) (fun _=>?_);(try simp only [aL,aM,aN]);refine cr.free (i:=17) (v:=?ale) rfl (by kernel_rfl) (fun _ _ _ h=>h) (by rfl) (fun _=>rfl) (fun w=>?aiw) (bF ·) ?alf
   case aiw =>go_simp;try with_reducible rfl
   (try simp only [Act.put,aL,aM,aN]);refine cr.step (i:=18) rfl (by kernel_rfl) (fun K' hK=>?_);go_simp;refine hK.out _ _ (bF ·) (fun _=>?_);refine cr.done (by kernel_rfl) ?_;gi_wp2;have dK:=iy.out;simp only [aD] at dK;exact dK
 ·rintro D xs W hD hS ⟨hks,iE,Pv,Nv,iM,Cf,hmp,TE⟩ hK
  have hb0:W.cell? ⟨B+1,0,none⟩=some Pv:=by simp [World.cell?,iM]
  have hb1:W.cell? ⟨B+1,1,none⟩=some Nv:=by simp [World.cell?,iM]
  have GH:W.heap[B]? = some (Obj.cells #[.slice none 0 0,.slice none 0 0] 39 (0,0)):=(hks B ⟨by omega,by omega,by omega⟩).trans hr6;have hok:xR n xs.length (eV F (dN xs)):=VM xs;obtain ⟨pp,pc,rfl,_⟩:=Cf.cn.form (n:=xs.length) (by rw [aD];exact hok.lp);obtain ⟨np,nc,rfl,_⟩:=Cf.cD.form (n:=xs.length) (by rw [aD];exact hok.ln);have nV:W.cell? ⟨B,0,none⟩=some (.slice none 0 0):=by simp [World.cell?,GH]
  have hr1:W.cell? ⟨B,1,none⟩=some (.slice none 0 0):=by simp [World.cell?,GH]
  have Ch:W.frozen? ⟨B,0,none⟩=false:=by simp [World.frozen?,GH]
  have sQ:W.frozen? ⟨B,1,none⟩=false:=by simp [World.frozen?,GH]
  gi_wp2_with fail;have hD2:D≠B:=by omega
  have hK2:((W.setCell ⟨B,0,none⟩ (.slice pp xs.length pc)).setCell ⟨B,1,none⟩ (.slice np xs.length nc)).heap[D]? = some (.deferred (some [])):=by rw [blk_setCell_other _ _ _ _ hD2,blk_setCell_other _ _ _ _ hD2];exact hK
  refine ⟨by simp,.inl ⟨_,_,rfl,run_takeDeferred hK2,?_⟩⟩;have hheap:((W.setCell ⟨B,0,none⟩ (.slice pp xs.length pc)).setCell ⟨B,1,none⟩ (.slice np xs.length nc)).heap[B]? = some (Obj.cells #[.slice pp xs.length pc,.slice np xs.length nc] 39 (0,0)):=by simp [World.setCell,Array.getElem?_modify,GH]
  have hq:∀b,b≠D->(((W.setCell ⟨B,0,none⟩ (.slice pp xs.length pc)).setCell ⟨B,1,none⟩ (.slice np xs.length nc)).putObj D (.deferred none)).heap[b]? = ((W.setCell ⟨B,0,none⟩ (.slice pp xs.length pc)).setCell ⟨B,1,none⟩ (.slice np xs.length nc)).heap[b]?:=fun b hb=>l9 hb;have X3:=(hq B (iJ hD2)).trans hheap;have DT:∀b,b≠B->((W.setCell ⟨B,0,none⟩ (.slice pp xs.length pc)).setCell ⟨B,1,none⟩ (.slice np xs.length nc)).heap[b]? = W.heap[b]?:=fun b hb=>by rw [blk_setCell_other _ _ _ _ hb,blk_setCell_other _ _ _ _ hb]
  have hsz:(((W.setCell ⟨B,0,none⟩ (.slice pp xs.length pc)).setCell ⟨B,1,none⟩ (.slice np xs.length nc)).putObj D (.deferred none)).heap.size=W.heap.size:=by simp [World.size_setCell]
  have hos:(((W.setCell ⟨B,0,none⟩ (.slice pp xs.length pc)).setCell ⟨B,1,none⟩ (.slice np xs.length nc)).putObj D (.deferred none)).os=W.os/\(((W.setCell ⟨B,0,none⟩ (.slice pp xs.length pc)).setCell ⟨B,1,none⟩ (.slice np xs.length nc)).putObj D (.deferred none)).tape=W.tape/\(((W.setCell ⟨B,0,none⟩ (.slice pp xs.length pc)).setCell ⟨B,1,none⟩ (.slice np xs.length nc)).putObj D (.deferred none)).output=W.output:=⟨rfl,rfl,rfl⟩;generalize ((W.setCell ⟨B,0,none⟩ (.slice pp xs.length pc)).setCell ⟨B,1,none⟩ (.slice np xs.length nc)).putObj D (.deferred none)=We at *;have hc0:We.cell? ⟨B,0,none⟩=some (.slice pp xs.length pc):=by simp [World.cell?,X3]
  have hc1:We.cell? ⟨B,1,none⟩=some (.slice np xs.length nc):=by simp [World.cell?,X3]
  have hown:∀ {e:TypeId} {v:Value} {vs:List Value},au (B+5) e W v vs->au (B+5) e We v vs:=fun ho=>ho.same fun b hb=>by have h1:=(av ho hb).1;obtain ⟨c,hc⟩:=ho.typed hb;(have hbD:b≠D:=fun e=>by subst e;rw [hK] at hc;cases hc);rw [hq b hbD,DT b (by omega)]
  refine ⟨.agg #[.slice pp xs.length pc,.slice np xs.length nc],by simp [results,Tryz.results165,go_sem,hc0,hc1],?_,_,rfl,.slice pp xs.length pc,.slice np xs.length nc,rfl,?_,?_⟩
  ·have hX:=HX.out
   have hBw:=HB.out;refine ⟨hos.1.trans (iE.os.trans hX.os),hos.2.1.trans (iE.tape.trans hX.tape),hos.2.2.trans (iE.output.trans hX.output),?_,fun b hb=>?_⟩
   ·rw [hsz];have h1:=hX.size;have h2:=iE.size;omega
   ·rw [hBw] at hb
    rw [hq b (by omega),DT b (by omega),iE.block b (by omega)];exact bH hX b (by rw [hBw];exact hb)
  ·show af (fun b=>w.heap.size<=b) We _ (eV F (gT F rk i none)).ps
   rw [<- hS,HB.out];exact (hown Cf.cn).ints.sub fun b (hb:B+5<=b) _=>(by omega:B<=b)
  ·show aj (fun b=>w.heap.size<=b) We _ (eV F (gT F rk i none)).ns
   rw [<- hS,HB.out];exact (hown Cf.cD).strs.sub fun b (hb:B+5<=b) _=>(by omega:B<=b)
 ·rintro D c pre W _ _ h _
  exact h.elim
end Go.Proofs.YthgabkgmkolobaaGreat
