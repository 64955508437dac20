/- The contract of phylotree.tree. -/
import Derived.RangeFuncWrites
import Derived.Test.YthgabkgmkolobaaGreatQ12
import Derived.Test.YthgabkgmkolobaaGreatQ13
set_option maxRecDepth 100000
set_option maxHeartbeats 4000000
namespace Go.Proofs.YthgabkgmkolobaaGreat
open Go.RowKit Go.Shelf Go.Deep
attribute [local go_sem] Oper.semAt_some
theorem Tryz.CZ:(Tryz.prog.info? 9).map (fun i=>(i.zero,i.size,i.bytes))=some (some (.string ⟨#[]⟩),1,16):=by kernel_rfl
def lX (l:List (Option Nat×Int)) (k:Option Nat) (v:Int):List (Option Nat×Int):=if (l.lookup k).isNone then l++[(k,v)] else l.map fun x=>if x.1=k then (k,v) else x
structure xN where
 mp:List (Option Nat×Int)
 ps:List Int
 ns:List ByteArray
def oI (F:aX) (s:xN) (x:Nat×Option Nat):xN :=
 ⟨lX s.mp (some x.1) s.ps.length,s.ps++[((lX s.mp (some x.1) s.ps.length).lookup x.2).getD 0],s.ns++[F.nm x.1]⟩
def C6:xN:=⟨[(none,-1)],[],[]⟩
def cZ (F:aX) (l:List (Nat×Option Nat)):xN:=l.foldl (oI F) C6
theorem yC (F:aX) (l:List (Nat×Option Nat)) (x:Nat×Option Nat):cZ F (l++[x])=oI F (cZ F l) x:=by simp [cZ]
def gG (F:aX) (rk:Nat->Nat) (i:Nat):aF:=⟨(cZ F (eD F rk i none)).ps,(cZ F (eD F rk i none)).ns⟩
def mQ (A:Nat->Nat) (l:List (Option Nat×Int)):List (Option Nat×Value):=l.map fun x=>(x.1.map A,.int .i64 x.2)
def vD (n:Nat) (l:List (Option Nat×Int)):Prop:=∀x∈l,∀k,x.1=some k->k<n
theorem map_inj {A:Nat->Nat} {n:Nat} (hinj:∀i j,i<n->j<n->A i=A j->i=j) {x y:Option Nat} (hx:∀k,x=some k->k<n) (hy:∀k,y=some k->k<n) (h:x.map A=y.map A):x=y:=by
 cases x with
 | none=>cases y with
  | none=>rfl
  | some b=>cases h
 | some a=>cases y with
  | none=>cases h
  | some b =>
   simp only [Option.map_some,Option.some.injEq] at h;rw [hinj a b (hx a rfl) (hy b rfl) h]
theorem Aj {A:Nat->Nat} {n:Nat} (hinj:∀i j,i<n->j<n->A i=A j->i=j) {k:Option Nat} (hk:∀j,k=some j->j<n):∀ {l:List (Option Nat×Int)},vD n l->(mQ A l).lookup (k.map A)=(l.lookup k).map (Value.int .i64):=by
 intro l
 induction l with
 | nil=>intro _;rfl
 | cons x l ih =>
  intro hl;obtain ⟨x1,x2⟩:=x;have hl2:vD n l:=fun z hz=>hl z (by simp [hz]);show List.lookup (k.map A) ((x1.map A,Value.int .i64 x2)::mQ A l)=_;rw [dV,dV];by_cases h:k=x1
  ·subst h;simp
  ·have h1:(k==x1)=false:=by simpa using h
   (have h2:(k.map A==x1.map A)=false:=by simp only [beq_eq_false_iff_ne,ne_eq];exact fun e=>h (map_inj hinj hk (fun j hj=>hl (x1,x2) (by simp) j hj) e));rw [h1,h2];exact ih hl2
theorem QE {A:Nat->Nat} {n:Nat} (hinj:∀i j,i<n->j<n->A i=A j->i=j) {k:Option Nat} (hk:∀j,k=some j->j<n) {l:List (Option Nat×Int)} (hl:vD n l) (v:Int):uT (mQ A l) (k.map A) (.int .i64 v)=mQ A (lX l k v):=by
 unfold uT lX;rw [Aj hinj hk hl];cases h:l.lookup k with
 | none=>simp [mQ]
 | some y =>
  simp only [Option.map_some,Option.isNone_some,Bool.false_eq_true,if_false];unfold mQ;rw [jS,jS];refine jR fun x hx=>?_;show (if x.1.map A=k.map A then (k.map A,Value.int .i64 v) else (x.1.map A,Value.int .i64 x.2))=((if x.1=k then (k,v) else x).1.map A,Value.int .i64 (if x.1=k then (k,v) else x).2);by_cases e:x.1=k
  ·rw [if_pos (by rw [e]),if_pos e]
  ·rw [if_neg (fun e2=>e (map_inj hinj (fun j hj=>hl x hx j hj) hk e2)),if_neg e]
theorem Nz {n:Nat} {l:List (Option Nat×Int)} (hl:vD n l) {k:Option Nat} (hk:∀j,k=some j->j<n) (v:Int):vD n (lX l k v):=by
 intro x hx;unfold lX at hx;split at hx
 ·rcases cu.1 hx with h | h
  ·exact hl x h
  ·have:x=(k,v):=by simpa using h
   subst this;exact hk
 ·obtain ⟨y,hy,e⟩:=di.1 hx
  split at e
  ·subst e;exact hk
  ·subst e;exact hl y hy
structure rM (n m:Nat) (s:xN):Prop where
 keys:vD n s.mp
 lp:s.ps.length=m
 ln:s.ns.length=m
theorem rM.step {n m:Nat} {s:xN} {F:aX} (h:rM n m s) (x:mJ n):rM n (m+1) (oI F s x.1) :=
 ⟨Nz h.keys (fun j hj=>by cases hj;exact x.2.1) _,by show (s.ps++[_]).length=_;rw [bg,h.lp];rfl,by show (s.ns++[_]).length=_;rw [bg,h.ln];rfl⟩
theorem LJ {n:Nat} {F:aX}:∀(l:List (mJ n)) (m:Nat) (s:xN),rM n m s->rM n (m+l.length) ((dc l).foldl (oI F) s):=by
 intro l
 induction l with
 | nil=>intro m s h;exact h
 | cons x l ih =>
  intro m s h;have h2:=ih (m+1) _ (h.step (F:=F) x);rw [show m+(x::l).length=m+1+l.length by simp;omega];exact h2
theorem LK {n:Nat} {F:aX} (l:List (mJ n)):rM n l.length (cZ F (dc l)):=by
 have h:=LJ (F:=F) l 0 C6 ⟨fun x hx k hk=>(by
  have:x=(none,-1):=by simpa [C6] using hx
  subst this;cases hk),rfl,rfl⟩
 rw [ij] at h;exact h
def NA (w:World) (t:aF) (e:Ending) (w':World):Prop:=Up w w'/\∃v,e=.returned v/\aC (fun b=>w.heap.size<=b) w' v t
structure kW (B0:Nat) (w1 W:World) (Pv Nv:Value) (ps:List Int) (ns:List ByteArray):Prop where
 dG:ax B0 3 W Pv (ps.map (Value.int .i64))
 en:ax B0 9 W Nv (ns.map Value.string)
 apart:∀b,Pv.ownBlock=some b->Nv.ownBlock≠some b
 low:Below B0 w1 W
 fns:∀(b:Nat) (c:Array Value) (z:Nat×Nat),w1.heap[b]? = some (Obj.cells c 258 z)->W.heap[b]? = w1.heap[b]?
 far:KeepsFrom B0 w1 W
section
variable {B0:Nat} {w1 W W':World} {Pv Nv:Value} {ps:List Int} {ns:List ByteArray}
theorem ax.typed {base:Nat} {e:TypeId} {w:World} {v:Value} {vs:List Value} (h:ax base e w v vs) {b:Nat} (hb:v.ownBlock=some b):∃c,w.heap[b]? = some (Obj.cells c e (0,0)):=by
 obtain ⟨_,⟨rfl,_⟩ | ⟨g,cap,cur,rfl,_,hc,_⟩⟩:=h
 ·cases hb
 ·injection hb with hb;subst hb;exact ⟨cur,hc⟩
theorem kW.up (h:kW B0 w1 W Pv Nv ps ns) (hu:Up W W') (hB:B0<=W.heap.size):kW B0 w1 W' Pv Nv ps ns :=
 ⟨h.dG.same fun b hb=>bH hu b (aG h.dG hb).2,h.en.same fun b hb=>bH hu b (aG h.en hb).2,h.apart,fc h.low (Below.mono hu hB),fun b c z hb=>by
  have h1:=h.fns b c z hb
  rw [<- h1]
  exact bH hu b (by rw [hb] at h1;exact (fW.1 h1).1),h.far.trans ⟨hu.size,fun k o _ hk _=>(bH hu k (fW.1 hk).1).trans hk⟩⟩
theorem kW.AX (h:kW B0 w1 W Pv Nv ps ns) (hB:B0<=W.heap.size) {g cap k:Nat} {u:Int} (ho:ax B0 3 W' (.slice (some ⟨g,0,none⟩) k cap) (ps.map (Value.int .i64)++[.int .i64 u])) (hg:W.grownBy W' Pv.ownBlock) (eZ:Pv.ownBlock=some g\/W.heap.size<=g) :
  kW B0 w1 W' (.slice (some ⟨g,0,none⟩) k cap) Nv (ps++[u]) ns:=by
 refine ⟨by rw [cm];exact ho,h.en.same fun b hb=>hg.block b (aG h.en hb).2 (fun e=>h.apart b e.symm hb),fun b hb hb2=>?_,fc h.low (h.dG.dX hg hB),fun b c z hb=>?_,h.far.trans ⟨hg.size,fun k o _ hk hc=>(hg.block k (fW.1 hk).1 (fun e=>?_)).trans hk⟩⟩
 ·injection hb with hb
  have hb:g=b:=hb;subst hb;rcases eZ with h1 | h1
  ·exact h.apart g h1 hb2
  ·have:=(aG h.en hb2).2;omega
 ·have h1:=h.fns b c z hb
  rw [<- h1];refine hg.block b (by rw [hb] at h1;exact (fW.1 h1).1) (fun e=>?_);obtain ⟨c2,h2⟩:=h.dG.typed e.symm;rw [h1,hb] at h2;injection h2 with h2;injection h2 with _ h2 _;cases h2
 ·obtain ⟨c2,h2⟩:=h.dG.typed e.symm
  rw [h2] at hk;injection hk with hk;subst hk;cases hc
theorem kW.AY (h:kW B0 w1 W Pv Nv ps ns) (hB:B0<=W.heap.size) {g cap k:Nat} {u:ByteArray} (ho:ax B0 9 W' (.slice (some ⟨g,0,none⟩) k cap) (ns.map Value.string++[.string u])) (hg:W.grownBy W' Nv.ownBlock) (eZ:Nv.ownBlock=some g\/W.heap.size<=g) :
  kW B0 w1 W' Pv (.slice (some ⟨g,0,none⟩) k cap) ps (ns++[u]):=by
 refine ⟨h.dG.same fun b hb=>hg.block b (aG h.dG hb).2 (fun e=>h.apart b hb e.symm),by rw [cm];exact ho,fun b hb hb2=>?_,fc h.low (h.en.dX hg hB),fun b c z hb=>?_,h.far.trans ⟨hg.size,fun k o _ hk hc=>(hg.block k (fW.1 hk).1 (fun e=>?_)).trans hk⟩⟩
 ·injection hb2 with hb2
  have hb2:g=b:=hb2;subst hb2;rcases eZ with h1 | h1
  ·exact h.apart g hb h1
  ·have:=(aG h.dG hb).2;omega
 ·have h1:=h.fns b c z hb
  rw [<- h1];refine hg.block b (by rw [hb] at h1;exact (fW.1 h1).1) (fun e=>?_);obtain ⟨c2,h2⟩:=h.en.typed e.symm;rw [h1,hb] at h2;injection h2 with h2;injection h2 with _ h2 _;cases h2
 ·obtain ⟨c2,h2⟩:=h.en.typed e.symm
  rw [h2] at hk;injection hk with hk;subst hk;cases hc
end
def Eb (n B0 Bt m:Nat) (A:Nat->Nat) (F:aX) (T:Nat->Prop) (w6:World) (pre:List (mJ n)) (W:World):Prop :=
 KS T w6 W/\Below (Bt) w6 W/\∃Pv Nv,W.heap[Bt]? = some (Obj.cells #[Pv,Nv] 39 (0,0))/\kW B0 W W Pv Nv (cZ F (dc pre)).ps (cZ F (dc pre)).ns/\jZ W m (mQ A (cZ F (dc pre)).mp)/\wT (mQ A (cZ F (dc pre)).mp)
theorem Eb.own {n B:Nat} {A:Nat->Nat} {F:aX} {w6:World} (hz:w6.heap.size=B+5):OwnFrom w6.heap.size (Eb n (B+5) (B+1) (B+1+1) A F (fun b=>b<B+5/\b≠B+1/\b≠B+1+1) w6):=by
 intro s X Y row hs hg hr;obtain ⟨hk,hb,Pv,Nv,j8,hT,hm,hu⟩:=hs;have hsz:B+5<=X.heap.size:=by have:=hb.size;omega
 have AZ:∀b,b<B+5->Y.heap[b]? = X.heap[b]?:=fun b hb2=>hg.block b (by omega) (fun e=>by obtain ⟨h1,_⟩:=hr b e.symm;omega)
 have hcell:∀(b:Nat) (c:Array Value) (e:TypeId) (z:Nat×Nat),X.heap[b]? = some (Obj.cells c e z)->Y.heap[b]? = X.heap[b]?:=fun b c e z hc=>hg.block b (fW.1 hc).1 (fun e2=>by
  obtain ⟨_,o,h1,h2⟩:=hr b e2.symm
  rw [hc] at h1;injection h1 with h1;subst h1;cases h2)
 refine ⟨fun b hb2=>(AZ b hb2.1).trans (hk b hb2),⟨hg.os.trans hb.os,hg.tape.trans hb.tape,hg.output.trans hb.output,aR hb.size hg.size,fun b hb2=>(AZ b (by omega)).trans (hb.block b hb2)⟩,Pv,Nv,(AZ _ (by omega)).trans j8,?_,hm.of_block (AZ _ (by omega)),hu⟩;refine ⟨hT.dG.same fun b hb2=>?_,hT.en.same fun b hb2=>?_,hT.apart,cN _ _,fun _ _ _ _=>rfl,KeepsFrom.refl _ _⟩
 ·obtain ⟨c,hc⟩:=hT.dG.typed hb2;exact hcell _ _ _ _ hc
 ·obtain ⟨c,hc⟩:=hT.en.typed hb2;exact hcell _ _ _ _ hc
theorem Eb.next {n B:Nat} {A:Nat->Nat} {F:aX} {w6 W w1 We:World} (hz:w6.heap.size=B+5) {pre:List (mJ n)} {x:mJ n} (hks:KS (fun b=>b<B+5/\b≠B+1/\b≠B+1+1) w6 W) (lD:Below (B+1) w6 W)
  {P0 N0:Value} (j8:W.heap[B+1]? = some (Obj.cells #[P0,N0] 39 (0,0))) {es:List (Option Nat×Value)} (aan:jZ W (B+1+1) es)
  (C7:jZ w1 (B+1+1) (mQ A (cZ F (dc (pre++[x]))).mp)) (Ke:wT (mQ A (cZ F (dc (pre++[x]))).mp)) (hs1:w1.heap.size=W.heap.size) (Ak:w1.os=W.os) (LL:w1.tape=W.tape) (LM:w1.output=W.output) (hb1:∀j,j≠B+1+1->w1.heap[j]? = W.heap[j]?)
  {Pv Nv:Value} (hT:kW (B+5) w1 We Pv Nv (cZ F (dc (pre++[x]))).ps (cZ F (dc (pre++[x]))).ns) :
  KeepsFrom w6.heap.size W ((We.setCell ⟨B+1,0,none⟩ Pv).setCell ⟨B+1,1,none⟩ Nv)/\KN (fun b=>b<B+5/\b≠B+1/\b≠B+1+1) W ((We.setCell ⟨B+1,0,none⟩ Pv).setCell ⟨B+1,1,none⟩ Nv) /\
   Eb n (B+5) (B+1) (B+1+1) A F (fun b=>b<B+5/\b≠B+1/\b≠B+1+1) w6 (pre++[x]) ((We.setCell ⟨B+1,0,none⟩ Pv).setCell ⟨B+1,1,none⟩ Nv):=by
 have dw:∀b,b≠B+1->((We.setCell ⟨B+1,0,none⟩ Pv).setCell ⟨B+1,1,none⟩ Nv).heap[b]? = We.heap[b]?:=fun b hb=>by rw [blk_setCell_other _ _ _ _ hb,blk_setCell_other _ _ _ _ hb]
 have hsz:((We.setCell ⟨B+1,0,none⟩ Pv).setCell ⟨B+1,1,none⟩ Nv).heap.size=We.heap.size:=by simp [World.size_setCell]
 have B4:We.heap[B+1]? = some (Obj.cells #[P0,N0] 39 (0,0)):=(hT.low.block (B+1) (by omega)).trans ((hb1 _ (by omega)).trans j8);have hbf:((We.setCell ⟨B+1,0,none⟩ Pv).setCell ⟨B+1,1,none⟩ Nv).heap[B+1]? = some (Obj.cells #[Pv,Nv] 39 (0,0)):=by simp [World.setCell,Array.getElem?_modify,B4]
 have VQ:KS (fun b=>b<B+5/\b≠B+1/\b≠B+1+1) W ((We.setCell ⟨B+1,0,none⟩ Pv).setCell ⟨B+1,1,none⟩ Nv):=fun b hb=>(dw b hb.2.1).trans ((hT.low.block b hb.1).trans (hb1 b hb.2.2))
 refine ⟨⟨?_,fun k o hk ho hc=>?_⟩,⟨VQ,fun b c z hb=>?_⟩,hks.trans VQ,⟨hT.low.os.trans (Ak.trans lD.os),hT.low.tape.trans (LL.trans lD.tape),hT.low.output.trans (LM.trans lD.output),?_,fun b hb=>(VQ b ⟨by omega,by omega,by omega⟩).trans (lD.block b hb)⟩,Pv,Nv,hbf,⟨hT.dG.same fun b hb=>dw b (by have:=(aG hT.dG hb).1;omega),hT.en.same fun b hb=>dw b (by have:=(aG hT.en hb).1;omega),hT.apart,cN _ _,fun _ _ _ _=>rfl,KeepsFrom.refl _ _⟩,C7.of_block ((dw _ (by omega)).trans (hT.low.block _ (by omega))),Ke⟩
 ·rw [hsz,<- hs1];exact hT.low.size
 ·rw [dw k (by omega)]
  exact hT.far.same k o (by omega) ((hb1 k (by omega)).trans ho) hc
 ·have hne:b≠B+1+1:=fun e=>by
   subst e
   obtain ⟨es',ck,h1,_⟩:=aan
   rw [h1] at hb;cases hb
  have QF:b≠B+1:=fun e=>by
   subst e
   rw [j8] at hb
   injection hb with hb
   injection hb with _ hb _
   cases hb
  rw [dw b QF,hT.fns b c z (by rw [hb1 b hne];exact hb),hb1 b hne]
 ·rw [hsz];have h1:=hT.low.size;have h2:=lD.size;omega
theorem NB {n base:Nat} {A:Nat->Nat} {kv:Nat->Value} {F:aX} {rk:Nat->Nat} (hwf:Wf F n rk) (hlen:∀i,i<n->(F.kids i).length<=1000) (w:World) (i:Nat) (hi:i<n) (hF:bB base n A kv F w) (hN:(eD F rk i none).length<=100000) :
  Calls Tryz.prog 165 #[.pointer (some ⟨A i,0,none⟩)] w (NA w (gG F rk i)):=by
 refine (callsIn_wide (n:=9)).1 ?_;refine callsIn_of_wp_marks Tryz.func165 rfl trivial ?_ rfl;simp only [Tryz.ntmps165,fo,aO,dz,Nat.reduceAdd,Nat.reduceSub,ic,ig,fk,wC,cw,bz];have hmm:=fun W=>run_makeMap (P:=Tryz.prog) 219 W;obtain ⟨w3,hw3⟩:∃w3,w3=((w.alloc (.cells #[.slice none 0 0,.slice none 0 0] 39)).alloc (.cells #[.slice none 0 0,.slice none 0 0] 39)).alloc (.map #[] 0):=⟨_,rfl⟩
 have dg:Up w w3:=by rw [hw3];exact ((Up.alloc _ _).trans (Up.alloc _ _)).trans (Up.alloc _ _)
 have hz3:w3.heap.size=w.heap.size+3:=by rw [hw3];simp
 have Z9:jZ w3 (w.heap.size+1+1) []:=⟨#[],0,by
  rw [hw3];have h:=blk_alloc_new ((w.alloc (.cells #[.slice none 0 0,.slice none 0 0] 39)).alloc (.cells #[.slice none 0 0,.slice none 0 0] 39)) (.map #[] 0)
  simp only [aL] at h;exact h,rfl⟩
 have ht3:w3.heap[w.heap.size+1]? = some (Obj.cells #[.slice none 0 0,.slice none 0 0] 39 (0,0)):=by rw [hw3,blk_alloc_lt _ _ _ (by simp)];have h:=blk_alloc_new (w.alloc (.cells #[.slice none 0 0,.slice none 0 0] 39)) (.cells #[.slice none 0 0,.slice none 0 0] 39);rw [aL] at h;exact h
 have hr3:w3.heap[w.heap.size]? = some (Obj.cells #[.slice none 0 0,.slice none 0 0] 39 (0,0)):=by rw [hw3,blk_alloc_lt _ _ _ (by simp;omega),blk_alloc_lt _ _ _ (by simp)];exact blk_alloc_new _ _
 obtain ⟨w4,dw,hp4,hs4,NC,VR,VS,hb4⟩:=Gi (P:=Tryz.prog) Tryz.underlying219 Tryz.underlying119 Tryz.sM Z9 List.nodup_nil (k:=none) (.int .i64 (-1)) trivial (fun x hx=>by cases hx);have dQ:Up w w4:=⟨NC.trans dg.os,VR.trans dg.tape,VS.trans dg.output,by rw [hs4];exact dg.size,fun b hb=>(hb4 b (by omega)).trans (bH dg b hb)⟩;have ht4:=(hb4 (w.heap.size+1) (by omega)).trans ht3;have hr4:=(hb4 w.heap.size (by omega)).trans hr3;have hz4:w4.heap.size=w.heap.size+3:=hs4.trans hz3;rw [hw3] at dw;simp only [pk] at dw;have kX:=aa dQ;have Kf:=aa ht4
 have HR4:=aa hr4;have Ec:=aa hz4;have Ed:=aa hp4;have HF:=aa hF;have Gf:=aa hwf;have HLEN:=aa hlen;have HN:=aa hN;clear hw3 dg hz3 Z9 ht3 hr3 hp4 hs4 NC VR VS hb4 dQ ht4 hr4 hz4 hF hwf hlen hN;gi_wp2_with fail;refine ⟨trivial,(callsIn_wide.2 (T6 _ _)).mono ?_⟩;rintro e w6 ⟨rfl,rfl⟩;rw [aL,Ec.out];gi_wp2_with fail;have fB:Up w4 ((w4.alloc (.cells #[.map (some (w.heap.size+1+1))] 219)).alloc (.cells #[.pointer (some ⟨A i,0,none⟩)] 119)):=(Up.alloc _ _).trans (Up.alloc _ _)
 have VT:((w4.alloc (.cells #[.map (some (w.heap.size+1+1))] 219)).alloc (.cells #[.pointer (some ⟨A i,0,none⟩)] 119)).heap.size=w.heap.size+5:=by simp [Ec.out]
 have hx6:((w4.alloc (.cells #[.map (some (w.heap.size+1+1))] 219)).alloc (.cells #[.pointer (some ⟨A i,0,none⟩)] 119)).cell? ⟨w.heap.size+3+1,0,none⟩=some (.pointer (some ⟨A i,0,none⟩)):=by have h:=aH (w4.alloc (.cells #[.map (some (w.heap.size+1+1))] 219)) #[.pointer (some ⟨A i,0,none⟩)] 119 0;rw [aL,Ec.out] at h;exact h
 have hm6:((w4.alloc (.cells #[.map (some (w.heap.size+1+1))] 219)).alloc (.cells #[.pointer (some ⟨A i,0,none⟩)] 119)).cell? ⟨w.heap.size+3,0,none⟩=some (.map (some (w.heap.size+1+1))):=by have h:=aH w4 #[.map (some (w.heap.size+1+1))] 219 0;rw [Ec.out] at h;exact (Up.alloc _ _).cell h
 have ht6:=(bH fB (w.heap.size+1) (by rw [Ec.out];omega)).trans Kf.out;have hr6:=(bH fB w.heap.size (by rw [Ec.out];omega)).trans HR4.out;have hp6:=Ed.out.of_block (bH fB (w.heap.size+1+1) (by rw [Ec.out];omega));have hF6:=(HF.out.up kX.out).up fB;have VU:=kX.out.trans fB;generalize (w4.alloc (.cells #[.map (some (w.heap.size+1+1))] 219)).alloc (.cells #[.pointer (some ⟨A i,0,none⟩)] 119)=w6 at *;have hlt:∀j,j<n->A j<w.heap.size:=fun j hj=>HF.out.lt hj;have hlo:∀j b,j<n->(kv j).ownBlock=some b->b<w.heap.size:=fun j b hj hb=>(HF.out.iA hj hb).2
 have hinj:=HF.out.inj;have HX:=aa (show Up w w6 from VU);clear fB VU kX Kf HR4 Ec Ed dw;generalize hB:w.heap.size=B at *;have HB:Hid (w.heap.size=B):=hB;clear hB;apply wpIn_rangeFunc_ownG (F:=Fence.wide) (n:=9) (P:=Tryz.prog) (ps:=#[11,12]) (w:=w6) rfl (by omega) (gf:=259) (lb:=#[.pointer (some ⟨B+3+1,0,none⟩)]) rfl trivial (enters_of Tryz.func259 (by kernel_rfl) rfl)
  (JB (T:=fun b=>b<B+5/\b≠B+1/\b≠B+1+1) Gf.out HLEN.out (fun j hj=>⟨by have:=hlt j hj;omega,by have:=hlt j hj;omega,by have:=hlt j hj;omega⟩) (fun j b hj hb=>⟨by have:=hlo j b hj hb;omega,by have:=hlo j b hj hb;omega,by have:=hlo j b hj hb;omega⟩) 8 (B+3+1) i hi w6 (fun b hb=>by rw [VT];exact hb.1) ⟨by omega,by omega,by omega⟩ hF6 hx6)
  (fun h k=>KN.trans h k) (fun W l o o' hl ho hc _=>⟨fun b hb=>kU (by have:=hb.1;omega),fun b c z hb=>kU (fun e=>by subst e;rw [hb] at ho;injection ho with ho;subst ho;cases hc)⟩) (cN _ _) (fun _=>(rfl:(2:Nat)=2))
  (Eb n (B+5) (B+1) (B+1+1) A F (fun b=>b<B+5/\b≠B+1/\b≠B+1+1) w6) (fun _ _ _=>False)
 ·exact Eb.own VT
 ·exact fun _ _ _ _ _ h _ _=>h
 ·exact ⟨KS.refl _ _,cN _ _,.slice none 0 0,.slice none 0 0,ht6,⟨ax.nil _ _ _,ax.nil _ _ _,fun b hb=>(by cases hb),cN _ _,fun _ _ _ _=>rfl,KeepsFrom.refl _ _⟩,hp6,by simp [wT,mQ,dc,cZ,C6]⟩
 ·intro l x W K hK
  simp only [CX];gi_wp2;exact hK
 ·rintro l pre x W ⟨hks,lD,Pv,Nv,j8,vE,hmp,Ke⟩ hpl
  obtain ⟨⟨x1,xp⟩,hx1,sS⟩:=x;have bG:=aa hlt;have VV:=aa hinj;have hxl:=hlt x1 hx1;have SN:bB base n A kv F W:=hF6.same (fun j hj=>hks (A j) ⟨by have:=hlt j hj;omega,by have:=hlt j hj;omega,by have:=hlt j hj;omega⟩) (fun j b hj hb=>hks b ⟨by have:=hlo j b hj hb;omega,by have:=hlo j b hj hb;omega,by have:=hlo j b hj hb;omega⟩);have hok:rM n pre.length (cZ F (dc pre)):=LK pre;have hb0:W.cell? ⟨B+1,0,none⟩=some Pv:=by simp [World.cell?,j8]
  have hmb:W.cell? ⟨B+3,0,none⟩=some (.map (some (B+1+1))):=by rw [fG (a:=⟨B+3,0,none⟩) (hks (B+3) ⟨by omega,by omega,by omega⟩)];exact hm6
  obtain ⟨pp,pc,rfl,_⟩:=vE.dG.form (n:=pre.length) (by rw [aD];exact hok.lp);have hkeys:∀z∈mQ A (cZ F (dc pre)).mp,gF W z.1:=fun z hz=>by
   obtain ⟨y,hy,rfl⟩:=di.1 hz;obtain ⟨y1,y2⟩:=y;cases y1 with
   | none=>trivial
   | some k=>exact SN.plain (hok.keys _ hy k rfl)
  obtain ⟨w1,dw,C7,hs1,Ak,LL,LM,hb1⟩:=Gi (P:=Tryz.prog) Tryz.underlying219 Tryz.underlying119 Tryz.sM hmp Ke (k:=some (A x1)) (.int .i64 (pre.length:Nat)) (SN.plain hx1) hkeys;simp only [pk] at dw;have QG:pre.length<=100000:=by have:=HN.out;omega
  gi_wp2;have kY:kW (B+5) w1 w1 (.slice pp pre.length pc) Nv (cZ F (dc pre)).ps (cZ F (dc pre)).ns:=⟨vE.dG.same fun b hb=>hb1 b (by have:=(aG vE.dG hb).1;omega),vE.en.same fun b hb=>hb1 b (by have:=(aG vE.en hb).1;omega),vE.apart,cN _ _,fun _ _ _ _=>rfl,KeepsFrom.refl _ _⟩;obtain ⟨np,nc,rfl,_⟩:=vE.en.form (n:=pre.length) (by rw [aD];exact hok.ln)
  have hput:uT (mQ A (cZ F (dc pre)).mp) (some (A x1)) (.int .i64 (pre.length:Nat))=mQ A (cZ F (dc (pre++[⟨(x1,xp),hx1,sS⟩]))).mp:=by rw [vC,show dc [(⟨(x1,xp),hx1,sS⟩:mJ n)]=[(x1,xp)] from rfl,yC];show _=mQ A (lX (cZ F (dc pre)).mp (some x1) ((cZ F (dc pre)).ps.length:Nat));rw [hok.lp,<- QE VV.out (fun j hj=>by cases hj;exact hx1) hok.keys];rfl
  rw [hput] at C7;have VW:wT (mQ A (cZ F (dc (pre++[⟨(x1,xp),hx1,sS⟩]))).mp):=by rw [<- hput];exact Nx Ke _ _
  have QH:rM n (pre++[(⟨(x1,xp),hx1,sS⟩:mJ n)]).length (cZ F (dc (pre++[⟨(x1,xp),hx1,sS⟩]))):=LK _;have Ea:bB base n A kv F w1:=SN.same (fun j hj=>hb1 _ (by have:=bG.out j hj;omega)) (fun j b hj hb=>hb1 _ (by have:=hlo j b hj hb;omega));obtain ⟨z,hz⟩:∃z:Int,z=(((cZ F (dc (pre++[⟨(x1,xp),hx1,sS⟩]))).mp).lookup xp).getD 0:=⟨_,rfl⟩;have VX:(cZ F (dc (pre++[⟨(x1,xp),hx1,sS⟩]))).ps=(cZ F (dc pre)).ps++[z]:=by rw [hz,vC,show dc [(⟨(x1,xp),hx1,sS⟩:mJ n)]=[(x1,xp)] from rfl,yC];rfl
  have VY:(cZ F (dc (pre++[⟨(x1,xp),hx1,sS⟩]))).ns=(cZ F (dc pre)).ns++[F.nm x1]:=by rw [vC,show dc [(⟨(x1,xp),hx1,sS⟩:mJ n)]=[(x1,xp)] from rfl,yC];rfl
  have LN:Hid (∀We P2 N2,kW (B+5) w1 We P2 N2 ((cZ F (dc pre)).ps++[z]) ((cZ F (dc pre)).ns++[F.nm x1])->KeepsFrom w6.heap.size W ((We.setCell ⟨B+1,0,none⟩ P2).setCell ⟨B+1,1,none⟩ N2)/\KN (fun b=>b<B+5/\b≠B+1/\b≠B+1+1) W ((We.setCell ⟨B+1,0,none⟩ P2).setCell ⟨B+1,1,none⟩ N2) /\
   Eb n (B+5) (B+1) (B+1+1) A F (fun b=>b<B+5/\b≠B+1/\b≠B+1+1) w6 (pre++[⟨(x1,xp),hx1,sS⟩]) ((We.setCell ⟨B+1,0,none⟩ P2).setCell ⟨B+1,1,none⟩ N2)):=fun We P2 N2 hT=>Eb.next VT hks lD j8 hmp C7 VW hs1 Ak LL LM hb1 (by rw [VX,VY];exact hT)
  have hb0:w1.heap[B+1]? = some (Obj.cells #[.slice pp pre.length pc,.slice np pre.length nc] 39 (0,0)):=(hb1 _ (by omega)).trans j8;have js:Hid (∀w',KS (fun b=>b<B+5) w1 w'->w'.cell? ⟨B+1,0,none⟩=some (.slice pp pre.length pc)/\w'.cell? ⟨B+1,1,none⟩=some (.slice np pre.length nc)/\w'.cell? ⟨B+3,0,none⟩=some (.map (some (B+1+1)))/\w'.cell? ⟨A x1,0,none⟩=some (.string (F.nm x1))/\(Instr.lookup 219 (.map (some (B+1+1))) (CW A xp) false).run Tryz.prog w'=.ok (.int .i64 z) w'):=fun w' hS=>by
   refine ⟨?_,?_,?_,?_,?_⟩
   ·simp [World.cell?,(hS (B+1) (by omega)).trans hb0]
   ·simp [World.cell?,(hS (B+1) (by omega)).trans hb0]
   ·rw [fG (a:=⟨B+3,0,none⟩) ((hS (B+3) (by show B+3<B+5;omega)).trans (hb1 (B+3) (by omega)))];exact hmb
   ·rw [fG (a:=⟨A x1,0,none⟩) (hS (A x1) (by show A x1<B+5;omega))];exact Ea.name hx1
   ·have hpl:∀j,j<n->Plain w' (A j):=fun j hj=>(Ea.plain hj).of_block (hS _ (by have:=bG.out j hj;show A j<B+5;omega))
    have h:=Ny (P:=Tryz.prog) (w:=w') Tryz.underlying219 Tryz.underlying119 Tryz.sM (z:=.int .i64 0) Tryz.zeroValue3 (C7.of_block (hS _ (by show B+1+1<B+5;omega))) (k:=xp.map A)
     (by cases xp with | none=>trivial | some k=>exact hpl k (sS k rfl)) (fun zz hzz=>by
      obtain ⟨y,hy,rfl⟩:=di.1 hzz;obtain ⟨y1,y2⟩:=y;cases y1 with
      | none=>trivial
      | some k=>exact hpl k (QH.keys _ hy k rfl))
    rw [Aj VV.out (fun j hj=>sS j hj) QH.keys] at h;(have e1:pk (xp.map A)=CW A xp:=by cases xp<;>rfl);(have e2:((((cZ F (dc (pre++[⟨(x1,xp),hx1,sS⟩]))).mp).lookup xp).map (Value.int .i64)).getD (.int .i64 0)=.int .i64 z:=by rw [hz];cases List.lookup xp (cZ F (dc (pre++[⟨(x1,xp),hx1,sS⟩]))).mp<;>rfl);rw [e1,e2] at h;exact h
  have Kg:Hid (∀w',KS (fun b=>b<B+5) w1 w'->∀o,w'.frozen? ⟨B+1,o,none⟩=false):=fun w' hS o=>by simp [World.frozen?,(hS (B+1) (by omega)).trans hb0]
  have SP:Hid (kW (B+5) w1 w1.drew (.slice pp pre.length pc) (.slice np pre.length nc) (cZ F (dc pre)).ps (cZ F (dc pre)).ns):=kY.up (Up.drewN w1 1) (by rw [hs1];have:=lD.size;omega);have nR:Hid ((cZ F (dc pre)).ps.length=pre.length/\(cZ F (dc pre)).ns.length=pre.length):=⟨hok.lp,hok.ln⟩;have SQ:B+5<=w1.drew.heap.size:=by show B+5<=w1.heap.size;rw [hs1];have:=lD.size;omega
  have ab5:=aa Ea;clear hput kY vE Ke VW hok QH VX VY hb0 Ea SN hmp C7 dw hks lD j8 hkeys hmb hz hb1 hs1 Ak LL LM hlt hlo hinj;generalize (cZ F (dc pre)).ps=PS at *;generalize (cZ F (dc pre)).ns=NS at *;generalize F.nm x1=nm at *;refine QB (by kernel_rfl) 15 (KS (fun b=>b<B+5) w1) (KS.refl _ _) (fun hS=>?_);simp only [fo,aO,dz,Nat.reduceAdd,ic,ig,fk,cw,bz];generalize w1.drew=Wd at *
  refine bE.take (i:=0) (v:=?gv0) rfl (by kernel_rfl) (fun _ _ _ h=>h) (by rfl) (fun _=>rfl) (fun w hSw=>?gy0) hS ?gr0
  case gy0 =>obtain ⟨q1,q2,q3,q4,q5⟩:=js.out w hSw;go_simp;try with_reducible rfl
  try simp only [Act.put,aj,aq,au]
  refine bE.take (i:=1) (v:=?gv1) rfl (by kernel_rfl) (fun _ _ _ h=>h) (by rfl) (fun _=>rfl) (fun w hSw=>?gy1) hS ?gr1
  case gy1 =>obtain ⟨q1,q2,q3,q4,q5⟩:=js.out w hSw;go_simp;try with_reducible rfl
  try simp only [Act.put,aj,aq,au]
  refine bE.take (i:=2) (v:=?gv2) rfl (by kernel_rfl) (fun _ _ _ h=>h) (by rfl) (fun _=>rfl) (fun w hSw=>?gy2) hS ?gr2
  case gy2 =>obtain ⟨q1,q2,q3,q4,q5⟩:=js.out w hSw;go_simp;try with_reducible rfl
  try simp only [Act.put,aj,aq,au]
  refine bE.take (i:=3) (v:=?gv3) rfl (by kernel_rfl) (fun _ _ _ h=>h) (by rfl) (fun _=>rfl) (fun w hSw=>?gy3) hS ?gr3
  case gy3 =>obtain ⟨q1,q2,q3,q4,q5⟩:=js.out w hSw;go_simp;try with_reducible rfl
  try simp only [Act.put,aj,aq,au]
  refine bE.take (i:=4) (v:=?gv4) rfl (by kernel_rfl) (fun _ _ _ h=>h) (by rfl) (fun _=>rfl) (fun w hSw=>?gy4) hS ?gr4
  case gy4 =>obtain ⟨q1,q2,q3,q4,q5⟩:=js.out w hSw;go_simp;try with_reducible rfl
  try simp only [Act.put,aj,aq,au]
  refine bE.take (i:=7) (v:=?gv7) rfl (by kernel_rfl) (fun _ _ _ h=>h) (by rfl) (fun _=>rfl) (fun w hSw=>?gy7) hS ?gr7
  case gy7 =>obtain ⟨q1,q2,q3,q4,q5⟩:=js.out w hSw;go_simp;try with_reducible rfl
  try simp only [Act.put,aj,aq,au]
  refine bE.take (i:=8) (v:=?gv8) rfl (by kernel_rfl) (fun _ _ _ h=>h) (by rfl) (fun _=>rfl) (fun w hSw=>?gy8) hS ?gr8
  case gy8 =>obtain ⟨q1,q2,q3,q4,q5⟩:=js.out w hSw;go_simp;try with_reducible rfl
  try simp only [Act.put,aj,aq,au]
  refine bE.take (i:=9) (v:=?gv9) rfl (by kernel_rfl) (fun _ _ _ h=>h) (by rfl) (fun _=>rfl) (fun w hSw=>?gy9) hS ?gr9
  case gy9 =>obtain ⟨q1,q2,q3,q4,q5⟩:=js.out w hSw;go_simp;try with_reducible rfl
  try simp only [Act.put,aj,aq,au]
  refine bE.take (i:=10) (v:=?ab6) rfl (by kernel_rfl) (fun _ _ _ h=>h) (by rfl) (fun _=>rfl) (fun w hSw=>?aao) hS ?ab7
  case aao =>obtain ⟨q1,q2,q3,q4,q5⟩:=js.out w hSw;go_simp;try with_reducible rfl
  try simp only [Act.put,aj,aq,au]
  refine bE.take (i:=11) (v:=?ab8) rfl (by kernel_rfl) (fun _ _ _ h=>h) (by rfl) (fun _=>rfl) (fun w hSw=>?aap) hS ?ab9
  case aap =>obtain ⟨q1,q2,q3,q4,q5⟩:=js.out w hSw;go_simp;try with_reducible rfl
  try simp only [Act.put,aj,aq,au]
  refine bE.take (i:=12) (v:=?acd) rfl (by kernel_rfl) (fun _ _ _ h=>h) (by rfl) (fun _=>rfl) (fun w hSw=>?aaq) hS ?ace
  case aaq =>obtain ⟨q1,q2,q3,q4,q5⟩:=js.out w hSw;go_simp;try with_reducible rfl
  try simp only [Act.put,aj,aq,au]
  refine bE.ug (i:=5) (i2:=13) rfl rfl (by kernel_rfl) (fun K' hK=>?_) (fun K' hK=>?_)
  ·go_simp
   have Gj:Hid (kW (B+5) w1 (Wd.alloc (.cells #[.int .i64 z] 3)) _ _ _ _):=SP.out.up (Up.alloc _ _) SQ;have Ee:B+5<=(Wd.alloc (.cells #[.int .i64 z] 3)).heap.size:=aR SQ (Up.alloc _ _).size;refine hK.out _ _ (fun _=>Gj.out.low.block) (fun _=>?_);(try simp only [aj,aq,au]);refine bE.ug (i:=6) (i2:=13) rfl rfl (by kernel_rfl) (fun K' hK=>?_) (fun K' hK=>?_)
   ·refine mB (by rfl) _ _ _ (by rfl) (B+5) 3 _ 8 Tryz.underlying26 Tryz.mA (by rfl) (by decide) (by rfl) Gj.out.dG (.int .i64 z) Wd.heap.size (by rfl) (aH Wd #[.int .i64 z] 3 0) (by rfl) (by rw [aD,nR.out.1];omega) Ee ?_
    intro g1 ND kZ sU lq hrg1 _;have yD:Hid (kW (B+5) w1 kZ _ _ _ _):=Gj.out.AX Ee sU lq (hrg1.imp id (fun e=>gQ e.symm));have Al:B+5<=kZ.heap.size:=aR Ee lq.size;refine hK.out _ _ (fun _=>yD.out.low.block) (fun _=>?_);(try simp only [Act.put,aj,aq,au]);refine bE.free (i:=15) (v:=?abA) rfl (by kernel_rfl) (fun _ _ _ h=>h) (by rfl) (fun _=>rfl) (fun w=>?Y9) (fun _=>yD.out.low.block) ?abB
    case Y9 =>go_simp;try with_reducible rfl
    (try simp only [Act.put,aj,aq,au]);refine bE.step (i:=13) rfl (by kernel_rfl) (fun K' hK=>?_);go_simp;have vF:Hid (kW (B+5) w1 (kZ.alloc (.cells #[.string nm] 9)) _ _ _ _):=yD.out.up (Up.alloc _ _) Al;have yE:B+5<=(kZ.alloc (.cells #[.string nm] 9)).heap.size:=aR Al (Up.alloc _ _).size;refine hK.out _ _ (fun _=>vF.out.low.block) (fun _=>?_);(try simp only [aj,aq,au]);refine bE.step (i:=14) rfl (by kernel_rfl) (fun K' hK=>?_)
    refine mB (by rfl) _ _ _ (by rfl) (B+5) 9 _ 16 Tryz.underlying22 Tryz.CZ (by rfl) (by decide) (by rfl) vF.out.en (.string nm) kZ.heap.size (by rfl) (aH kZ #[.string nm] 9 0) (by rfl) (by rw [aD,nR.out.2];omega) yE ?_;intro g2 NF fK sV oJ hrg2 _;have nS:Hid (kW (B+5) w1 fK _ _ _ _):=vF.out.AY yE sV oJ (hrg2.imp id (fun e=>gQ e.symm));have hSf:B+5<=fK.heap.size:=aR yE oJ.size;refine hK.out _ _ (fun _=>nS.out.low.block) (fun _=>?_)
    (try simp only [Act.put,aj,aq,au]);have B4:fK.cell? ⟨B+1,0,none⟩=some (.slice pp pre.length pc):=(js.out fK nS.out.low.block).1;have oK:fK.cell? ⟨B+1,1,none⟩=some (.slice np pre.length nc):=(js.out fK nS.out.low.block).2.1;have NG:fK.frozen? ⟨B+1,0,none⟩=false:=Kg.out fK nS.out.low.block 0;have Gk:fK.frozen? ⟨B+1,1,none⟩=false:=Kg.out fK nS.out.low.block 1;have oL:=aa (LN.out fK _ _ nS.out);refine bE.step (i:=16) rfl (by kernel_rfl) (fun K' hK=>?_);go_simp
    refine hK.out _ _ (aS (by kernel_rfl)) (fun _=>?_);(try simp only [aj,aq,au]);refine bE.free (i:=17) (v:=?abC) rfl (by kernel_rfl) (fun _ _ _ h=>h) (by rfl) (fun _=>rfl) (fun w=>?Za) (aS (by kernel_rfl)) ?abD
    case Za =>go_simp;try with_reducible rfl
    (try simp only [Act.put,aj,aq,au]);refine bE.step (i:=18) rfl (by kernel_rfl) (fun K' hK=>?_);go_simp;refine hK.out _ _ (aS (by kernel_rfl)) (fun _=>?_);refine bE.done (by kernel_rfl) ?_;gi_wp2;have dR:=oL.out;simp only [aD] at dR;exact dR
   ·go_simp
    have yD:Hid (kW (B+5) w1 ((Wd.alloc (.cells #[.int .i64 z] 3)).alloc (.cells #[.string nm] 9)) _ _ _ _):=Gj.out.up (Up.alloc _ _) Ee;have Al:B+5<=((Wd.alloc (.cells #[.int .i64 z] 3)).alloc (.cells #[.string nm] 9)).heap.size:=aR Ee (Up.alloc _ _).size;refine hK.out _ _ (fun _=>yD.out.low.block) (fun _=>?_);(try simp only [aj,aq,au]);have rB:=aH (Wd.alloc (.cells #[.int .i64 z] 3)) #[.string nm] 9 0
    have oC:=(Up.alloc (Wd.alloc (.cells #[.int .i64 z] 3)) (.cells #[.string nm] 9)).cell (aH Wd #[.int .i64 z] 3 0);rw [aL] at rB;refine bE.step (i:=6) rfl (by kernel_rfl) (fun K' hK=>?_);refine mB (by rfl) _ _ _ (by rfl) (B+5) 3 _ 8 Tryz.underlying26 Tryz.mA (by rfl) (by decide) (by rfl) yD.out.dG (.int .i64 z) Wd.heap.size (by rfl) oC (by rfl) (by rw [aD,nR.out.1];omega) Al ?_;intro g1 ND kZ sU lq hrg1 _;have vF:Hid (kW (B+5) w1 kZ _ _ _ _):=yD.out.AX Al sU lq (hrg1.imp id (fun e=>gQ e.symm))
    have yE:B+5<=kZ.heap.size:=aR Al lq.size;(have sG:kZ.cell? ⟨Wd.heap.size+1,0,none⟩=some (.string nm):=by rw [lq.cell_far ⟨Wd.heap.size+1,0,none⟩ (by simp) (fun e=>absurd (aG SP.out.dG e.symm).2 (by show ¬(Wd.heap.size+1<Wd.heap.size);omega))];exact rB);refine hK.out _ _ (fun _=>vF.out.low.block) (fun _=>?_);(try simp only [Act.put,aj,aq,au]);refine bE.free (i:=15) (v:=?abE) rfl (by kernel_rfl) (fun _ _ _ h=>h) (by rfl) (fun _=>rfl) (fun w=>?Zb) (fun _=>vF.out.low.block) ?abF
    case Zb =>go_simp;try with_reducible rfl
    (try simp only [Act.put,aj,aq,au]);refine bE.step (i:=14) rfl (by kernel_rfl) (fun K' hK=>?_);refine mB (by rfl) _ _ _ (by rfl) (B+5) 9 _ 16 Tryz.underlying22 Tryz.CZ (by rfl) (by decide) (by rfl) vF.out.en (.string nm) (Wd.heap.size+1) (by rfl) sG (by rfl) (by rw [aD,nR.out.2];omega) yE ?_;intro g2 NF fK sV oJ hrg2 _;have nS:Hid (kW (B+5) w1 fK _ _ _ _):=vF.out.AY yE sV oJ (hrg2.imp id (fun e=>gQ e.symm));have hSf:B+5<=fK.heap.size:=aR yE oJ.size
    refine hK.out _ _ (fun _=>nS.out.low.block) (fun _=>?_);(try simp only [Act.put,aj,aq,au]);have B4:fK.cell? ⟨B+1,0,none⟩=some (.slice pp pre.length pc):=(js.out fK nS.out.low.block).1;have oK:fK.cell? ⟨B+1,1,none⟩=some (.slice np pre.length nc):=(js.out fK nS.out.low.block).2.1;have NG:fK.frozen? ⟨B+1,0,none⟩=false:=Kg.out fK nS.out.low.block 0;have Gk:fK.frozen? ⟨B+1,1,none⟩=false:=Kg.out fK nS.out.low.block 1;have oL:=aa (LN.out fK _ _ nS.out)
    refine bE.step (i:=16) rfl (by kernel_rfl) (fun K' hK=>?_);go_simp;refine hK.out _ _ (aS (by kernel_rfl)) (fun _=>?_);(try simp only [aj,aq,au]);refine bE.free (i:=17) (v:=?abG) rfl (by kernel_rfl) (fun _ _ _ h=>h) (by rfl) (fun _=>rfl) (fun w=>?Zc) (aS (by kernel_rfl)) ?abH
    case Zc =>go_simp;try with_reducible rfl
    (try simp only [Act.put,aj,aq,au]);refine bE.step (i:=18) rfl (by kernel_rfl) (fun K' hK=>?_);go_simp;refine hK.out _ _ (aS (by kernel_rfl)) (fun _=>?_);refine bE.done (by kernel_rfl) ?_;gi_wp2;have dR:=oL.out;simp only [aD] at dR;exact dR
  ·go_simp
   have Gj:Hid (kW (B+5) w1 (Wd.alloc (.cells #[.string nm] 9)) _ _ _ _):=SP.out.up (Up.alloc _ _) SQ;have Ee:B+5<=(Wd.alloc (.cells #[.string nm] 9)).heap.size:=aR SQ (Up.alloc _ _).size;refine hK.out _ _ (fun _=>Gj.out.low.block) (fun _=>?_);(try simp only [aj,aq,au]);refine bE.step (i:=5) rfl (by kernel_rfl) (fun K' hK=>?_);go_simp;have yD:Hid (kW (B+5) w1 ((Wd.alloc (.cells #[.string nm] 9)).alloc (.cells #[.int .i64 z] 3)) _ _ _ _):=Gj.out.up (Up.alloc _ _) Ee
   have Al:B+5<=((Wd.alloc (.cells #[.string nm] 9)).alloc (.cells #[.int .i64 z] 3)).heap.size:=aR Ee (Up.alloc _ _).size;refine hK.out _ _ (fun _=>yD.out.low.block) (fun _=>?_);(try simp only [aj,aq,au]);have oC:=aH (Wd.alloc (.cells #[.string nm] 9)) #[.int .i64 z] 3 0;have rB:=(Up.alloc (Wd.alloc (.cells #[.string nm] 9)) (.cells #[.int .i64 z] 3)).cell (aH Wd #[.string nm] 9 0);rw [aL] at oC;refine bE.step (i:=6) rfl (by kernel_rfl) (fun K' hK=>?_)
   refine mB (by rfl) _ _ _ (by rfl) (B+5) 3 _ 8 Tryz.underlying26 Tryz.mA (by rfl) (by decide) (by rfl) yD.out.dG (.int .i64 z) (Wd.heap.size+1) (by rfl) oC (by rfl) (by rw [aD,nR.out.1];omega) Al ?_;intro g1 ND kZ sU lq hrg1 _;have vF:Hid (kW (B+5) w1 kZ _ _ _ _):=yD.out.AX Al sU lq (hrg1.imp id (fun e=>gQ e.symm));have yE:B+5<=kZ.heap.size:=aR Al lq.size
   (have sG:kZ.cell? ⟨Wd.heap.size,0,none⟩=some (.string nm):=by rw [lq.cell_far ⟨Wd.heap.size,0,none⟩ (by simp;omega) (fun e=>absurd (aG SP.out.dG e.symm).2 (by show ¬(Wd.heap.size<Wd.heap.size);omega))];exact rB);refine hK.out _ _ (fun _=>vF.out.low.block) (fun _=>?_);(try simp only [Act.put,aj,aq,au]);refine bE.free (i:=15) (v:=?abI) rfl (by kernel_rfl) (fun _ _ _ h=>h) (by rfl) (fun _=>rfl) (fun w=>?Zd) (fun _=>vF.out.low.block) ?abJ
   case Zd =>go_simp;try with_reducible rfl
   (try simp only [Act.put,aj,aq,au]);refine bE.step (i:=14) rfl (by kernel_rfl) (fun K' hK=>?_);refine mB (by rfl) _ _ _ (by rfl) (B+5) 9 _ 16 Tryz.underlying22 Tryz.CZ (by rfl) (by decide) (by rfl) vF.out.en (.string nm) Wd.heap.size (by rfl) sG (by rfl) (by rw [aD,nR.out.2];omega) yE ?_;intro g2 NF fK sV oJ hrg2 _;have nS:Hid (kW (B+5) w1 fK _ _ _ _):=vF.out.AY yE sV oJ (hrg2.imp id (fun e=>gQ e.symm));have hSf:B+5<=fK.heap.size:=aR yE oJ.size
   refine hK.out _ _ (fun _=>nS.out.low.block) (fun _=>?_);(try simp only [Act.put,aj,aq,au]);have B4:fK.cell? ⟨B+1,0,none⟩=some (.slice pp pre.length pc):=(js.out fK nS.out.low.block).1;have oK:fK.cell? ⟨B+1,1,none⟩=some (.slice np pre.length nc):=(js.out fK nS.out.low.block).2.1;have NG:fK.frozen? ⟨B+1,0,none⟩=false:=Kg.out fK nS.out.low.block 0;have Gk:fK.frozen? ⟨B+1,1,none⟩=false:=Kg.out fK nS.out.low.block 1;have oL:=aa (LN.out fK _ _ nS.out)
   refine bE.step (i:=16) rfl (by kernel_rfl) (fun K' hK=>?_);go_simp;refine hK.out _ _ (aS (by kernel_rfl)) (fun _=>?_);(try simp only [aj,aq,au]);refine bE.free (i:=17) (v:=?abK) rfl (by kernel_rfl) (fun _ _ _ h=>h) (by rfl) (fun _=>rfl) (fun w=>?Ze) (aS (by kernel_rfl)) ?abL
   case Ze =>go_simp;try with_reducible rfl
   (try simp only [Act.put,aj,aq,au]);refine bE.step (i:=18) rfl (by kernel_rfl) (fun K' hK=>?_);go_simp;refine hK.out _ _ (aS (by kernel_rfl)) (fun _=>?_);refine bE.done (by kernel_rfl) ?_;gi_wp2;have dR:=oL.out;simp only [aD] at dR;exact dR
 ·rintro D xs W hD hS ⟨hks,lD,Pv,Nv,j8,vE,hmp,Ke⟩ hK
  have hb0:W.cell? ⟨B+1,0,none⟩=some Pv:=by simp [World.cell?,j8]
  have hb1:W.cell? ⟨B+1,1,none⟩=some Nv:=by simp [World.cell?,j8]
  have Am:W.heap[B]? = some (Obj.cells #[.slice none 0 0,.slice none 0 0] 39 (0,0)):=(hks B ⟨by omega,by omega,by omega⟩).trans hr6;have hok:rM n xs.length (cZ F (dc xs)):=LK xs;obtain ⟨pp,pc,rfl,_⟩:=vE.dG.form (n:=xs.length) (by rw [aD];exact hok.lp);obtain ⟨np,nc,rfl,_⟩:=vE.en.form (n:=xs.length) (by rw [aD];exact hok.ln);have lG:W.cell? ⟨B,0,none⟩=some (.slice none 0 0):=by simp [World.cell?,Am]
  have hr1:W.cell? ⟨B,1,none⟩=some (.slice none 0 0):=by simp [World.cell?,Am]
  have Kh:W.frozen? ⟨B,0,none⟩=false:=by simp [World.frozen?,Am]
  have vG:W.frozen? ⟨B,1,none⟩=false:=by simp [World.frozen?,Am]
  gi_wp2_with fail;have VZ:D≠B:=by omega
  have hK2:((W.setCell ⟨B,0,none⟩ (.slice pp xs.length pc)).setCell ⟨B,1,none⟩ (.slice np xs.length nc)).heap[D]? = some (.deferred (some [])):=by rw [blk_setCell_other _ _ _ _ VZ,blk_setCell_other _ _ _ _ VZ];exact hK
  refine ⟨by simp,.inl ⟨_,_,rfl,run_takeDeferred hK2,?_⟩⟩;have hheap:((W.setCell ⟨B,0,none⟩ (.slice pp xs.length pc)).setCell ⟨B,1,none⟩ (.slice np xs.length nc)).heap[B]? = some (Obj.cells #[.slice pp xs.length pc,.slice np xs.length nc] 39 (0,0)):=by simp [World.setCell,Array.getElem?_modify,Am]
  have hq:∀b,b≠D->(((W.setCell ⟨B,0,none⟩ (.slice pp xs.length pc)).setCell ⟨B,1,none⟩ (.slice np xs.length nc)).putObj D (.deferred none)).heap[b]? = ((W.setCell ⟨B,0,none⟩ (.slice pp xs.length pc)).setCell ⟨B,1,none⟩ (.slice np xs.length nc)).heap[b]?:=fun b hb=>kU hb;have NH:=(hq B (dM VZ)).trans hheap;have V0:∀b,b≠B->((W.setCell ⟨B,0,none⟩ (.slice pp xs.length pc)).setCell ⟨B,1,none⟩ (.slice np xs.length nc)).heap[b]? = W.heap[b]?:=fun b hb=>by rw [blk_setCell_other _ _ _ _ hb,blk_setCell_other _ _ _ _ hb]
  have hsz:(((W.setCell ⟨B,0,none⟩ (.slice pp xs.length pc)).setCell ⟨B,1,none⟩ (.slice np xs.length nc)).putObj D (.deferred none)).heap.size=W.heap.size:=by simp [World.size_setCell]
  have hos:(((W.setCell ⟨B,0,none⟩ (.slice pp xs.length pc)).setCell ⟨B,1,none⟩ (.slice np xs.length nc)).putObj D (.deferred none)).os=W.os/\(((W.setCell ⟨B,0,none⟩ (.slice pp xs.length pc)).setCell ⟨B,1,none⟩ (.slice np xs.length nc)).putObj D (.deferred none)).tape=W.tape/\(((W.setCell ⟨B,0,none⟩ (.slice pp xs.length pc)).setCell ⟨B,1,none⟩ (.slice np xs.length nc)).putObj D (.deferred none)).output=W.output:=⟨rfl,rfl,rfl⟩;generalize ((W.setCell ⟨B,0,none⟩ (.slice pp xs.length pc)).setCell ⟨B,1,none⟩ (.slice np xs.length nc)).putObj D (.deferred none)=We at *
  have hc0:We.cell? ⟨B,0,none⟩=some (.slice pp xs.length pc):=by simp [World.cell?,NH]
  have hc1:We.cell? ⟨B,1,none⟩=some (.slice np xs.length nc):=by simp [World.cell?,NH]
  have hown:∀ {e:TypeId} {v:Value} {vs:List Value},ax (B+5) e W v vs->ax (B+5) e We v vs:=fun ho=>ho.same fun b hb=>by have h1:=(aG ho hb).1;obtain ⟨c,hc⟩:=ho.typed hb;(have hbD:b≠D:=fun e=>by subst e;rw [hK] at hc;cases hc);rw [hq b hbD,V0 b (by omega)]
  refine ⟨.agg #[.slice pp xs.length pc,.slice np xs.length nc],by simp [results,Tryz.results165,go_sem,hc0,hc1],?_,_,rfl,.slice pp xs.length pc,.slice np xs.length nc,rfl,?_,?_⟩
  ·have hX:=HX.out
   have hBw:=HB.out;refine ⟨hos.1.trans (lD.os.trans hX.os),hos.2.1.trans (lD.tape.trans hX.tape),hos.2.2.trans (lD.output.trans hX.output),?_,fun b hb=>?_⟩
   ·rw [hsz];have h1:=hX.size;have h2:=lD.size;omega
   ·rw [hBw] at hb
    rw [hq b (by omega),V0 b (by omega),lD.block b (by omega)];exact bH hX b (by rw [hBw];exact hb)
  ·show ay (fun b=>w.heap.size<=b) We _ (cZ F (eD F rk i none)).ps
   rw [<- hS,HB.out];exact (hown vE.dG).ints.sub fun b (hb:B+5<=b) _=>(by omega:B<=b)
  ·show av (fun b=>w.heap.size<=b) We _ (cZ F (eD F rk i none)).ns
   rw [<- hS,HB.out];exact (hown vE.en).strs.sub fun b (hb:B+5<=b) _=>(by omega:B<=b)
 ·rintro D c pre W _ _ h _
  exact h.elim
end Go.Proofs.YthgabkgmkolobaaGreat
