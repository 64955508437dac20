/- The contract of phylotree.tree. -/
import Derived.Test.YthgabkgmkolobaaGreatQ19
set_option maxRecDepth 100000
namespace Go.Proofs.YthgabkgmkolobaaGreat
open Go.RowKit Go.Shelf Go.Deep
attribute [local go_sem] Oper.semAt_some
theorem Tryz.Bz:(Tryz.prog.info? 9).map (fun i=>(i.zero,i.size,i.bytes))=some (some (.string ⟨#[]⟩),1,16):=by kernel_rfl
def kj (l:List (Option Nat×Int)) (k:Option Nat) (v:Int):List (Option Nat×Int):=if (l.lookup k).isNone then l++[(k,v)] else l.map fun x=>if x.1=k then (k,v) else x
structure vC where
 mp:List (Option Nat×Int)
 ps:List Int
 ns:List ByteArray
def mM (F:aU) (s:vC) (x:Nat×Option Nat):vC :=
 ⟨kj s.mp (some x.1) s.ps.length,s.ps++[((kj s.mp (some x.1) s.ps.length).lookup x.2).getD 0],s.ns++[F.nm x.1]⟩
def BA:vC:=⟨[(none,-1)],[],[]⟩
def ct (F:aU) (l:List (Nat×Option Nat)):vC:=l.foldl (mM F) BA
theorem xd (F:aU) (l:List (Nat×Option Nat)) (x:Nat×Option Nat):ct F (l++[x])=mM F (ct F l) x:=by simp [ct]
def fu (F:aU) (rk:Nat→Nat) (i:Nat):aD:=⟨(ct F (dH F rk i none)).ps,(ct F (dH F rk i none)).ns⟩
def kX (A:Nat→Nat) (l:List (Option Nat×Int)):List (Option Nat×Value):=l.map fun x=>(x.1.map A,.int .i64 x.2)
def tu (n:Nat) (l:List (Option Nat×Int)):Prop:=∀x∈l,∀k,x.1=some k→k<n
theorem map_inj {A:Nat→Nat} {n:Nat} (hinj:∀i j,i<n→j<n→A i=A j→i=j) {x y:Option Nat} (hx:∀k,x=some k→k<n) (hy:∀k,y=some k→k<n) (h:x.map A=y.map A):x=y:=by
 cases x with
 | none=>cases y with
  | none=>rfl
  | some b=>cases h
 | some a=>cases y with
  | none=>cases h
  | some b =>
   simp only [Option.map_some,Option.some.injEq] at h;rw [hinj a b (hx a rfl) (hy b rfl) h]
theorem yG {A:Nat→Nat} {n:Nat} (hinj:∀i j,i<n→j<n→A i=A j→i=j) {k:Option Nat} (hk:∀j,k=some j→j<n):∀ {l:List (Option Nat×Int)},tu n l→(kX A l).lookup (k.map A)=(l.lookup k).map (Value.int .i64):=by
 intro l
 induction l with
 | nil=>intro _;rfl
 | cons x l ih =>
  intro hl;obtain ⟨x1,x2⟩:=x;have hl2:tu n l:=fun z hz=>hl z (by simp [hz]);show List.lookup (k.map A) ((x1.map A,Value.int .i64 x2)::kX A l)=_;rw [List.lookup_cons,List.lookup_cons];by_cases h:k=x1
  ·subst h;simp
  ·have h1:(k==x1)=false:=by simpa using h
   (have h2:(k.map A==x1.map A)=false:=by simp only [beq_eq_false_iff_ne,ne_eq];exact fun e=>h (map_inj hinj hk (fun j hj=>hl (x1,x2) (by simp) j hj) e));rw [h1,h2];exact ih hl2
theorem Pe {A:Nat→Nat} {n:Nat} (hinj:∀i j,i<n→j<n→A i=A j→i=j) {k:Option Nat} (hk:∀j,k=some j→j<n) {l:List (Option Nat×Int)} (hl:tu n l) (v:Int):sL (kX A l) (k.map A) (.int .i64 v)=kX A (kj l k v):=by
 unfold sL kj;rw [yG hinj hk hl];cases h:l.lookup k with
 | none=>simp [kX]
 | some y =>
  simp only [Option.map_some,Option.isNone_some,Bool.false_eq_true,if_false];unfold kX;rw [List.map_map,List.map_map];refine List.map_congr_left fun x hx=>?_;show (if x.1.map A=k.map A then (k.map A,Value.int .i64 v) else (x.1.map A,Value.int .i64 x.2))=((if x.1=k then (k,v) else x).1.map A,Value.int .i64 (if x.1=k then (k,v) else x).2);by_cases e:x.1=k
  ·rw [if_pos (by rw [e]),if_pos e]
  ·rw [if_neg (fun e2=>e (map_inj hinj (fun j hj=>hl x hx j hj) hk e2)),if_neg e]
theorem Mh {n:Nat} {l:List (Option Nat×Int)} (hl:tu n l) {k:Option Nat} (hk:∀j,k=some j→j<n) (v:Int):tu n (kj l k v):=by
 intro x hx;unfold kj at hx;split at hx
 ·rcases List.mem_append.1 hx with h | h
  ·exact hl x h
  ·have:x=(k,v):=by simpa using h
   subst this;exact hk
 ·obtain ⟨y,hy,e⟩:=List.mem_map.1 hx
  split at e
  ·subst e;exact hk
  ·subst e;exact hl y hy
structure p9 (n m:Nat) (s:vC):Prop where
 keys:tu n s.mp
 lp:s.ps.length=m
 ln:s.ns.length=m
theorem p9.step {n m:Nat} {s:vC} {F:aU} (h:p9 n m s) (x:kV n):p9 n (m+1) (mM F s x.1) :=
 ⟨Mh h.keys (fun j hj=>by cases hj;exact x.2.1) _,by show (s.ps++[_]).length=_;rw [List.length_append,h.lp];rfl,by show (s.ns++[_]).length=_;rw [List.length_append,h.ln];rfl⟩
theorem J4 {n:Nat} {F:aU}:∀(l:List (kV n)) (m:Nat) (s:vC),p9 n m s→p9 n (m+l.length) ((cA l).foldl (mM F) s):=by
 intro l
 induction l with
 | nil=>intro m s h;exact h
 | cons x l ih =>
  intro m s h;have h2:=ih (m+1) _ (h.step (F:=F) x);rw [show m+(x::l).length=m+1+l.length by simp;omega];exact h2
theorem J5 {n:Nat} {F:aU} (l:List (kV n)):p9 n l.length (ct F (cA l)):=by
 have h:=J4 (F:=F) l 0 BA ⟨fun x hx k hk=>(by
  have:x=(none,-1):=by simpa [BA] using hx
  subst this;cases hk),rfl,rfl⟩
 rw [Nat.zero_add] at h;exact h
def Mi (w:World) (t:aD) (e:Ending) (w':World):Prop:=Up w w'∧∃v,e=.returned v∧au (fun b=>w.heap.size≤b) w' v t
structure jC (B0:Nat) (w1 W:World) (Pv Nv:Value) (ps:List Int) (ns:List ByteArray):Prop where
 cI:aF B0 3 W Pv (ps.map (Value.int .i64))
 dx:aF B0 9 W Nv (ns.map Value.string)
 apart:∀b,Pv.ownBlock=some b→Nv.ownBlock≠some b
 low:Below B0 w1 W
 fns:∀(b:Nat) (c:Array Value) (z:Nat×Nat),w1.heap[b]? = some (Obj.cells c 258 z)→W.heap[b]? = w1.heap[b]?
 far:KeepsFrom B0 w1 W
section
variable {B0:Nat} {w1 W W':World} {Pv Nv:Value} {ps:List Int} {ns:List ByteArray}
theorem aF.typed {base:Nat} {e:TypeId} {w:World} {v:Value} {vs:List Value} (h:aF base e w v vs) {b:Nat} (hb:v.ownBlock=some b):∃c,w.heap[b]? = some (Obj.cells c e (0,0)):=by
 obtain ⟨_,⟨rfl,_⟩ | ⟨g,cap,cur,rfl,_,hc,_⟩⟩:=h
 ·cases hb
 ·injection hb with hb;subst hb;exact ⟨cur,hc⟩
theorem jC.up (h:jC B0 w1 W Pv Nv ps ns) (hu:Up W W') (hB:B0≤W.heap.size):jC B0 w1 W' Pv Nv ps ns :=
 ⟨h.cI.same fun b hb=>Below.block hu b (aI h.cI hb).2,h.dx.same fun b hb=>Below.block hu b (aI h.dx hb).2,h.apart,Below.trans h.low (Below.mono hu hB),fun b c z hb=>by
  have h1:=h.fns b c z hb
  rw [← h1]
  exact Below.block hu b (by rw [hb] at h1;exact (Array.getElem?_eq_some_iff.1 h1).1),h.far.trans ⟨hu.size,fun k o _ hk _=>(Below.block hu k (Array.getElem?_eq_some_iff.1 hk).1).trans hk⟩⟩
theorem jC.zk (h:jC B0 w1 W Pv Nv ps ns) (hB:B0≤W.heap.size) {g cap k:Nat} {u:Int} (ho:aF B0 3 W' (.slice (some ⟨g,0,none⟩) k cap) (ps.map (Value.int .i64)++[.int .i64 u])) (hg:W.grownBy W' Pv.ownBlock) (dY:Pv.ownBlock=some g∨W.heap.size≤g) :
  jC B0 w1 W' (.slice (some ⟨g,0,none⟩) k cap) Nv (ps++[u]) ns:=by
 refine ⟨by rw [List.map_append];exact ho,h.dx.same fun b hb=>hg.block b (aI h.dx hb).2 (fun e=>h.apart b e.symm hb),fun b hb hb2=>?_,Below.trans h.low (h.cI.dh hg hB),fun b c z hb=>?_,h.far.trans ⟨hg.size,fun k o _ hk hc=>(hg.block k (Array.getElem?_eq_some_iff.1 hk).1 (fun e=>?_)).trans hk⟩⟩
 ·injection hb with hb
  have hb:g=b:=hb;subst hb;rcases dY with h1 | h1
  ·exact h.apart g h1 hb2
  ·have:=(aI h.dx hb2).2;omega
 ·have h1:=h.fns b c z hb
  rw [← h1];refine hg.block b (by rw [hb] at h1;exact (Array.getElem?_eq_some_iff.1 h1).1) (fun e=>?_);obtain ⟨c2,h2⟩:=h.cI.typed e.symm;rw [h1,hb] at h2;injection h2 with h2;injection h2 with _ h2 _;cases h2
 ·obtain ⟨c2,h2⟩:=h.cI.typed e.symm
  rw [h2] at hk;injection hk with hk;subst hk;cases hc
theorem jC.zl (h:jC B0 w1 W Pv Nv ps ns) (hB:B0≤W.heap.size) {g cap k:Nat} {u:ByteArray} (ho:aF B0 9 W' (.slice (some ⟨g,0,none⟩) k cap) (ns.map Value.string++[.string u])) (hg:W.grownBy W' Nv.ownBlock) (dY:Nv.ownBlock=some g∨W.heap.size≤g) :
  jC B0 w1 W' Pv (.slice (some ⟨g,0,none⟩) k cap) ps (ns++[u]):=by
 refine ⟨h.cI.same fun b hb=>hg.block b (aI h.cI hb).2 (fun e=>h.apart b hb e.symm),by rw [List.map_append];exact ho,fun b hb hb2=>?_,Below.trans h.low (h.dx.dh hg hB),fun b c z hb=>?_,h.far.trans ⟨hg.size,fun k o _ hk hc=>(hg.block k (Array.getElem?_eq_some_iff.1 hk).1 (fun e=>?_)).trans hk⟩⟩
 ·injection hb2 with hb2
  have hb2:g=b:=hb2;subst hb2;rcases dY with h1 | h1
  ·exact h.apart g hb h1
  ·have:=(aI h.cI hb).2;omega
 ·have h1:=h.fns b c z hb
  rw [← h1];refine hg.block b (by rw [hb] at h1;exact (Array.getElem?_eq_some_iff.1 h1).1) (fun e=>?_);obtain ⟨c2,h2⟩:=h.dx.typed e.symm;rw [h1,hb] at h2;injection h2 with h2;injection h2 with _ h2 _;cases h2
 ·obtain ⟨c2,h2⟩:=h.dx.typed e.symm
  rw [h2] at hk;injection hk with hk;subst hk;cases hc
end
def CH (n B0 Bt m:Nat) (A:Nat→Nat) (F:aU) (T:Nat→Prop) (w6:World) (pre:List (kV n)) (W:World):Prop :=
 KS T w6 W∧Below (Bt) w6 W∧∃Pv Nv,W.heap[Bt]? = some (Obj.cells #[Pv,Nv] 39 (0,0))∧jC B0 W W Pv Nv (ct F (cA pre)).ps (ct F (cA pre)).ns∧iW W m (kX A (ct F (cA pre)).mp)∧ur (kX A (ct F (cA pre)).mp)
theorem CH.own {n B:Nat} {A:Nat→Nat} {F:aU} {w6:World} (hz:w6.heap.size=B+5):OwnFrom w6.heap.size (CH n (B+5) (B+1) (B+1+1) A F (fun b=>b<B+5∧b≠B+1∧b≠B+1+1) w6):=by
 intro s X Y row hs hg hr;obtain ⟨hk,hb,Pv,Nv,iX,hT,hm,hu⟩:=hs;have hsz:B+5≤X.heap.size:=by have:=hb.size;omega
 have sJ:∀b,b<B+5→Y.heap[b]? = X.heap[b]?:=fun b hb2=>hg.block b (by omega) (fun e=>by obtain ⟨h1,_⟩:=hr b e.symm;omega)
 have hcell:∀(b:Nat) (c:Array Value) (e:TypeId) (z:Nat×Nat),X.heap[b]? = some (Obj.cells c e z)→Y.heap[b]? = X.heap[b]?:=fun b c e z hc=>hg.block b (Array.getElem?_eq_some_iff.1 hc).1 (fun e2=>by
  obtain ⟨_,o,h1,h2⟩:=hr b e2.symm
  rw [hc] at h1;injection h1 with h1;subst h1;cases h2)
 refine ⟨fun b hb2=>(sJ b hb2.1).trans (hk b hb2),⟨hg.os.trans hb.os,hg.tape.trans hb.tape,hg.output.trans hb.output,Nat.le_trans hb.size hg.size,fun b hb2=>(sJ b (by omega)).trans (hb.block b hb2)⟩,Pv,Nv,(sJ _ (by omega)).trans iX,?_,hm.of_block (sJ _ (by omega)),hu⟩;refine ⟨hT.cI.same fun b hb2=>?_,hT.dx.same fun b hb2=>?_,hT.apart,Below.refl _ _,fun _ _ _ _=>rfl,KeepsFrom.refl _ _⟩
 ·obtain ⟨c,hc⟩:=hT.cI.typed hb2;exact hcell _ _ _ _ hc
 ·obtain ⟨c,hc⟩:=hT.dx.typed hb2;exact hcell _ _ _ _ hc
theorem CH.next {n B:Nat} {A:Nat→Nat} {F:aU} {w6 W w1 We:World} (hz:w6.heap.size=B+5) {pre:List (kV n)} {x:kV n} (hks:KS (fun b=>b<B+5∧b≠B+1∧b≠B+1+1) w6 W) (gp:Below (B+1) w6 W)
  {P0 N0:Value} (iX:W.heap[B+1]? = some (Obj.cells #[P0,N0] 39 (0,0))) {es:List (Option Nat×Value)} (hmp0:iW W (B+1+1) es)
  (BB:iW w1 (B+1+1) (kX A (ct F (cA (pre++[x]))).mp)) (IL:ur (kX A (ct F (cA (pre++[x]))).mp)) (hs1:w1.heap.size=W.heap.size) (Rs:w1.os=W.os) (J6:w1.tape=W.tape) (J7:w1.output=W.output) (hb1:∀j,j≠B+1+1→w1.heap[j]? = W.heap[j]?)
  {Pv Nv:Value} (hT:jC (B+5) w1 We Pv Nv (ct F (cA (pre++[x]))).ps (ct F (cA (pre++[x]))).ns) :
  KeepsFrom w6.heap.size W ((We.setCell ⟨B+1,0,none⟩ Pv).setCell ⟨B+1,1,none⟩ Nv)∧KN (fun b=>b<B+5∧b≠B+1∧b≠B+1+1) W ((We.setCell ⟨B+1,0,none⟩ Pv).setCell ⟨B+1,1,none⟩ Nv) ∧
   CH n (B+5) (B+1) (B+1+1) A F (fun b=>b<B+5∧b≠B+1∧b≠B+1+1) w6 (pre++[x]) ((We.setCell ⟨B+1,0,none⟩ Pv).setCell ⟨B+1,1,none⟩ Nv):=by
 have cG:∀b,b≠B+1→((We.setCell ⟨B+1,0,none⟩ Pv).setCell ⟨B+1,1,none⟩ Nv).heap[b]? = We.heap[b]?:=fun b hb=>by rw [blk_setCell_other _ _ _ _ hb,blk_setCell_other _ _ _ _ hb]
 have hsz:((We.setCell ⟨B+1,0,none⟩ Pv).setCell ⟨B+1,1,none⟩ Nv).heap.size=We.heap.size:=by simp [World.size_setCell]
 have Al:We.heap[B+1]? = some (Obj.cells #[P0,N0] 39 (0,0)):=(hT.low.block (B+1) (by omega)).trans ((hb1 _ (by omega)).trans iX);have hbf:((We.setCell ⟨B+1,0,none⟩ Pv).setCell ⟨B+1,1,none⟩ Nv).heap[B+1]? = some (Obj.cells #[Pv,Nv] 39 (0,0)):=by simp [World.setCell,Array.getElem?_modify,Al]
 have UY:KS (fun b=>b<B+5∧b≠B+1∧b≠B+1+1) W ((We.setCell ⟨B+1,0,none⟩ Pv).setCell ⟨B+1,1,none⟩ Nv):=fun b hb=>(cG b hb.2.1).trans ((hT.low.block b hb.1).trans (hb1 b hb.2.2))
 refine ⟨⟨?_,fun k o hk ho hc=>?_⟩,⟨UY,fun b c z hb=>?_⟩,hks.trans UY,⟨hT.low.os.trans (Rs.trans gp.os),hT.low.tape.trans (J6.trans gp.tape),hT.low.output.trans (J7.trans gp.output),?_,fun b hb=>(UY b ⟨by omega,by omega,by omega⟩).trans (gp.block b hb)⟩,Pv,Nv,hbf,⟨hT.cI.same fun b hb=>cG b (by have:=(aI hT.cI hb).1;omega),hT.dx.same fun b hb=>cG b (by have:=(aI hT.dx hb).1;omega),hT.apart,Below.refl _ _,fun _ _ _ _=>rfl,KeepsFrom.refl _ _⟩,BB.of_block ((cG _ (by omega)).trans (hT.low.block _ (by omega))),IL⟩
 ·rw [hsz,← hs1];exact hT.low.size
 ·rw [cG k (by omega)]
  exact hT.far.same k o (by omega) ((hb1 k (by omega)).trans ho) hc
 ·have hne:b≠B+1+1:=fun e=>by
   subst e
   obtain ⟨es',ck,h1,_⟩:=hmp0
   rw [h1] at hb;cases hb
  have Pf:b≠B+1:=fun e=>by
   subst e
   rw [iX] at hb
   injection hb with hb
   injection hb with _ hb _
   cases hb
  rw [cG b Pf,hT.fns b c z (by rw [hb1 b hne];exact hb),hb1 b hne]
 ·rw [hsz];have h1:=hT.low.size;have h2:=gp.size;omega
set_option maxHeartbeats 4000000 in
theorem Mj {n base:Nat} {A:Nat→Nat} {kv:Nat→Value} {F:aU} {rk:Nat→Nat} (hwf:Wf F n rk) (hlen:∀i,i<n→(F.kids i).length≤1000) (w:World) (i:Nat) (hi:i<n) (hF:bf base n A kv F w) (hN:(dH F rk i none).length≤100000) :
  Calls Tryz.prog 165 #[.pointer (some ⟨A i,0,none⟩)] w (Mi w (fu F rk i)):=by
 refine (callsIn_wide (n:=9)).1 ?_;refine callsIn_of_wp_marks Tryz.func165 rfl trivial ?_ rfl;simp only [Tryz.ntmps165,List.size_toArray,List.length_cons,List.length_nil,Nat.reduceAdd,Nat.reduceSub,Array.replicate_succ,Array.replicate_zero,List.push_toArray,List.append_toArray,List.nil_append,List.cons_append];have hmm:=fun W=>run_makeMap (P:=Tryz.prog) 219 W;obtain ⟨w3,hw3⟩:∃w3,w3=((w.alloc (.cells #[.slice none 0 0,.slice none 0 0] 39)).alloc (.cells #[.slice none 0 0,.slice none 0 0] 39)).alloc (.map #[] 0):=⟨_,rfl⟩
 have bz:Up w w3:=by rw [hw3];exact ((Up.alloc _ _).trans (Up.alloc _ _)).trans (Up.alloc _ _)
 have hz3:w3.heap.size=w.heap.size+3:=by rw [hw3];simp
 have YE:iW w3 (w.heap.size+1+1) []:=⟨#[],0,by
  rw [hw3];have h:=blk_alloc_new ((w.alloc (.cells #[.slice none 0 0,.slice none 0 0] 39)).alloc (.cells #[.slice none 0 0,.slice none 0 0] 39)) (.map #[] 0)
  simp only [World.size_alloc] at h;exact h,rfl⟩
 have ht3:w3.heap[w.heap.size+1]? = some (Obj.cells #[.slice none 0 0,.slice none 0 0] 39 (0,0)):=by rw [hw3,blk_alloc_lt _ _ _ (by simp)];have h:=blk_alloc_new (w.alloc (.cells #[.slice none 0 0,.slice none 0 0] 39)) (.cells #[.slice none 0 0,.slice none 0 0] 39);rw [World.size_alloc] at h;exact h
 have hr3:w3.heap[w.heap.size]? = some (Obj.cells #[.slice none 0 0,.slice none 0 0] 39 (0,0)):=by rw [hw3,blk_alloc_lt _ _ _ (by simp;omega),blk_alloc_lt _ _ _ (by simp)];exact blk_alloc_new _ _
 obtain ⟨w4,cG,YF,hs4,Mk,UZ,U0,hb4⟩:=EW (P:=Tryz.prog) Tryz.underlying219 Tryz.underlying119 Tryz.qR YE List.nodup_nil (k:=none) (.int .i64 (-1)) trivial (fun x hx=>by cases hx);have bE:Up w w4:=⟨Mk.trans bz.os,UZ.trans bz.tape,U0.trans bz.output,by rw [hs4];exact bz.size,fun b hb=>(hb4 b (by omega)).trans (Below.block bz b hb)⟩;have IM:=(hb4 (w.heap.size+1) (by omega)).trans ht3;have hr4:=(hb4 w.heap.size (by omega)).trans hr3;have Rk:w4.heap.size=w.heap.size+3:=hs4.trans hz3;rw [hw3] at cG;simp only [pk] at cG;have jl:=aa bE;have Am:=aa IM
 have YG:=aa hr4;have CI:=aa Rk;have CJ:=aa YF;have HF:=aa hF;have E2:=aa hwf;have HLEN:=aa hlen;have HN:=aa hN;clear hw3 bz hz3 YE ht3 hr3 YF hs4 Mk UZ U0 hb4 bE IM hr4 Rk hF hwf hlen hN;gi_wp2_with fail;refine ⟨trivial,(callsIn_wide.2 (SI _ _)).mono ?_⟩;rintro e w6 ⟨rfl,rfl⟩;rw [World.size_alloc,CI.out];gi_wp2_with fail;have ew:Up w4 ((w4.alloc (.cells #[.map (some (w.heap.size+1+1))] 219)).alloc (.cells #[.pointer (some ⟨A i,0,none⟩)] 119)):=(Up.alloc _ _).trans (Up.alloc _ _)
 have IE:((w4.alloc (.cells #[.map (some (w.heap.size+1+1))] 219)).alloc (.cells #[.pointer (some ⟨A i,0,none⟩)] 119)).heap.size=w.heap.size+5:=by simp [CI.out]
 have hx6:((w4.alloc (.cells #[.map (some (w.heap.size+1+1))] 219)).alloc (.cells #[.pointer (some ⟨A i,0,none⟩)] 119)).cell? ⟨w.heap.size+3+1,0,none⟩=some (.pointer (some ⟨A i,0,none⟩)):=by have h:=aK (w4.alloc (.cells #[.map (some (w.heap.size+1+1))] 219)) #[.pointer (some ⟨A i,0,none⟩)] 119 0;rw [World.size_alloc,CI.out] at h;exact h
 have hm6:((w4.alloc (.cells #[.map (some (w.heap.size+1+1))] 219)).alloc (.cells #[.pointer (some ⟨A i,0,none⟩)] 119)).cell? ⟨w.heap.size+3,0,none⟩=some (.map (some (w.heap.size+1+1))):=by have h:=aK w4 #[.map (some (w.heap.size+1+1))] 219 0;rw [CI.out] at h;exact (Up.alloc _ _).cell h
 have ht6:=(Below.block ew (w.heap.size+1) (by rw [CI.out];omega)).trans Am.out;have hr6:=(Below.block ew w.heap.size (by rw [CI.out];omega)).trans YG.out;have hp6:=CJ.out.of_block (Below.block ew (w.heap.size+1+1) (by rw [CI.out];omega));have YH:=(HF.out.up jl.out).up ew;have U1:=jl.out.trans ew;generalize (w4.alloc (.cells #[.map (some (w.heap.size+1+1))] 219)).alloc (.cells #[.pointer (some ⟨A i,0,none⟩)] 119)=w6 at *;have hlt:∀j,j<n→A j<w.heap.size:=fun j hj=>HF.out.lt hj;have hlo:∀j b,j<n→(kv j).ownBlock=some b→b<w.heap.size:=fun j b hj hb=>(HF.out.fU hj hb).2
 have hinj:=HF.out.inj;have HX:=aa (show Up w w6 from U1);clear ew U1 jl Am YG CI CJ cG;generalize hB:w.heap.size=B at *;have HB:Hid (w.heap.size=B):=hB;clear hB;apply wpIn_rangeFunc_ownG (F:=Fence.wide) (n:=9) (P:=Tryz.prog) (ps:=#[11,12]) (w:=w6) rfl (by omega) (gf:=259) (lb:=#[.pointer (some ⟨B+3+1,0,none⟩)]) rfl trivial (enters_of Tryz.func259 (by kernel_rfl) rfl)
  (Hi (T:=fun b=>b<B+5∧b≠B+1∧b≠B+1+1) E2.out HLEN.out (fun j hj=>⟨by have:=hlt j hj;omega,by have:=hlt j hj;omega,by have:=hlt j hj;omega⟩) (fun j b hj hb=>⟨by have:=hlo j b hj hb;omega,by have:=hlo j b hj hb;omega,by have:=hlo j b hj hb;omega⟩) 8 (B+3+1) i hi w6 (fun b hb=>by rw [IE];exact hb.1) ⟨by omega,by omega,by omega⟩ YH hx6)
  (fun h k=>KN.trans h k) (fun W l o o' hl ho hc _=>⟨fun b hb=>World.putObj_heap_other (by have:=hb.1;omega),fun b c z hb=>World.putObj_heap_other (fun e=>by subst e;rw [hb] at ho;injection ho with ho;subst ho;cases hc)⟩) (Below.refl _ _) (fun _=>(rfl:(2:Nat)=2))
  (CH n (B+5) (B+1) (B+1+1) A F (fun b=>b<B+5∧b≠B+1∧b≠B+1+1) w6) (fun _ _ _=>False)
 ·exact CH.own IE
 ·exact fun _ _ _ _ _ h _ _=>h
 ·exact ⟨KS.refl _ _,Below.refl _ _,.slice none 0 0,.slice none 0 0,ht6,⟨aF.nil _ _ _,aF.nil _ _ _,fun b hb=>(by cases hb),Below.refl _ _,fun _ _ _ _=>rfl,KeepsFrom.refl _ _⟩,hp6,by simp [ur,kX,cA,ct,BA]⟩
 ·intro l x W K hK
  simp only [Bw];gi_wp2;exact hK
 ·rintro l pre x W ⟨hks,gp,Pv,Nv,iX,tA,hmp,IL⟩ hpl
  obtain ⟨⟨x1,xp⟩,hx1,qU⟩:=x;have aW:=aa hlt;have U2:=aa hinj;have hxl:=hlt x1 hx1;have Rt:bf base n A kv F W:=YH.same (fun j hj=>hks (A j) ⟨by have:=hlt j hj;omega,by have:=hlt j hj;omega,by have:=hlt j hj;omega⟩) (fun j b hj hb=>hks b ⟨by have:=hlo j b hj hb;omega,by have:=hlo j b hj hb;omega,by have:=hlo j b hj hb;omega⟩);have hok:p9 n pre.length (ct F (cA pre)):=J5 pre;have hb0:W.cell? ⟨B+1,0,none⟩=some Pv:=by simp [World.cell?,iX]
  have hmb:W.cell? ⟨B+3,0,none⟩=some (.map (some (B+1+1))):=by rw [World.cell?_of_block (a:=⟨B+3,0,none⟩) (hks (B+3) ⟨by omega,by omega,by omega⟩)];exact hm6
  obtain ⟨pp,pc,rfl,_⟩:=tA.cI.form (n:=pre.length) (by rw [List.length_map];exact hok.lp);have hkeys:∀z∈kX A (ct F (cA pre)).mp,fq W z.1:=fun z hz=>by
   obtain ⟨y,hy,rfl⟩:=List.mem_map.1 hz;obtain ⟨y1,y2⟩:=y;cases y1 with
   | none=>trivial
   | some k=>exact Rt.plain (hok.keys _ hy k rfl)
  obtain ⟨w1,cG,BB,hs1,Rs,J6,J7,hb1⟩:=EW (P:=Tryz.prog) Tryz.underlying219 Tryz.underlying119 Tryz.qR hmp IL (k:=some (A x1)) (.int .i64 (pre.length:Nat)) (Rt.plain hx1) hkeys;simp only [pk] at cG;have Pg:pre.length≤100000:=by have:=HN.out;omega
  gi_wp2;have dw:jC (B+5) w1 w1 (.slice pp pre.length pc) Nv (ct F (cA pre)).ps (ct F (cA pre)).ns:=⟨tA.cI.same fun b hb=>hb1 b (by have:=(aI tA.cI hb).1;omega),tA.dx.same fun b hb=>hb1 b (by have:=(aI tA.dx hb).1;omega),tA.apart,Below.refl _ _,fun _ _ _ _=>rfl,KeepsFrom.refl _ _⟩;obtain ⟨np,nc,rfl,_⟩:=tA.dx.form (n:=pre.length) (by rw [List.length_map];exact hok.ln)
  have hput:sL (kX A (ct F (cA pre)).mp) (some (A x1)) (.int .i64 (pre.length:Nat))=kX A (ct F (cA (pre++[⟨(x1,xp),hx1,qU⟩]))).mp:=by rw [tj,show cA [(⟨(x1,xp),hx1,qU⟩:kV n)]=[(x1,xp)] from rfl,xd];show _=kX A (kj (ct F (cA pre)).mp (some x1) ((ct F (cA pre)).ps.length:Nat));rw [hok.lp,← Pe U2.out (fun j hj=>by cases hj;exact hx1) hok.keys];rfl
  rw [hput] at BB;have U3:ur (kX A (ct F (cA (pre++[⟨(x1,xp),hx1,qU⟩]))).mp):=by rw [← hput];exact L5 IL _ _
  have Ph:p9 n (pre++[(⟨(x1,xp),hx1,qU⟩:kV n)]).length (ct F (cA (pre++[⟨(x1,xp),hx1,qU⟩]))):=J5 _;have CF:bf base n A kv F w1:=Rt.same (fun j hj=>hb1 _ (by have:=aW.out j hj;omega)) (fun j b hj hb=>hb1 _ (by have:=hlo j b hj hb;omega));obtain ⟨z,hz⟩:∃z:Int,z=(((ct F (cA (pre++[⟨(x1,xp),hx1,qU⟩]))).mp).lookup xp).getD 0:=⟨_,rfl⟩;have U4:(ct F (cA (pre++[⟨(x1,xp),hx1,qU⟩]))).ps=(ct F (cA pre)).ps++[z]:=by rw [hz,tj,show cA [(⟨(x1,xp),hx1,qU⟩:kV n)]=[(x1,xp)] from rfl,xd];rfl
  have U5:(ct F (cA (pre++[⟨(x1,xp),hx1,qU⟩]))).ns=(ct F (cA pre)).ns++[F.nm x1]:=by rw [tj,show cA [(⟨(x1,xp),hx1,qU⟩:kV n)]=[(x1,xp)] from rfl,xd];rfl
  have pZ:Hid (∀We P2 N2,jC (B+5) w1 We P2 N2 ((ct F (cA pre)).ps++[z]) ((ct F (cA pre)).ns++[F.nm x1])→KeepsFrom w6.heap.size W ((We.setCell ⟨B+1,0,none⟩ P2).setCell ⟨B+1,1,none⟩ N2)∧KN (fun b=>b<B+5∧b≠B+1∧b≠B+1+1) W ((We.setCell ⟨B+1,0,none⟩ P2).setCell ⟨B+1,1,none⟩ N2) ∧
   CH n (B+5) (B+1) (B+1+1) A F (fun b=>b<B+5∧b≠B+1∧b≠B+1+1) w6 (pre++[⟨(x1,xp),hx1,qU⟩]) ((We.setCell ⟨B+1,0,none⟩ P2).setCell ⟨B+1,1,none⟩ N2)):=fun We P2 N2 hT=>CH.next IE hks gp iX hmp BB U3 hs1 Rs J6 J7 hb1 (by rw [U4,U5];exact hT)
  have hb0:w1.heap[B+1]? = some (Obj.cells #[.slice pp pre.length pc,.slice np pre.length nc] 39 (0,0)):=(hb1 _ (by omega)).trans iX;have iy:Hid (∀w',KS (fun b=>b<B+5) w1 w'→w'.cell? ⟨B+1,0,none⟩=some (.slice pp pre.length pc)∧w'.cell? ⟨B+1,1,none⟩=some (.slice np pre.length nc)∧w'.cell? ⟨B+3,0,none⟩=some (.map (some (B+1+1)))∧w'.cell? ⟨A x1,0,none⟩=some (.string (F.nm x1))∧(Instr.lookup 219 (.map (some (B+1+1))) (optr A xp) false).run Tryz.prog w'=.ok (.int .i64 z) w'):=fun w' hS=>by
   refine ⟨?_,?_,?_,?_,?_⟩
   ·simp [World.cell?,(hS (B+1) (by omega)).trans hb0]
   ·simp [World.cell?,(hS (B+1) (by omega)).trans hb0]
   ·rw [World.cell?_of_block (a:=⟨B+3,0,none⟩) ((hS (B+3) (by show B+3<B+5;omega)).trans (hb1 (B+3) (by omega)))];exact hmb
   ·rw [World.cell?_of_block (a:=⟨A x1,0,none⟩) (hS (A x1) (by show A x1<B+5;omega))];exact CF.name hx1
   ·have hpl:∀j,j<n→Plain w' (A j):=fun j hj=>(CF.plain hj).of_block (hS _ (by have:=aW.out j hj;show A j<B+5;omega))
    have h:=L6 (P:=Tryz.prog) (w:=w') Tryz.underlying219 Tryz.underlying119 Tryz.qR (z:=.int .i64 0) Tryz.zeroValue3 (BB.of_block (hS _ (by show B+1+1<B+5;omega))) (k:=xp.map A)
     (by cases xp with | none=>trivial | some k=>exact hpl k (qU k rfl)) (fun zz hzz=>by
      obtain ⟨y,hy,rfl⟩:=List.mem_map.1 hzz;obtain ⟨y1,y2⟩:=y;cases y1 with
      | none=>trivial
      | some k=>exact hpl k (Ph.keys _ hy k rfl))
    rw [yG U2.out (fun j hj=>qU j hj) Ph.keys] at h;(have e1:pk (xp.map A)=optr A xp:=by cases xp<;>rfl);(have e2:((((ct F (cA (pre++[⟨(x1,xp),hx1,qU⟩]))).mp).lookup xp).map (Value.int .i64)).getD (.int .i64 0)=.int .i64 z:=by rw [hz];cases List.lookup xp (ct F (cA (pre++[⟨(x1,xp),hx1,qU⟩]))).mp<;>rfl);rw [e1,e2] at h;exact h
  have IP:Hid (∀w',KS (fun b=>b<B+5) w1 w'→∀o,w'.frozen? ⟨B+1,o,none⟩=false):=fun w' hS o=>by simp [World.frozen?,(hS (B+1) (by omega)).trans hb0]
  have Ru:Hid (jC (B+5) w1 w1.drew (.slice pp pre.length pc) (.slice np pre.length nc) (ct F (cA pre)).ps (ct F (cA pre)).ns):=dw.up (Up.drewN w1 1) (by rw [hs1];have:=gp.size;omega);have mh:Hid ((ct F (cA pre)).ps.length=pre.length∧(ct F (cA pre)).ns.length=pre.length):=⟨hok.lp,hok.ln⟩;have Rv:B+5≤w1.drew.heap.size:=by show B+5≤w1.heap.size;rw [hs1];have:=gp.size;omega
  have HFW1:=aa CF;clear hput dw tA IL U3 hok Ph U4 U5 hb0 CF Rt hmp BB cG hks gp iX hkeys hmb hz hb1 hs1 Rs J6 J7 hlt hlo hinj;generalize (ct F (cA pre)).ps=PS at *;generalize (ct F (cA pre)).ns=NS at *;generalize F.nm x1=nm at *;refine OA (by kernel_rfl) 15 (KS (fun b=>b<B+5) w1) (KS.refl _ _) (fun hS=>?_);simp only [List.size_toArray,List.length_cons,List.length_nil,Nat.reduceAdd,Array.replicate_succ,Array.replicate_zero,List.push_toArray,List.nil_append,List.cons_append];generalize w1.drew=Wd at *
  refine bw.take (i:=0) (v:=?gv0) rfl (by kernel_rfl) (fun _ _ _ h=>h) (by rfl) (fun _=>rfl) (fun w hSw=>?gy0) hS ?gr0
  case gy0 =>obtain ⟨q1,q2,q3,q4,q5⟩:=iy.out w hSw;go_simp;try with_reducible rfl
  try simp only [Act.put,ay,az,aA]
  refine bw.take (i:=1) (v:=?gv1) rfl (by kernel_rfl) (fun _ _ _ h=>h) (by rfl) (fun _=>rfl) (fun w hSw=>?gy1) hS ?gr1
  case gy1 =>obtain ⟨q1,q2,q3,q4,q5⟩:=iy.out w hSw;go_simp;try with_reducible rfl
  try simp only [Act.put,ay,az,aA]
  refine bw.take (i:=2) (v:=?gv2) rfl (by kernel_rfl) (fun _ _ _ h=>h) (by rfl) (fun _=>rfl) (fun w hSw=>?gy2) hS ?gr2
  case gy2 =>obtain ⟨q1,q2,q3,q4,q5⟩:=iy.out w hSw;go_simp;try with_reducible rfl
  try simp only [Act.put,ay,az,aA]
  refine bw.take (i:=3) (v:=?gv3) rfl (by kernel_rfl) (fun _ _ _ h=>h) (by rfl) (fun _=>rfl) (fun w hSw=>?gy3) hS ?gr3
  case gy3 =>obtain ⟨q1,q2,q3,q4,q5⟩:=iy.out w hSw;go_simp;try with_reducible rfl
  try simp only [Act.put,ay,az,aA]
  refine bw.take (i:=4) (v:=?gv4) rfl (by kernel_rfl) (fun _ _ _ h=>h) (by rfl) (fun _=>rfl) (fun w hSw=>?gy4) hS ?gr4
  case gy4 =>obtain ⟨q1,q2,q3,q4,q5⟩:=iy.out w hSw;go_simp;try with_reducible rfl
  try simp only [Act.put,ay,az,aA]
  refine bw.take (i:=7) (v:=?gv7) rfl (by kernel_rfl) (fun _ _ _ h=>h) (by rfl) (fun _=>rfl) (fun w hSw=>?gy7) hS ?gr7
  case gy7 =>obtain ⟨q1,q2,q3,q4,q5⟩:=iy.out w hSw;go_simp;try with_reducible rfl
  try simp only [Act.put,ay,az,aA]
  refine bw.take (i:=8) (v:=?gv8) rfl (by kernel_rfl) (fun _ _ _ h=>h) (by rfl) (fun _=>rfl) (fun w hSw=>?gy8) hS ?gr8
  case gy8 =>obtain ⟨q1,q2,q3,q4,q5⟩:=iy.out w hSw;go_simp;try with_reducible rfl
  try simp only [Act.put,ay,az,aA]
  refine bw.take (i:=9) (v:=?gv9) rfl (by kernel_rfl) (fun _ _ _ h=>h) (by rfl) (fun _=>rfl) (fun w hSw=>?gy9) hS ?gr9
  case gy9 =>obtain ⟨q1,q2,q3,q4,q5⟩:=iy.out w hSw;go_simp;try with_reducible rfl
  try simp only [Act.put,ay,az,aA]
  refine bw.take (i:=10) (v:=?gv10) rfl (by kernel_rfl) (fun _ _ _ h=>h) (by rfl) (fun _=>rfl) (fun w hSw=>?gy10) hS ?gr10
  case gy10 =>obtain ⟨q1,q2,q3,q4,q5⟩:=iy.out w hSw;go_simp;try with_reducible rfl
  try simp only [Act.put,ay,az,aA]
  refine bw.take (i:=11) (v:=?gv11) rfl (by kernel_rfl) (fun _ _ _ h=>h) (by rfl) (fun _=>rfl) (fun w hSw=>?gy11) hS ?gr11
  case gy11 =>obtain ⟨q1,q2,q3,q4,q5⟩:=iy.out w hSw;go_simp;try with_reducible rfl
  try simp only [Act.put,ay,az,aA]
  refine bw.take (i:=12) (v:=?gv12) rfl (by kernel_rfl) (fun _ _ _ h=>h) (by rfl) (fun _=>rfl) (fun w hSw=>?gy12) hS ?gr12
  case gy12 =>obtain ⟨q1,q2,q3,q4,q5⟩:=iy.out w hSw;go_simp;try with_reducible rfl
  try simp only [Act.put,ay,az,aA]
  refine bw.xU (i:=5) (i2:=13) rfl rfl (by kernel_rfl) (fun K' hK=>?_) (fun K' hK=>?_)
  ·go_simp
   have E5:Hid (jC (B+5) w1 (Wd.alloc (.cells #[.int .i64 z] 3)) _ _ _ _):=Ru.out.up (Up.alloc _ _) Rv;have CK:B+5≤(Wd.alloc (.cells #[.int .i64 z] 3)).heap.size:=Nat.le_trans Rv (Up.alloc _ _).size;refine hK.out _ _ (fun _=>E5.out.low.block) (fun _=>?_);(try simp only [ay,az,aA]);refine bw.xU (i:=6) (i2:=13) rfl rfl (by kernel_rfl) (fun K' hK=>?_) (fun K' hK=>?_)
   ·refine kN (by rfl) _ _ _ (by rfl) (B+5) 3 _ 8 Tryz.underlying26 Tryz.fI (by rfl) (by decide) (by rfl) E5.out.cI (.int .i64 z) Wd.heap.size (by rfl) (aK Wd #[.int .i64 z] 3 0) (by rfl) (by rw [List.length_map,mh.out.1];omega) CK ?_
    intro g1 Ml jD qV jJ hrg1 _;have xe:Hid (jC (B+5) w1 jD _ _ _ _):=E5.out.zk CK qV jJ (hrg1.imp id (fun e=>Nat.le_of_eq e.symm));have yH:B+5≤jD.heap.size:=Nat.le_trans CK jJ.size;refine hK.out _ _ (fun _=>xe.out.low.block) (fun _=>?_);(try simp only [Act.put,ay,az,aA]);refine bw.free (i:=15) (v:=?gv15a) rfl (by kernel_rfl) (fun _ _ _ h=>h) (by rfl) (fun _=>rfl) (fun w=>?XB) (fun _=>xe.out.low.block) ?gr15a
    case XB =>go_simp;try with_reducible rfl
    (try simp only [Act.put,ay,az,aA]);refine bw.step (i:=13) rfl (by kernel_rfl) (fun K' hK=>?_);go_simp;have tB:Hid (jC (B+5) w1 (jD.alloc (.cells #[.string nm] 9)) _ _ _ _):=xe.out.up (Up.alloc _ _) yH;have xg:B+5≤(jD.alloc (.cells #[.string nm] 9)).heap.size:=Nat.le_trans yH (Up.alloc _ _).size;refine hK.out _ _ (fun _=>tB.out.low.block) (fun _=>?_);(try simp only [ay,az,aA]);refine bw.step (i:=14) rfl (by kernel_rfl) (fun K' hK=>?_)
    refine kN (by rfl) _ _ _ (by rfl) (B+5) 9 _ 16 Tryz.underlying22 Tryz.Bz (by rfl) (by decide) (by rfl) tB.out.dx (.string nm) jD.heap.size (by rfl) (aK jD #[.string nm] 9 0) (by rfl) (by rw [List.length_map,mh.out.2];omega) xg ?_;intro g2 Mm eF qW mN hrg2 _;have mj:Hid (jC (B+5) w1 eF _ _ _ _):=tB.out.zl xg qW mN (hrg2.imp id (fun e=>Nat.le_of_eq e.symm));have YI:B+5≤eF.heap.size:=Nat.le_trans xg mN.size;refine hK.out _ _ (fun _=>mj.out.low.block) (fun _=>?_)
    (try simp only [Act.put,ay,az,aA]);have Al:eF.cell? ⟨B+1,0,none⟩=some (.slice pp pre.length pc):=(iy.out eF mj.out.low.block).1;have gH:eF.cell? ⟨B+1,1,none⟩=some (.slice np pre.length nc):=(iy.out eF mj.out.low.block).2.1;have yI:eF.frozen? ⟨B+1,0,none⟩=false:=IP.out eF mj.out.low.block 0;have E6:eF.frozen? ⟨B+1,1,none⟩=false:=IP.out eF mj.out.low.block 1;have mO:=aa (pZ.out eF _ _ mj.out);refine bw.step (i:=16) rfl (by kernel_rfl) (fun K' hK=>?_);go_simp
    refine hK.out _ _ (aM (by kernel_rfl)) (fun _=>?_);(try simp only [ay,az,aA]);refine bw.free (i:=17) (v:=?gv17a) rfl (by kernel_rfl) (fun _ _ _ h=>h) (by rfl) (fun _=>rfl) (fun w=>?XC) (aM (by kernel_rfl)) ?gr17a
    case XC =>go_simp;try with_reducible rfl
    (try simp only [Act.put,ay,az,aA]);refine bw.step (i:=18) rfl (by kernel_rfl) (fun K' hK=>?_);go_simp;refine hK.out _ _ (aM (by kernel_rfl)) (fun _=>?_);refine bw.done (by kernel_rfl) ?_;gi_wp2;have b8:=mO.out;simp only [List.length_map] at b8;exact b8
   ·go_simp
    have xe:Hid (jC (B+5) w1 ((Wd.alloc (.cells #[.int .i64 z] 3)).alloc (.cells #[.string nm] 9)) _ _ _ _):=E5.out.up (Up.alloc _ _) CK;have yH:B+5≤((Wd.alloc (.cells #[.int .i64 z] 3)).alloc (.cells #[.string nm] 9)).heap.size:=Nat.le_trans CK (Up.alloc _ _).size;refine hK.out _ _ (fun _=>xe.out.low.block) (fun _=>?_);(try simp only [ay,az,aA]);have pG:=aK (Wd.alloc (.cells #[.int .i64 z] 3)) #[.string nm] 9 0
    have mF:=(Up.alloc (Wd.alloc (.cells #[.int .i64 z] 3)) (.cells #[.string nm] 9)).cell (aK Wd #[.int .i64 z] 3 0);rw [World.size_alloc] at pG;refine bw.step (i:=6) rfl (by kernel_rfl) (fun K' hK=>?_);refine kN (by rfl) _ _ _ (by rfl) (B+5) 3 _ 8 Tryz.underlying26 Tryz.fI (by rfl) (by decide) (by rfl) xe.out.cI (.int .i64 z) Wd.heap.size (by rfl) mF (by rfl) (by rw [List.length_map,mh.out.1];omega) yH ?_;intro g1 Ml jD qV jJ hrg1 _;have tB:Hid (jC (B+5) w1 jD _ _ _ _):=xe.out.zk yH qV jJ (hrg1.imp id (fun e=>Nat.le_of_eq e.symm))
    have xg:B+5≤jD.heap.size:=Nat.le_trans yH jJ.size;(have qI:jD.cell? ⟨Wd.heap.size+1,0,none⟩=some (.string nm):=by rw [jJ.cell_far ⟨Wd.heap.size+1,0,none⟩ (by simp) (fun e=>absurd (aI Ru.out.cI e.symm).2 (by show ¬(Wd.heap.size+1<Wd.heap.size);omega))];exact pG);refine hK.out _ _ (fun _=>tB.out.low.block) (fun _=>?_);(try simp only [Act.put,ay,az,aA]);refine bw.free (i:=15) (v:=?gv15b) rfl (by kernel_rfl) (fun _ _ _ h=>h) (by rfl) (fun _=>rfl) (fun w=>?XD) (fun _=>tB.out.low.block) ?gr15b
    case XD =>go_simp;try with_reducible rfl
    (try simp only [Act.put,ay,az,aA]);refine bw.step (i:=14) rfl (by kernel_rfl) (fun K' hK=>?_);refine kN (by rfl) _ _ _ (by rfl) (B+5) 9 _ 16 Tryz.underlying22 Tryz.Bz (by rfl) (by decide) (by rfl) tB.out.dx (.string nm) (Wd.heap.size+1) (by rfl) qI (by rfl) (by rw [List.length_map,mh.out.2];omega) xg ?_;intro g2 Mm eF qW mN hrg2 _;have mj:Hid (jC (B+5) w1 eF _ _ _ _):=tB.out.zl xg qW mN (hrg2.imp id (fun e=>Nat.le_of_eq e.symm));have YI:B+5≤eF.heap.size:=Nat.le_trans xg mN.size
    refine hK.out _ _ (fun _=>mj.out.low.block) (fun _=>?_);(try simp only [Act.put,ay,az,aA]);have Al:eF.cell? ⟨B+1,0,none⟩=some (.slice pp pre.length pc):=(iy.out eF mj.out.low.block).1;have gH:eF.cell? ⟨B+1,1,none⟩=some (.slice np pre.length nc):=(iy.out eF mj.out.low.block).2.1;have yI:eF.frozen? ⟨B+1,0,none⟩=false:=IP.out eF mj.out.low.block 0;have E6:eF.frozen? ⟨B+1,1,none⟩=false:=IP.out eF mj.out.low.block 1;have mO:=aa (pZ.out eF _ _ mj.out)
    refine bw.step (i:=16) rfl (by kernel_rfl) (fun K' hK=>?_);go_simp;refine hK.out _ _ (aM (by kernel_rfl)) (fun _=>?_);(try simp only [ay,az,aA]);refine bw.free (i:=17) (v:=?gv17b) rfl (by kernel_rfl) (fun _ _ _ h=>h) (by rfl) (fun _=>rfl) (fun w=>?XE) (aM (by kernel_rfl)) ?gr17b
    case XE =>go_simp;try with_reducible rfl
    (try simp only [Act.put,ay,az,aA]);refine bw.step (i:=18) rfl (by kernel_rfl) (fun K' hK=>?_);go_simp;refine hK.out _ _ (aM (by kernel_rfl)) (fun _=>?_);refine bw.done (by kernel_rfl) ?_;gi_wp2;have b8:=mO.out;simp only [List.length_map] at b8;exact b8
  ·go_simp
   have E5:Hid (jC (B+5) w1 (Wd.alloc (.cells #[.string nm] 9)) _ _ _ _):=Ru.out.up (Up.alloc _ _) Rv;have CK:B+5≤(Wd.alloc (.cells #[.string nm] 9)).heap.size:=Nat.le_trans Rv (Up.alloc _ _).size;refine hK.out _ _ (fun _=>E5.out.low.block) (fun _=>?_);(try simp only [ay,az,aA]);refine bw.step (i:=5) rfl (by kernel_rfl) (fun K' hK=>?_);go_simp;have xe:Hid (jC (B+5) w1 ((Wd.alloc (.cells #[.string nm] 9)).alloc (.cells #[.int .i64 z] 3)) _ _ _ _):=E5.out.up (Up.alloc _ _) CK
   have yH:B+5≤((Wd.alloc (.cells #[.string nm] 9)).alloc (.cells #[.int .i64 z] 3)).heap.size:=Nat.le_trans CK (Up.alloc _ _).size;refine hK.out _ _ (fun _=>xe.out.low.block) (fun _=>?_);(try simp only [ay,az,aA]);have mF:=aK (Wd.alloc (.cells #[.string nm] 9)) #[.int .i64 z] 3 0;have pG:=(Up.alloc (Wd.alloc (.cells #[.string nm] 9)) (.cells #[.int .i64 z] 3)).cell (aK Wd #[.string nm] 9 0);rw [World.size_alloc] at mF;refine bw.step (i:=6) rfl (by kernel_rfl) (fun K' hK=>?_)
   refine kN (by rfl) _ _ _ (by rfl) (B+5) 3 _ 8 Tryz.underlying26 Tryz.fI (by rfl) (by decide) (by rfl) xe.out.cI (.int .i64 z) (Wd.heap.size+1) (by rfl) mF (by rfl) (by rw [List.length_map,mh.out.1];omega) yH ?_;intro g1 Ml jD qV jJ hrg1 _;have tB:Hid (jC (B+5) w1 jD _ _ _ _):=xe.out.zk yH qV jJ (hrg1.imp id (fun e=>Nat.le_of_eq e.symm));have xg:B+5≤jD.heap.size:=Nat.le_trans yH jJ.size
   (have qI:jD.cell? ⟨Wd.heap.size,0,none⟩=some (.string nm):=by rw [jJ.cell_far ⟨Wd.heap.size,0,none⟩ (by simp;omega) (fun e=>absurd (aI Ru.out.cI e.symm).2 (by show ¬(Wd.heap.size<Wd.heap.size);omega))];exact pG);refine hK.out _ _ (fun _=>tB.out.low.block) (fun _=>?_);(try simp only [Act.put,ay,az,aA]);refine bw.free (i:=15) (v:=?gv15c) rfl (by kernel_rfl) (fun _ _ _ h=>h) (by rfl) (fun _=>rfl) (fun w=>?XF) (fun _=>tB.out.low.block) ?gr15c
   case XF =>go_simp;try with_reducible rfl
   (try simp only [Act.put,ay,az,aA]);refine bw.step (i:=14) rfl (by kernel_rfl) (fun K' hK=>?_);refine kN (by rfl) _ _ _ (by rfl) (B+5) 9 _ 16 Tryz.underlying22 Tryz.Bz (by rfl) (by decide) (by rfl) tB.out.dx (.string nm) Wd.heap.size (by rfl) qI (by rfl) (by rw [List.length_map,mh.out.2];omega) xg ?_;intro g2 Mm eF qW mN hrg2 _;have mj:Hid (jC (B+5) w1 eF _ _ _ _):=tB.out.zl xg qW mN (hrg2.imp id (fun e=>Nat.le_of_eq e.symm));have YI:B+5≤eF.heap.size:=Nat.le_trans xg mN.size
   refine hK.out _ _ (fun _=>mj.out.low.block) (fun _=>?_);(try simp only [Act.put,ay,az,aA]);have Al:eF.cell? ⟨B+1,0,none⟩=some (.slice pp pre.length pc):=(iy.out eF mj.out.low.block).1;have gH:eF.cell? ⟨B+1,1,none⟩=some (.slice np pre.length nc):=(iy.out eF mj.out.low.block).2.1;have yI:eF.frozen? ⟨B+1,0,none⟩=false:=IP.out eF mj.out.low.block 0;have E6:eF.frozen? ⟨B+1,1,none⟩=false:=IP.out eF mj.out.low.block 1;have mO:=aa (pZ.out eF _ _ mj.out)
   refine bw.step (i:=16) rfl (by kernel_rfl) (fun K' hK=>?_);go_simp;refine hK.out _ _ (aM (by kernel_rfl)) (fun _=>?_);(try simp only [ay,az,aA]);refine bw.free (i:=17) (v:=?gv17c) rfl (by kernel_rfl) (fun _ _ _ h=>h) (by rfl) (fun _=>rfl) (fun w=>?XG) (aM (by kernel_rfl)) ?gr17c
   case XG =>go_simp;try with_reducible rfl
   (try simp only [Act.put,ay,az,aA]);refine bw.step (i:=18) rfl (by kernel_rfl) (fun K' hK=>?_);go_simp;refine hK.out _ _ (aM (by kernel_rfl)) (fun _=>?_);refine bw.done (by kernel_rfl) ?_;gi_wp2;have b8:=mO.out;simp only [List.length_map] at b8;exact b8
 ·rintro D xs W hD hS ⟨hks,gp,Pv,Nv,iX,tA,hmp,IL⟩ hK
  have hb0:W.cell? ⟨B+1,0,none⟩=some Pv:=by simp [World.cell?,iX]
  have hb1:W.cell? ⟨B+1,1,none⟩=some Nv:=by simp [World.cell?,iX]
  have yJ:W.heap[B]? = some (Obj.cells #[.slice none 0 0,.slice none 0 0] 39 (0,0)):=(hks B ⟨by omega,by omega,by omega⟩).trans hr6;have hok:p9 n xs.length (ct F (cA xs)):=J5 xs;obtain ⟨pp,pc,rfl,_⟩:=tA.cI.form (n:=xs.length) (by rw [List.length_map];exact hok.lp);obtain ⟨np,nc,rfl,_⟩:=tA.dx.form (n:=xs.length) (by rw [List.length_map];exact hok.ln);have ji:W.cell? ⟨B,0,none⟩=some (.slice none 0 0):=by simp [World.cell?,yJ]
  have hr1:W.cell? ⟨B,1,none⟩=some (.slice none 0 0):=by simp [World.cell?,yJ]
  have IQ:W.frozen? ⟨B,0,none⟩=false:=by simp [World.frozen?,yJ]
  have nw:W.frozen? ⟨B,1,none⟩=false:=by simp [World.frozen?,yJ]
  gi_wp2_with fail;have U6:D≠B:=by omega
  have hK2:((W.setCell ⟨B,0,none⟩ (.slice pp xs.length pc)).setCell ⟨B,1,none⟩ (.slice np xs.length nc)).heap[D]? = some (.deferred (some [])):=by rw [blk_setCell_other _ _ _ _ U6,blk_setCell_other _ _ _ _ U6];exact hK
  refine ⟨by simp,.inl ⟨_,_,rfl,run_takeDeferred hK2,?_⟩⟩;have hheap:((W.setCell ⟨B,0,none⟩ (.slice pp xs.length pc)).setCell ⟨B,1,none⟩ (.slice np xs.length nc)).heap[B]? = some (Obj.cells #[.slice pp xs.length pc,.slice np xs.length nc] 39 (0,0)):=by simp [World.setCell,Array.getElem?_modify,yJ]
  have hq:∀b,b≠D→(((W.setCell ⟨B,0,none⟩ (.slice pp xs.length pc)).setCell ⟨B,1,none⟩ (.slice np xs.length nc)).putObj D (.deferred none)).heap[b]? = ((W.setCell ⟨B,0,none⟩ (.slice pp xs.length pc)).setCell ⟨B,1,none⟩ (.slice np xs.length nc)).heap[b]?:=fun b hb=>World.putObj_heap_other hb;have Mn:=(hq B (Ne.symm U6)).trans hheap;have U7:∀b,b≠B→((W.setCell ⟨B,0,none⟩ (.slice pp xs.length pc)).setCell ⟨B,1,none⟩ (.slice np xs.length nc)).heap[b]? = W.heap[b]?:=fun b hb=>by rw [blk_setCell_other _ _ _ _ hb,blk_setCell_other _ _ _ _ hb]
  have hsz:(((W.setCell ⟨B,0,none⟩ (.slice pp xs.length pc)).setCell ⟨B,1,none⟩ (.slice np xs.length nc)).putObj D (.deferred none)).heap.size=W.heap.size:=by simp [World.size_setCell]
  have hos:(((W.setCell ⟨B,0,none⟩ (.slice pp xs.length pc)).setCell ⟨B,1,none⟩ (.slice np xs.length nc)).putObj D (.deferred none)).os=W.os∧(((W.setCell ⟨B,0,none⟩ (.slice pp xs.length pc)).setCell ⟨B,1,none⟩ (.slice np xs.length nc)).putObj D (.deferred none)).tape=W.tape∧(((W.setCell ⟨B,0,none⟩ (.slice pp xs.length pc)).setCell ⟨B,1,none⟩ (.slice np xs.length nc)).putObj D (.deferred none)).output=W.output:=⟨rfl,rfl,rfl⟩;generalize ((W.setCell ⟨B,0,none⟩ (.slice pp xs.length pc)).setCell ⟨B,1,none⟩ (.slice np xs.length nc)).putObj D (.deferred none)=We at *
  have hc0:We.cell? ⟨B,0,none⟩=some (.slice pp xs.length pc):=by simp [World.cell?,Mn]
  have hc1:We.cell? ⟨B,1,none⟩=some (.slice np xs.length nc):=by simp [World.cell?,Mn]
  have hown:∀ {e:TypeId} {v:Value} {vs:List Value},aF (B+5) e W v vs→aF (B+5) e We v vs:=fun ho=>ho.same fun b hb=>by have h1:=(aI ho hb).1;obtain ⟨c,hc⟩:=ho.typed hb;(have hbD:b≠D:=fun e=>by subst e;rw [hK] at hc;cases hc);rw [hq b hbD,U7 b (by omega)]
  refine ⟨.agg #[.slice pp xs.length pc,.slice np xs.length nc],by simp [results,Tryz.results165,go_sem,hc0,hc1],?_,_,rfl,.slice pp xs.length pc,.slice np xs.length nc,rfl,?_,?_⟩
  ·have hX:=HX.out
   have hBw:=HB.out;refine ⟨hos.1.trans (gp.os.trans hX.os),hos.2.1.trans (gp.tape.trans hX.tape),hos.2.2.trans (gp.output.trans hX.output),?_,fun b hb=>?_⟩
   ·rw [hsz];have h1:=hX.size;have h2:=gp.size;omega
   ·rw [hBw] at hb
    rw [hq b (by omega),U7 b (by omega),gp.block b (by omega)];exact Below.block hX b (by rw [hBw];exact hb)
  ·show aj (fun b=>w.heap.size≤b) We _ (ct F (dH F rk i none)).ps
   rw [← hS,HB.out];exact (hown tA.cI).ints.sub fun b (hb:B+5≤b) _=>(by omega:B≤b)
  ·show ah (fun b=>w.heap.size≤b) We _ (ct F (dH F rk i none)).ns
   rw [← hS,HB.out];exact (hown tA.dx).strs.sub fun b (hb:B+5≤b) _=>(by omega:B≤b)
 ·rintro D c pre W _ _ h _
  exact h.elim
end Go.Proofs.YthgabkgmkolobaaGreat
