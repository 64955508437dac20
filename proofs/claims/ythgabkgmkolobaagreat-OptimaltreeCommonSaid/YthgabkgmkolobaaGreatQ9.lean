/- The contract of phylotree.tree. -/
import Derived.RangeFuncWrites
import Derived.Test.YthgabkgmkolobaaGreatQ8
set_option maxRecDepth 100000
set_option maxHeartbeats 4000000
namespace Go.Proofs.YthgabkgmkolobaaGreat
open Go.RowKit Go.Shelf Go.Deep
attribute [local go_sem] y5
theorem Tryz.O9:(Tryz.prog.info? 9).map (fun i=>(i.zero,i.size,i.bytes))=some (some (.string ⟨#[]⟩),1,16):=by kernel_rfl
def th (l:List (Option Nat×Int)) (k:Option Nat) (v:Int):List (Option Nat×Int):=if (l.lookup k).isNone then l++[(k,v)] else l.map fun x=>if x.1=k then (k,v) else x
structure GP where
 mp:List (Option Nat×Int)
 ps:List Int
 ns:List ByteArray
def wY (F:ct) (s:GP) (x:Nat×Option Nat):GP :=
 ⟨th s.mp (some x.1) s.ps.length,s.ps++[((th s.mp (some x.1) s.ps.length).lookup x.2).getD 0],s.ns++[F.nm x.1]⟩
def Pa:GP:=⟨[(none,-1)],[],[]⟩
def fW (F:ct) (l:List (Nat×Option Nat)):GP:=l.foldl (wY F) Pa
theorem Ii (F:ct) (l:List (Nat×Option Nat)) (x:Nat×Option Nat):fW F (l++[x])=wY F (fW F l) x:=by simp [fW]
def lZ (F:ct) (rk:Nat->Nat) (i:Nat):az:=⟨(fW F (iW F rk i none)).ps,(fW F (iW F rk i none)).ns⟩
def ux (A:Nat->Nat) (l:List (Option Nat×Int)):List (Option Nat×Value):=l.map fun x=>(x.1.map A,.int .i64 x.2)
def Ex (n:Nat) (l:List (Option Nat×Int)):Prop:=∀x∈l,∀k,x.1=some k->k<n
theorem map_inj {A:Nat->Nat} {n:Nat} (hinj:∀i j,i<n->j<n->A i=A j->i=j) {x y:Option Nat} (hx:∀k,x=some k->k<n) (hy:∀k,y=some k->k<n) (h:x.map A=y.map A):x=y:=by
 cases x with
 | none=>cases y with
  | none=>rfl
  | some b=>cases h
 | some a=>cases y with
  | none=>cases h
  | some b =>
   simp only [Option.map_some,Eh] at h;rw [hinj a b (hx a rfl) (hy b rfl) h]
theorem KF {A:Nat->Nat} {n:Nat} (hinj:∀i j,i<n->j<n->A i=A j->i=j) {k:Option Nat} (hk:∀j,k=some j->j<n):∀ {l:List (Option Nat×Int)},Ex n l->(ux A l).lookup (k.map A)=(l.lookup k).map (Value.int .i64):=by
 intro l
 induction l with
 | nil=>intro _;rfl
 | cons x l ih =>
  intro hl;obtain ⟨x1,x2⟩:=x;have hl2:Ex n l:=fun z hz=>hl z (by simp [hz]);show List.lookup (k.map A) ((x1.map A,Value.int .i64 x2)::ux A l)=_;rw [eC,eC];by_cases h:k=x1
  ·subst h;simp
  ·have h1:(k==x1)=false:=by simpa using h
   (have h2:(k.map A==x1.map A)=false:=by simp only [beq_eq_false_iff_ne,ne_eq];exact fun e=>h (map_inj hinj hk (fun j hj=>hl (x1,x2) (by simp) j hj) e));rw [h1,h2];exact ih hl2
theorem entA_put {A:Nat->Nat} {n:Nat} (hinj:∀i j,i<n->j<n->A i=A j->i=j) {k:Option Nat} (hk:∀j,k=some j->j<n) {l:List (Option Nat×Int)} (hl:Ex n l) (v:Int):DO (ux A l) (k.map A) (.int .i64 v)=ux A (th l k v):=by
 unfold DO th;rw [KF hinj hk hl];cases h:l.lookup k with
 | none=>simp [ux]
 | some y =>
  simp only [Option.map_some,Option.isNone_some,Bool.false_eq_true,if_false];unfold ux;rw [jO,jO];refine lU fun x hx=>?_;show (if x.1.map A=k.map A then (k.map A,Value.int .i64 v) else (x.1.map A,Value.int .i64 x.2))=((if x.1=k then (k,v) else x).1.map A,Value.int .i64 (if x.1=k then (k,v) else x).2);by_cases e:x.1=k
  ·rw [if_pos (by rw [e]),if_pos e]
  ·rw [if_neg (fun e2=>e (map_inj hinj (fun j hj=>hl x hx j hj) hk e2)),if_neg e]
theorem putI_keys {n:Nat} {l:List (Option Nat×Int)} (hl:Ex n l) {k:Option Nat} (hk:∀j,k=some j->j<n) (v:Int):Ex n (th l k v):=by
 intro x hx;unfold th at hx;split at hx
 ·rcases dV.1 hx with h | h
  ·exact hl x h
  ·have:x=(k,v):=by simpa using h
   subst this;exact hk
 ·obtain ⟨y,hy,e⟩:=cm.1 hx
  split at e
  ·subst e;exact hk
  ·subst e;exact hl y hy
structure Aq (n m:Nat) (s:GP):Prop where
 keys:Ex n s.mp
 lp:s.ps.length=m
 ln:s.ns.length=m
theorem Aq.step {n m:Nat} {s:GP} {F:ct} (h:Aq n m s) (x:uh n):Aq n (m+1) (wY F s x.1) :=
 ⟨putI_keys h.keys (fun j hj=>by cases hj;exact x.2.1) _,by show (s.ps++[_]).length=_;rw [aZ,h.lp];rfl,by show (s.ns++[_]).length=_;rw [aZ,h.ln];rfl⟩
theorem numOk_fold {n:Nat} {F:ct}:∀(l:List (uh n)) (m:Nat) (s:GP),Aq n m s->Aq n (m+l.length) ((eY l).foldl (wY F) s):=by
 intro l
 induction l with
 | nil=>intro m s h;exact h
 | cons x l ih =>
  intro m s h;have h2:=ih (m+1) _ (h.step (F:=F) x);rw [show m+(x::l).length=m+1+l.length by simp;omega];exact h2
theorem numOk {n:Nat} {F:ct} (l:List (uh n)):Aq n l.length (fW F (eY l)):=by
 have h:=numOk_fold (F:=F) l 0 Pa ⟨fun x hx k hk=>(by
  have:x=(none,-1):=by simpa [Pa] using hx
  subst this;cases hk),rfl,rfl⟩
 rw [mg] at h;exact h
def TrPost (w:World) (t:az) (e:Ending) (w':World):Prop:=Up w w'/\∃v,e=.returned v/\aI (fun b=>w.heap.size<=b) w' v t
structure rZ (B0:Nat) (w1 W:World) (Pv Nv:Value) (ps:List Int) (ns:List ByteArray):Prop where
 dJ:ax B0 3 W Pv (ps.map (Value.int .i64))
 eH:ax B0 9 W Nv (ns.map Value.string)
 apart:∀b,Pv.ownBlock=some b->Nv.ownBlock≠some b
 low:Below B0 w1 W
 fns:∀(b:Nat) (c:Array Value) (z:Nat×Nat),w1.heap[b]? = some (Obj.cells c 258 z)->W.heap[b]? = w1.heap[b]?
 far:KeepsFrom B0 w1 W
section
variable {B0:Nat} {w1 W W':World} {Pv Nv:Value} {ps:List Int} {ns:List ByteArray}
theorem ax.typed {base:Nat} {e:TypeId} {w:World} {v:Value} {vs:List Value} (h:ax base e w v vs) {b:Nat} (hb:v.ownBlock=some b):∃c,w.heap[b]? = some (Obj.cells c e (0,0)):=by
 obtain ⟨_,⟨rfl,_⟩ | ⟨g,cap,cur,rfl,_,hc,_⟩⟩:=h
 ·cases hb
 ·injection hb with hb;subst hb;exact ⟨cur,hc⟩
theorem rZ.up (h:rZ B0 w1 W Pv Nv ps ns) (hu:Up W W') (hB:B0<=W.heap.size):rZ B0 w1 W' Pv Nv ps ns :=
 ⟨h.dJ.same fun b hb=>bI hu b (av h.dJ hb).2,h.eH.same fun b hb=>bI hu b (av h.eH hb).2,h.apart,iH h.low (Below.mono hu hB),fun b c z hb=>by
  have h1:=h.fns b c z hb
  rw [<- h1]
  exact bI hu b (by rw [hb] at h1;exact (fR.1 h1).1),h.far.trans ⟨hu.size,fun k o _ hk _=>(bI hu k (fR.1 hk).1).trans hk⟩⟩
theorem rZ.BK (h:rZ B0 w1 W Pv Nv ps ns) (hB:B0<=W.heap.size) {g cap k:Nat} {u:Int} (ho:ax B0 3 W' (.slice (some ⟨g,0,none⟩) k cap) (ps.map (Value.int .i64)++[.int .i64 u])) (hg:W.grownBy W' Pv.ownBlock) (dD:Pv.ownBlock=some g\/W.heap.size<=g) :
  rZ B0 w1 W' (.slice (some ⟨g,0,none⟩) k cap) Nv (ps++[u]) ns:=by
 refine ⟨by rw [cg];exact ho,h.eH.same fun b hb=>hg.block b (av h.eH hb).2 (fun e=>h.apart b e.symm hb),fun b hb hb2=>?_,iH h.low (h.dJ.fE hg hB),fun b c z hb=>?_,h.far.trans ⟨hg.size,fun k o _ hk hc=>(hg.block k (fR.1 hk).1 (fun e=>?_)).trans hk⟩⟩
 ·injection hb with hb
  have hb:g=b:=hb;subst hb;rcases dD with h1 | h1
  ·exact h.apart g h1 hb2
  ·have:=(av h.eH hb2).2;omega
 ·have h1:=h.fns b c z hb
  rw [<- h1];refine hg.block b (by rw [hb] at h1;exact (fR.1 h1).1) (fun e=>?_);obtain ⟨c2,h2⟩:=h.dJ.typed e.symm;rw [h1,hb] at h2;injection h2 with h2;injection h2 with _ h2 _;cases h2
 ·obtain ⟨c2,h2⟩:=h.dJ.typed e.symm
  rw [h2] at hk;injection hk with hk;subst hk;cases hc
theorem rZ.BM (h:rZ B0 w1 W Pv Nv ps ns) (hB:B0<=W.heap.size) {g cap k:Nat} {u:ByteArray} (ho:ax B0 9 W' (.slice (some ⟨g,0,none⟩) k cap) (ns.map Value.string++[.string u])) (hg:W.grownBy W' Nv.ownBlock) (dD:Nv.ownBlock=some g\/W.heap.size<=g) :
  rZ B0 w1 W' Pv (.slice (some ⟨g,0,none⟩) k cap) ps (ns++[u]):=by
 refine ⟨h.dJ.same fun b hb=>hg.block b (av h.dJ hb).2 (fun e=>h.apart b hb e.symm),by rw [cg];exact ho,fun b hb hb2=>?_,iH h.low (h.eH.fE hg hB),fun b c z hb=>?_,h.far.trans ⟨hg.size,fun k o _ hk hc=>(hg.block k (fR.1 hk).1 (fun e=>?_)).trans hk⟩⟩
 ·injection hb2 with hb2
  have hb2:g=b:=hb2;subst hb2;rcases dD with h1 | h1
  ·exact h.apart g hb h1
  ·have:=(av h.dJ hb).2;omega
 ·have h1:=h.fns b c z hb
  rw [<- h1];refine hg.block b (by rw [hb] at h1;exact (fR.1 h1).1) (fun e=>?_);obtain ⟨c2,h2⟩:=h.eH.typed e.symm;rw [h1,hb] at h2;injection h2 with h2;injection h2 with _ h2 _;cases h2
 ·obtain ⟨c2,h2⟩:=h.eH.typed e.symm
  rw [h2] at hk;injection hk with hk;subst hk;cases hc
end
def QA (n B0 Bt m:Nat) (A:Nat->Nat) (F:ct) (T:Nat->Prop) (w6:World) (pre:List (uh n)) (W:World):Prop :=
 KS T w6 W/\Below (Bt) w6 W/\∃Pv Nv,W.heap[Bt]? = some (Obj.cells #[Pv,Nv] 39 (0,0))/\rZ B0 W W Pv Nv (fW F (eY pre)).ps (fW F (eY pre)).ns/\qH W m (ux A (fW F (eY pre)).mp)/\FK (ux A (fW F (eY pre)).mp)
theorem QA.own {n B:Nat} {A:Nat->Nat} {F:ct} {w6:World} (hz:w6.heap.size=B+5):OwnFrom w6.heap.size (QA n (B+5) (B+1) (B+1+1) A F (fun b=>b<B+5/\b≠B+1/\b≠B+1+1) w6):=by
 intro s X Y row hs hg hr;obtain ⟨hk,hb,Pv,Nv,jF,hT,hm,hu⟩:=hs;have hsz:B+5<=X.heap.size:=by have:=hb.size;omega
 have su:∀b,b<B+5->Y.heap[b]? = X.heap[b]?:=fun b hb2=>hg.block b (by omega) (fun e=>by obtain ⟨h1,_⟩:=hr b e.symm;omega)
 have hcell:∀(b:Nat) (c:Array Value) (e:TypeId) (z:Nat×Nat),X.heap[b]? = some (Obj.cells c e z)->Y.heap[b]? = X.heap[b]?:=fun b c e z hc=>hg.block b (fR.1 hc).1 (fun e2=>by
  obtain ⟨_,o,h1,h2⟩:=hr b e2.symm
  rw [hc] at h1;injection h1 with h1;subst h1;cases h2)
 refine ⟨fun b hb2=>(su b hb2.1).trans (hk b hb2),⟨hg.os.trans hb.os,hg.tape.trans hb.tape,hg.output.trans hb.output,aJ hb.size hg.size,fun b hb2=>(su b (by omega)).trans (hb.block b hb2)⟩,Pv,Nv,(su _ (by omega)).trans jF,?_,hm.of_block (su _ (by omega)),hu⟩;refine ⟨hT.dJ.same fun b hb2=>?_,hT.eH.same fun b hb2=>?_,hT.apart,dM _ _,fun _ _ _ _=>rfl,KeepsFrom.refl _ _⟩
 ·obtain ⟨c,hc⟩:=hT.dJ.typed hb2;exact hcell _ _ _ _ hc
 ·obtain ⟨c,hc⟩:=hT.eH.typed hb2;exact hcell _ _ _ _ hc
theorem QA.next {n B:Nat} {A:Nat->Nat} {F:ct} {w6 W w1 We:World} (hz:w6.heap.size=B+5) {pre:List (uh n)} {x:uh n} (hks:KS (fun b=>b<B+5/\b≠B+1/\b≠B+1+1) w6 W) (kJ:Below (B+1) w6 W)
  {P0 N0:Value} (jF:W.heap[B+1]? = some (Obj.cells #[P0,N0] 39 (0,0))) {es:List (Option Nat×Value)} (hmp0:qH W (B+1+1) es)
  (Pb:qH w1 (B+1+1) (ux A (fW F (eY (pre++[x]))).mp)) (YD:FK (ux A (fW F (eY (pre++[x]))).mp)) (hs1:w1.heap.size=W.heap.size) (ho1:w1.os=W.os) (htp1:w1.tape=W.tape) (hou1:w1.output=W.output) (hb1:∀j,j≠B+1+1->w1.heap[j]? = W.heap[j]?)
  {Pv Nv:Value} (hT:rZ (B+5) w1 We Pv Nv (fW F (eY (pre++[x]))).ps (fW F (eY (pre++[x]))).ns) :
  KeepsFrom w6.heap.size W ((We.setCell ⟨B+1,0,none⟩ Pv).setCell ⟨B+1,1,none⟩ Nv)/\KN (fun b=>b<B+5/\b≠B+1/\b≠B+1+1) W ((We.setCell ⟨B+1,0,none⟩ Pv).setCell ⟨B+1,1,none⟩ Nv) /\
   QA n (B+5) (B+1) (B+1+1) A F (fun b=>b<B+5/\b≠B+1/\b≠B+1+1) w6 (pre++[x]) ((We.setCell ⟨B+1,0,none⟩ Pv).setCell ⟨B+1,1,none⟩ Nv):=by
 have dR:∀b,b≠B+1->((We.setCell ⟨B+1,0,none⟩ Pv).setCell ⟨B+1,1,none⟩ Nv).heap[b]? = We.heap[b]?:=fun b hb=>by rw [blk_setCell_other _ _ _ _ hb,blk_setCell_other _ _ _ _ hb]
 have hsz:((We.setCell ⟨B+1,0,none⟩ Pv).setCell ⟨B+1,1,none⟩ Nv).heap.size=We.heap.size:=by simp [World.size_setCell]
 have zP:We.heap[B+1]? = some (Obj.cells #[P0,N0] 39 (0,0)):=(hT.low.block (B+1) (by omega)).trans ((hb1 _ (by omega)).trans jF);have QB:((We.setCell ⟨B+1,0,none⟩ Pv).setCell ⟨B+1,1,none⟩ Nv).heap[B+1]? = some (Obj.cells #[Pv,Nv] 39 (0,0)):=by simp [World.setCell,Array.getElem?_modify,zP]
 have hkT:KS (fun b=>b<B+5/\b≠B+1/\b≠B+1+1) W ((We.setCell ⟨B+1,0,none⟩ Pv).setCell ⟨B+1,1,none⟩ Nv):=fun b hb=>(dR b hb.2.1).trans ((hT.low.block b hb.1).trans (hb1 b hb.2.2))
 refine ⟨⟨?_,fun k o hk ho hc=>?_⟩,⟨hkT,fun b c z hb=>?_⟩,hks.trans hkT,⟨hT.low.os.trans (ho1.trans kJ.os),hT.low.tape.trans (htp1.trans kJ.tape),hT.low.output.trans (hou1.trans kJ.output),?_,fun b hb=>(hkT b ⟨by omega,by omega,by omega⟩).trans (kJ.block b hb)⟩,Pv,Nv,QB,⟨hT.dJ.same fun b hb=>dR b (by have:=(av hT.dJ hb).1;omega),hT.eH.same fun b hb=>dR b (by have:=(av hT.eH hb).1;omega),hT.apart,dM _ _,fun _ _ _ _=>rfl,KeepsFrom.refl _ _⟩,Pb.of_block ((dR _ (by omega)).trans (hT.low.block _ (by omega))),YD⟩
 ·rw [hsz,<- hs1];exact hT.low.size
 ·rw [dR k (by omega)]
  exact hT.far.same k o (by omega) ((hb1 k (by omega)).trans ho) hc
 ·have hne:b≠B+1+1:=fun e=>by
   subst e
   obtain ⟨es',ck,h1,_⟩:=hmp0
   rw [h1] at hb;cases hb
  have hne1:b≠B+1:=fun e=>by
   subst e
   rw [jF] at hb
   injection hb with hb
   injection hb with _ hb _
   cases hb
  rw [dR b hne1,hT.fns b c z (by rw [hb1 b hne];exact hb),hb1 b hne]
 ·rw [hsz];have h1:=hT.low.size;have h2:=kJ.size;omega
theorem tree_t {n base:Nat} {A:Nat->Nat} {kv:Nat->Value} {F:ct} {rk:Nat->Nat} (hwf:Wf F n rk) (hlen:∀i,i<n->(F.kids i).length<=1000) (w:World) (i:Nat) (hi:i<n) (hF:cU base n A kv F w) (hN:(iW F rk i none).length<=100000) :
  Calls Tryz.prog 165 #[.pointer (some ⟨A i,0,none⟩)] w (TrPost w (lZ F rk i)):=by
 refine (callsIn_wide (n:=9)).1 ?_;refine callsIn_of_wp_marks Tryz.func165 rfl trivial ?_ rfl;simp only [Tryz.ntmps165,eW,aT,dO,Nat.reduceAdd,Nat.reduceSub,ji,jk,eV,ve,cH,cr];have hmm:=fun W=>run_makeMap (P:=Tryz.prog) 219 W;obtain ⟨w3,hw3⟩:∃w3,w3=((w.alloc (.cells #[.slice none 0 0,.slice none 0 0] 39)).alloc (.cells #[.slice none 0 0,.slice none 0 0] 39)).alloc (.map #[] 0):=⟨_,rfl⟩
 have dQ:Up w w3:=by rw [hw3];exact ((Up.alloc _ _).trans (Up.alloc _ _)).trans (Up.alloc _ _)
 have hz3:w3.heap.size=w.heap.size+3:=by rw [hw3];simp
 have hp3:qH w3 (w.heap.size+1+1) []:=⟨#[],0,by
  rw [hw3];have h:=blk_alloc_new ((w.alloc (.cells #[.slice none 0 0,.slice none 0 0] 39)).alloc (.cells #[.slice none 0 0,.slice none 0 0] 39)) (.map #[] 0)
  simp only [aQ] at h;exact h,rfl⟩
 have ht3:w3.heap[w.heap.size+1]? = some (Obj.cells #[.slice none 0 0,.slice none 0 0] 39 (0,0)):=by rw [hw3,blk_alloc_lt _ _ _ (by simp)];have h:=blk_alloc_new (w.alloc (.cells #[.slice none 0 0,.slice none 0 0] 39)) (.cells #[.slice none 0 0,.slice none 0 0] 39);rw [aQ] at h;exact h
 have hr3:w3.heap[w.heap.size]? = some (Obj.cells #[.slice none 0 0,.slice none 0 0] 39 (0,0)):=by rw [hw3,blk_alloc_lt _ _ _ (by simp;omega),blk_alloc_lt _ _ _ (by simp)];exact blk_alloc_new _ _
 obtain ⟨w4,dR,hp4,hs4,ho4,htp4,hou4,hb4⟩:=TP (P:=Tryz.prog) Tryz.underlying219 Tryz.underlying119 Tryz.BF hp3 yV (k:=none) (.int .i64 (-1)) trivial (fun x hx=>by cases hx);have di:Up w w4:=⟨ho4.trans dQ.os,htp4.trans dQ.tape,hou4.trans dQ.output,by rw [hs4];exact dQ.size,fun b hb=>(hb4 b (by omega)).trans (bI dQ b hb)⟩;have ht4:=(hb4 (w.heap.size+1) (by omega)).trans ht3;have hr4:=(hb4 w.heap.size (by omega)).trans hr3;have hz4:w4.heap.size=w.heap.size+3:=hs4.trans hz3;rw [hw3] at dR;simp only [pk] at dR;have kX:=aa di;have KG:=aa ht4
 have HR4:=aa hr4;have QC:=aa hz4;have QE:=aa hp4;have HF:=aa hF;have TH:=aa hwf;have HLEN:=aa hlen;have HN:=aa hN;clear hw3 dQ hz3 hp3 ht3 hr3 hp4 hs4 ho4 htp4 hou4 hb4 di ht4 hr4 hz4 hF hwf hlen hN;gi_wp2_with fail;refine ⟨trivial,(callsIn_wide.2 (below_t _ _)).mono ?_⟩;rintro e w6 ⟨rfl,rfl⟩;rw [aQ,QC.out];gi_wp2_with fail;have dL:Up w4 ((w4.alloc (.cells #[.map (some (w.heap.size+1+1))] 219)).alloc (.cells #[.pointer (some ⟨A i,0,none⟩)] 119)):=(Up.alloc _ _).trans (Up.alloc _ _)
 have hz6:((w4.alloc (.cells #[.map (some (w.heap.size+1+1))] 219)).alloc (.cells #[.pointer (some ⟨A i,0,none⟩)] 119)).heap.size=w.heap.size+5:=by simp [QC.out]
 have hx6:((w4.alloc (.cells #[.map (some (w.heap.size+1+1))] 219)).alloc (.cells #[.pointer (some ⟨A i,0,none⟩)] 119)).cell? ⟨w.heap.size+3+1,0,none⟩=some (.pointer (some ⟨A i,0,none⟩)):=by have h:=aS (w4.alloc (.cells #[.map (some (w.heap.size+1+1))] 219)) #[.pointer (some ⟨A i,0,none⟩)] 119 0;rw [aQ,QC.out] at h;exact h
 have hm6:((w4.alloc (.cells #[.map (some (w.heap.size+1+1))] 219)).alloc (.cells #[.pointer (some ⟨A i,0,none⟩)] 119)).cell? ⟨w.heap.size+3,0,none⟩=some (.map (some (w.heap.size+1+1))):=by have h:=aS w4 #[.map (some (w.heap.size+1+1))] 219 0;rw [QC.out] at h;exact (Up.alloc _ _).cell h
 have ht6:=(bI dL (w.heap.size+1) (by rw [QC.out];omega)).trans KG.out;have hr6:=(bI dL w.heap.size (by rw [QC.out];omega)).trans HR4.out;have hp6:=QE.out.of_block (bI dL (w.heap.size+1+1) (by rw [QC.out];omega));have hF6:=(HF.out.up kX.out).up dL;have hu06:=kX.out.trans dL;generalize (w4.alloc (.cells #[.map (some (w.heap.size+1+1))] 219)).alloc (.cells #[.pointer (some ⟨A i,0,none⟩)] 119)=w6 at *;have hlt:∀j,j<n->A j<w.heap.size:=fun j hj=>HF.out.lt hj;have hlo:∀j b,j<n->(kv j).ownBlock=some b->b<w.heap.size:=fun j b hj hb=>(HF.out.ni hj hb).2
 have hinj:=HF.out.inj;have HX:=aa (show Up w w6 from hu06);clear dL hu06 kX KG HR4 QC QE dR;generalize hB:w.heap.size=B at *;have HB:Hid (w.heap.size=B):=hB;clear hB;apply wpIn_rangeFunc_ownG (F:=Fence.wide) (n:=9) (P:=Tryz.prog) (ps:=#[11,12]) (w:=w6) rfl (by omega) (gf:=259) (lb:=#[.pointer (some ⟨B+3+1,0,none⟩)]) rfl trivial (enters_of Tryz.func259 (by kernel_rfl) rfl)
  (XJ (T:=fun b=>b<B+5/\b≠B+1/\b≠B+1+1) TH.out HLEN.out (fun j hj=>⟨by have:=hlt j hj;omega,by have:=hlt j hj;omega,by have:=hlt j hj;omega⟩) (fun j b hj hb=>⟨by have:=hlo j b hj hb;omega,by have:=hlo j b hj hb;omega,by have:=hlo j b hj hb;omega⟩) 8 (B+3+1) i hi w6 (fun b hb=>by rw [hz6];exact hb.1) ⟨by omega,by omega,by omega⟩ hF6 hx6)
  (fun h k=>KN.trans h k) (fun W l o o' hl ho hc _=>⟨fun b hb=>nT (by have:=hb.1;omega),fun b c z hb=>nT (fun e=>by subst e;rw [hb] at ho;injection ho with ho;subst ho;cases hc)⟩) (dM _ _) (fun _=>(rfl:(2:Nat)=2))
  (QA n (B+5) (B+1) (B+1+1) A F (fun b=>b<B+5/\b≠B+1/\b≠B+1+1) w6) (fun _ _ _=>False)
 ·exact QA.own hz6
 ·exact fun _ _ _ _ _ h _ _=>h
 ·exact ⟨KS.refl _ _,dM _ _,.slice none 0 0,.slice none 0 0,ht6,⟨ax.nil _ _ _,ax.nil _ _ _,fun b hb=>(by cases hb),dM _ _,fun _ _ _ _=>rfl,KeepsFrom.refl _ _⟩,hp6,by simp [FK,ux,eY,fW,Pa]⟩
 ·intro l x W K hK
  simp only [O7];gi_wp2;exact hK
 ·rintro l pre x W ⟨hks,kJ,Pv,Nv,jF,Ey,hmp,YD⟩ hpl
  obtain ⟨⟨x1,xp⟩,hx1,BN⟩:=x;have bu:=aa hlt;have HINJ:=aa hinj;have hxl:=hlt x1 hx1;have hFW:cU base n A kv F W:=hF6.same (fun j hj=>hks (A j) ⟨by have:=hlt j hj;omega,by have:=hlt j hj;omega,by have:=hlt j hj;omega⟩) (fun j b hj hb=>hks b ⟨by have:=hlo j b hj hb;omega,by have:=hlo j b hj hb;omega,by have:=hlo j b hj hb;omega⟩);have hok:Aq n pre.length (fW F (eY pre)):=numOk pre;have hb0:W.cell? ⟨B+1,0,none⟩=some Pv:=by simp [World.cell?,jF]
  have hmb:W.cell? ⟨B+3,0,none⟩=some (.map (some (B+1+1))):=by rw [eX (a:=⟨B+3,0,none⟩) (hks (B+3) ⟨by omega,by omega,by omega⟩)];exact hm6
  obtain ⟨pp,pc,rfl,_⟩:=Ey.dJ.form (n:=pre.length) (by rw [aG];exact hok.lp);have hkeys:∀z∈ux A (fW F (eY pre)).mp,lW W z.1:=fun z hz=>by
   obtain ⟨y,hy,rfl⟩:=cm.1 hz;obtain ⟨y1,y2⟩:=y;cases y1 with
   | none=>trivial
   | some k=>exact hFW.plain (hok.keys _ hy k rfl)
  obtain ⟨w1,dR,Pb,hs1,ho1,htp1,hou1,hb1⟩:=TP (P:=Tryz.prog) Tryz.underlying219 Tryz.underlying119 Tryz.BF hmp YD (k:=some (A x1)) (.int .i64 (pre.length:Nat)) (hFW.plain hx1) hkeys;simp only [pk] at dR;have hpl2:pre.length<=100000:=by have:=HN.out;omega
  gi_wp2;have kY:rZ (B+5) w1 w1 (.slice pp pre.length pc) Nv (fW F (eY pre)).ps (fW F (eY pre)).ns:=⟨Ey.dJ.same fun b hb=>hb1 b (by have:=(av Ey.dJ hb).1;omega),Ey.eH.same fun b hb=>hb1 b (by have:=(av Ey.eH hb).1;omega),Ey.apart,dM _ _,fun _ _ _ _=>rfl,KeepsFrom.refl _ _⟩;obtain ⟨np,nc,rfl,_⟩:=Ey.eH.form (n:=pre.length) (by rw [aG];exact hok.ln)
  have hput:DO (ux A (fW F (eY pre)).mp) (some (A x1)) (.int .i64 (pre.length:Nat))=ux A (fW F (eY (pre++[⟨(x1,xp),hx1,BN⟩]))).mp:=by rw [Ew,show eY [(⟨(x1,xp),hx1,BN⟩:uh n)]=[(x1,xp)] from rfl,Ii];show _=ux A (th (fW F (eY pre)).mp (some x1) ((fW F (eY pre)).ps.length:Nat));rw [hok.lp,<- entA_put HINJ.out (fun j hj=>by cases hj;exact hx1) hok.keys];rfl
  rw [hput] at Pb;have huq1:FK (ux A (fW F (eY (pre++[⟨(x1,xp),hx1,BN⟩]))).mp):=by rw [<- hput];exact putL_uniq YD _ _
  have hok1:Aq n (pre++[(⟨(x1,xp),hx1,BN⟩:uh n)]).length (fW F (eY (pre++[⟨(x1,xp),hx1,BN⟩]))):=numOk _;have Qz:cU base n A kv F w1:=hFW.same (fun j hj=>hb1 _ (by have:=bu.out j hj;omega)) (fun j b hj hb=>hb1 _ (by have:=hlo j b hj hb;omega));obtain ⟨z,hz⟩:∃z:Int,z=(((fW F (eY (pre++[⟨(x1,xp),hx1,BN⟩]))).mp).lookup xp).getD 0:=⟨_,rfl⟩;have hpsE:(fW F (eY (pre++[⟨(x1,xp),hx1,BN⟩]))).ps=(fW F (eY pre)).ps++[z]:=by rw [hz,Ew,show eY [(⟨(x1,xp),hx1,BN⟩:uh n)]=[(x1,xp)] from rfl,Ii];rfl
  have hnsE:(fW F (eY (pre++[⟨(x1,xp),hx1,BN⟩]))).ns=(fW F (eY pre)).ns++[F.nm x1]:=by rw [Ew,show eY [(⟨(x1,xp),hx1,BN⟩:uh n)]=[(x1,xp)] from rfl,Ii];rfl
  have HNEXT:Hid (∀We P2 N2,rZ (B+5) w1 We P2 N2 ((fW F (eY pre)).ps++[z]) ((fW F (eY pre)).ns++[F.nm x1])->KeepsFrom w6.heap.size W ((We.setCell ⟨B+1,0,none⟩ P2).setCell ⟨B+1,1,none⟩ N2)/\KN (fun b=>b<B+5/\b≠B+1/\b≠B+1+1) W ((We.setCell ⟨B+1,0,none⟩ P2).setCell ⟨B+1,1,none⟩ N2) /\
   QA n (B+5) (B+1) (B+1+1) A F (fun b=>b<B+5/\b≠B+1/\b≠B+1+1) w6 (pre++[⟨(x1,xp),hx1,BN⟩]) ((We.setCell ⟨B+1,0,none⟩ P2).setCell ⟨B+1,1,none⟩ N2)):=fun We P2 N2 hT=>QA.next hz6 hks kJ jF hmp Pb huq1 hs1 ho1 htp1 hou1 hb1 (by rw [hpsE,hnsE];exact hT)
  have hb0:w1.heap[B+1]? = some (Obj.cells #[.slice pp pre.length pc,.slice np pre.length nc] 39 (0,0)):=(hb1 _ (by omega)).trans jF;have pU:Hid (∀w',KS (fun b=>b<B+5) w1 w'->w'.cell? ⟨B+1,0,none⟩=some (.slice pp pre.length pc)/\w'.cell? ⟨B+1,1,none⟩=some (.slice np pre.length nc)/\w'.cell? ⟨B+3,0,none⟩=some (.map (some (B+1+1)))/\w'.cell? ⟨A x1,0,none⟩=some (.string (F.nm x1))/\(Instr.lookup 219 (.map (some (B+1+1))) (O6 A xp) false).run Tryz.prog w'=.ok (.int .i64 z) w'):=fun w' hS=>by
   refine ⟨?_,?_,?_,?_,?_⟩
   ·simp [World.cell?,(hS (B+1) (by omega)).trans hb0]
   ·simp [World.cell?,(hS (B+1) (by omega)).trans hb0]
   ·rw [eX (a:=⟨B+3,0,none⟩) ((hS (B+3) (by show B+3<B+5;omega)).trans (hb1 (B+3) (by omega)))];exact hmb
   ·rw [eX (a:=⟨A x1,0,none⟩) (hS (A x1) (by show A x1<B+5;omega))];exact Qz.name hx1
   ·have hpl:∀j,j<n->Plain w' (A j):=fun j hj=>(Qz.plain hj).of_block (hS _ (by have:=bu.out j hj;show A j<B+5;omega))
    have h:=run_plook (P:=Tryz.prog) (w:=w') Tryz.underlying219 Tryz.underlying119 Tryz.BF (z:=.int .i64 0) Tryz.zeroValue3 (Pb.of_block (hS _ (by show B+1+1<B+5;omega))) (k:=xp.map A)
     (by cases xp with | none=>trivial | some k=>exact hpl k (BN k rfl)) (fun zz hzz=>by
      obtain ⟨y,hy,rfl⟩:=cm.1 hzz;obtain ⟨y1,y2⟩:=y;cases y1 with
      | none=>trivial
      | some k=>exact hpl k (hok1.keys _ hy k rfl))
    rw [KF HINJ.out (fun j hj=>BN j hj) hok1.keys] at h;(have e1:pk (xp.map A)=O6 A xp:=by cases xp<;>rfl);(have e2:((((fW F (eY (pre++[⟨(x1,xp),hx1,BN⟩]))).mp).lookup xp).map (Value.int .i64)).getD (.int .i64 0)=.int .i64 z:=by rw [hz];cases List.lookup xp (fW F (eY (pre++[⟨(x1,xp),hx1,BN⟩]))).mp<;>rfl);rw [e1,e2] at h;exact h
  have YE:Hid (∀w',KS (fun b=>b<B+5) w1 w'->∀o,w'.frozen? ⟨B+1,o,none⟩=false):=fun w' hS o=>by simp [World.frozen?,(hS (B+1) (by omega)).trans hb0]
  have Nt:Hid (rZ (B+5) w1 w1.drew (.slice pp pre.length pc) (.slice np pre.length nc) (fW F (eY pre)).ps (fW F (eY pre)).ns):=kY.up (Up.drewN w1 1) (by rw [hs1];have:=kJ.size;omega);have fN:Hid ((fW F (eY pre)).ps.length=pre.length/\(fW F (eY pre)).ns.length=pre.length):=⟨hok.lp,hok.ln⟩;have hSz:B+5<=w1.drew.heap.size:=by show B+5<=w1.heap.size;rw [hs1];have:=kJ.size;omega
  have HFW1:=aa Qz;clear hput kY Ey YD huq1 hok hok1 hpsE hnsE hb0 Qz hFW hmp Pb dR hks kJ jF hkeys hmb hz hb1 hs1 ho1 htp1 hou1 hlt hlo hinj;generalize (fW F (eY pre)).ps=PS at *;generalize (fW F (eY pre)).ns=NS at *;generalize F.nm x1=nm at *;refine TM (by kernel_rfl) 15 (KS (fun b=>b<B+5) w1) (KS.refl _ _) (fun hS=>?_);simp only [eW,aT,dO,Nat.reduceAdd,ji,jk,eV,cH,cr];generalize w1.drew=Wd at *
  refine cF.take (i:=0) (v:=?gv0) rfl (by kernel_rfl) (fun _ _ _ h=>h) (by rfl) (fun _=>rfl) (fun w hSw=>?gy0) hS ?gr0
  case gy0 =>obtain ⟨q1,q2,q3,q4,q5⟩:=pU.out w hSw;go_simp;try with_reducible rfl
  try simp only [Act.put,aA,aB,aC]
  refine cF.take (i:=1) (v:=?gv1) rfl (by kernel_rfl) (fun _ _ _ h=>h) (by rfl) (fun _=>rfl) (fun w hSw=>?gy1) hS ?gr1
  case gy1 =>obtain ⟨q1,q2,q3,q4,q5⟩:=pU.out w hSw;go_simp;try with_reducible rfl
  try simp only [Act.put,aA,aB,aC]
  refine cF.take (i:=2) (v:=?gv2) rfl (by kernel_rfl) (fun _ _ _ h=>h) (by rfl) (fun _=>rfl) (fun w hSw=>?gy2) hS ?gr2
  case gy2 =>obtain ⟨q1,q2,q3,q4,q5⟩:=pU.out w hSw;go_simp;try with_reducible rfl
  try simp only [Act.put,aA,aB,aC]
  refine cF.take (i:=3) (v:=?gv3) rfl (by kernel_rfl) (fun _ _ _ h=>h) (by rfl) (fun _=>rfl) (fun w hSw=>?gy3) hS ?gr3
  case gy3 =>obtain ⟨q1,q2,q3,q4,q5⟩:=pU.out w hSw;go_simp;try with_reducible rfl
  try simp only [Act.put,aA,aB,aC]
  refine cF.take (i:=4) (v:=?gv4) rfl (by kernel_rfl) (fun _ _ _ h=>h) (by rfl) (fun _=>rfl) (fun w hSw=>?gy4) hS ?gr4
  case gy4 =>obtain ⟨q1,q2,q3,q4,q5⟩:=pU.out w hSw;go_simp;try with_reducible rfl
  try simp only [Act.put,aA,aB,aC]
  refine cF.take (i:=7) (v:=?gv7) rfl (by kernel_rfl) (fun _ _ _ h=>h) (by rfl) (fun _=>rfl) (fun w hSw=>?gy7) hS ?gr7
  case gy7 =>obtain ⟨q1,q2,q3,q4,q5⟩:=pU.out w hSw;go_simp;try with_reducible rfl
  try simp only [Act.put,aA,aB,aC]
  refine cF.take (i:=8) (v:=?gv8) rfl (by kernel_rfl) (fun _ _ _ h=>h) (by rfl) (fun _=>rfl) (fun w hSw=>?gy8) hS ?gr8
  case gy8 =>obtain ⟨q1,q2,q3,q4,q5⟩:=pU.out w hSw;go_simp;try with_reducible rfl
  try simp only [Act.put,aA,aB,aC]
  refine cF.take (i:=9) (v:=?gv9) rfl (by kernel_rfl) (fun _ _ _ h=>h) (by rfl) (fun _=>rfl) (fun w hSw=>?gy9) hS ?gr9
  case gy9 =>obtain ⟨q1,q2,q3,q4,q5⟩:=pU.out w hSw;go_simp;try with_reducible rfl
  try simp only [Act.put,aA,aB,aC]
  refine cF.take (i:=10) (v:=?gv10) rfl (by kernel_rfl) (fun _ _ _ h=>h) (by rfl) (fun _=>rfl) (fun w hSw=>?gy10) hS ?gr10
  case gy10 =>obtain ⟨q1,q2,q3,q4,q5⟩:=pU.out w hSw;go_simp;try with_reducible rfl
  try simp only [Act.put,aA,aB,aC]
  refine cF.take (i:=11) (v:=?gv11) rfl (by kernel_rfl) (fun _ _ _ h=>h) (by rfl) (fun _=>rfl) (fun w hSw=>?gy11) hS ?gr11
  case gy11 =>obtain ⟨q1,q2,q3,q4,q5⟩:=pU.out w hSw;go_simp;try with_reducible rfl
  try simp only [Act.put,aA,aB,aC]
  refine cF.take (i:=12) (v:=?gv12) rfl (by kernel_rfl) (fun _ _ _ h=>h) (by rfl) (fun _=>rfl) (fun w hSw=>?gy12) hS ?gr12
  case gy12 =>obtain ⟨q1,q2,q3,q4,q5⟩:=pU.out w hSw;go_simp;try with_reducible rfl
  try simp only [Act.put,aA,aB,aC]
  refine cF.yG (i:=5) (i2:=13) rfl rfl (by kernel_rfl) (fun K' hK=>?_) (fun K' hK=>?_)
  ·go_simp
   have TQ:Hid (rZ (B+5) w1 (Wd.alloc (.cells #[.int .i64 z] 3)) _ _ _ _):=Nt.out.up (Up.alloc _ _) hSz;have QF:B+5<=(Wd.alloc (.cells #[.int .i64 z] 3)).heap.size:=aJ hSz (Up.alloc _ _).size;refine hK.out _ _ (fun _=>TQ.out.low.block) (fun _=>?_);(try simp only [aA,aB,aC]);refine cF.yG (i:=6) (i2:=13) rfl rfl (by kernel_rfl) (fun K' hK=>?_) (fun K' hK=>?_)
   ·refine tN (by rfl) _ _ _ (by rfl) (B+5) 3 _ 8 Tryz.underlying26 Tryz.kE (by rfl) (by decide) (by rfl) TQ.out.dJ (.int .i64 z) Wd.heap.size (by rfl) (aS Wd #[.int .i64 z] 3 0) (by rfl) (by rw [aG,fN.out.1];omega) QF ?_
    intro g1 Ij iO og gA hrg1 _;have Ik:Hid (rZ (B+5) w1 iO _ _ _ _):=TQ.out.BK QF og gA (hrg1.imp id (fun e=>fB e.symm));have KH:B+5<=iO.heap.size:=aJ QF gA.size;refine hK.out _ _ (fun _=>Ik.out.low.block) (fun _=>?_);(try simp only [Act.put,aA,aB,aC]);refine cF.free (i:=15) (v:=?gv15a) rfl (by kernel_rfl) (fun _ _ _ h=>h) (by rfl) (fun _=>rfl) (fun w=>?gy15a) (fun _=>Ik.out.low.block) ?gr15a
    case gy15a =>go_simp;try with_reducible rfl
    (try simp only [Act.put,aA,aB,aC]);refine cF.step (i:=13) rfl (by kernel_rfl) (fun K' hK=>?_);go_simp;have Ez:Hid (rZ (B+5) w1 (iO.alloc (.cells #[.string nm] 9)) _ _ _ _):=Ik.out.up (Up.alloc _ _) KH;have Il:B+5<=(iO.alloc (.cells #[.string nm] 9)).heap.size:=aJ KH (Up.alloc _ _).size;refine hK.out _ _ (fun _=>Ez.out.low.block) (fun _=>?_);(try simp only [aA,aB,aC]);refine cF.step (i:=14) rfl (by kernel_rfl) (fun K' hK=>?_)
    refine tN (by rfl) _ _ _ (by rfl) (B+5) 9 _ 16 Tryz.underlying22 Tryz.O9 (by rfl) (by decide) (by rfl) Ez.out.eH (.string nm) iO.heap.size (by rfl) (aS iO #[.string nm] 9 0) (by rfl) (by rw [aG,fN.out.2];omega) Il ?_;intro g2 y9 iX oh kQ hrg2 _;have vY:Hid (rZ (B+5) w1 iX _ _ _ _):=Ez.out.BM Il oh kQ (hrg2.imp id (fun e=>fB e.symm));have hSf:B+5<=iX.heap.size:=aJ Il kQ.size;refine hK.out _ _ (fun _=>vY.out.low.block) (fun _=>?_)
    (try simp only [Act.put,aA,aB,aC]);have zP:iX.cell? ⟨B+1,0,none⟩=some (.slice pp pre.length pc):=(pU.out iX vY.out.low.block).1;have o7:iX.cell? ⟨B+1,1,none⟩=some (.slice np pre.length nc):=(pU.out iX vY.out.low.block).2.1;have QG:iX.frozen? ⟨B+1,0,none⟩=false:=YE.out iX vY.out.low.block 0;have Im:iX.frozen? ⟨B+1,1,none⟩=false:=YE.out iX vY.out.low.block 1;have jr:=aa (HNEXT.out iX _ _ vY.out);refine cF.step (i:=16) rfl (by kernel_rfl) (fun K' hK=>?_);go_simp
    refine hK.out _ _ (aO (by kernel_rfl)) (fun _=>?_);(try simp only [aA,aB,aC]);refine cF.free (i:=17) (v:=?gv17a) rfl (by kernel_rfl) (fun _ _ _ h=>h) (by rfl) (fun _=>rfl) (fun w=>?gy17a) (aO (by kernel_rfl)) ?gr17a
    case gy17a =>go_simp;try with_reducible rfl
    (try simp only [Act.put,aA,aB,aC]);refine cF.step (i:=18) rfl (by kernel_rfl) (fun K' hK=>?_);go_simp;refine hK.out _ _ (aO (by kernel_rfl)) (fun _=>?_);refine cF.done (by kernel_rfl) ?_;gi_wp2;have eU:=jr.out;simp only [aG] at eU;exact eU
   ·go_simp
    have Ik:Hid (rZ (B+5) w1 ((Wd.alloc (.cells #[.int .i64 z] 3)).alloc (.cells #[.string nm] 9)) _ _ _ _):=TQ.out.up (Up.alloc _ _) QF;have KH:B+5<=((Wd.alloc (.cells #[.int .i64 z] 3)).alloc (.cells #[.string nm] 9)).heap.size:=aJ QF (Up.alloc _ _).size;refine hK.out _ _ (fun _=>Ik.out.low.block) (fun _=>?_);(try simp only [aA,aB,aC]);have uL:=aS (Wd.alloc (.cells #[.int .i64 z] 3)) #[.string nm] 9 0
    have sI:=(Up.alloc (Wd.alloc (.cells #[.int .i64 z] 3)) (.cells #[.string nm] 9)).cell (aS Wd #[.int .i64 z] 3 0);rw [aQ] at uL;refine cF.step (i:=6) rfl (by kernel_rfl) (fun K' hK=>?_);refine tN (by rfl) _ _ _ (by rfl) (B+5) 3 _ 8 Tryz.underlying26 Tryz.kE (by rfl) (by decide) (by rfl) Ik.out.dJ (.int .i64 z) Wd.heap.size (by rfl) sI (by rfl) (by rw [aG,fN.out.1];omega) KH ?_;intro g1 Ij iO og gA hrg1 _;have Ez:Hid (rZ (B+5) w1 iO _ _ _ _):=Ik.out.BK KH og gA (hrg1.imp id (fun e=>fB e.symm))
    have Il:B+5<=iO.heap.size:=aJ KH gA.size;(have vA:iO.cell? ⟨Wd.heap.size+1,0,none⟩=some (.string nm):=by rw [gA.cell_far ⟨Wd.heap.size+1,0,none⟩ (by simp) (fun e=>absurd (av Nt.out.dJ e.symm).2 (by show ¬(Wd.heap.size+1<Wd.heap.size);omega))];exact uL);refine hK.out _ _ (fun _=>Ez.out.low.block) (fun _=>?_);(try simp only [Act.put,aA,aB,aC]);refine cF.free (i:=15) (v:=?gv15b) rfl (by kernel_rfl) (fun _ _ _ h=>h) (by rfl) (fun _=>rfl) (fun w=>?gy15b) (fun _=>Ez.out.low.block) ?gr15b
    case gy15b =>go_simp;try with_reducible rfl
    (try simp only [Act.put,aA,aB,aC]);refine cF.step (i:=14) rfl (by kernel_rfl) (fun K' hK=>?_);refine tN (by rfl) _ _ _ (by rfl) (B+5) 9 _ 16 Tryz.underlying22 Tryz.O9 (by rfl) (by decide) (by rfl) Ez.out.eH (.string nm) (Wd.heap.size+1) (by rfl) vA (by rfl) (by rw [aG,fN.out.2];omega) Il ?_;intro g2 y9 iX oh kQ hrg2 _;have vY:Hid (rZ (B+5) w1 iX _ _ _ _):=Ez.out.BM Il oh kQ (hrg2.imp id (fun e=>fB e.symm));have hSf:B+5<=iX.heap.size:=aJ Il kQ.size
    refine hK.out _ _ (fun _=>vY.out.low.block) (fun _=>?_);(try simp only [Act.put,aA,aB,aC]);have zP:iX.cell? ⟨B+1,0,none⟩=some (.slice pp pre.length pc):=(pU.out iX vY.out.low.block).1;have o7:iX.cell? ⟨B+1,1,none⟩=some (.slice np pre.length nc):=(pU.out iX vY.out.low.block).2.1;have QG:iX.frozen? ⟨B+1,0,none⟩=false:=YE.out iX vY.out.low.block 0;have Im:iX.frozen? ⟨B+1,1,none⟩=false:=YE.out iX vY.out.low.block 1;have jr:=aa (HNEXT.out iX _ _ vY.out)
    refine cF.step (i:=16) rfl (by kernel_rfl) (fun K' hK=>?_);go_simp;refine hK.out _ _ (aO (by kernel_rfl)) (fun _=>?_);(try simp only [aA,aB,aC]);refine cF.free (i:=17) (v:=?gv17b) rfl (by kernel_rfl) (fun _ _ _ h=>h) (by rfl) (fun _=>rfl) (fun w=>?gy17b) (aO (by kernel_rfl)) ?gr17b
    case gy17b =>go_simp;try with_reducible rfl
    (try simp only [Act.put,aA,aB,aC]);refine cF.step (i:=18) rfl (by kernel_rfl) (fun K' hK=>?_);go_simp;refine hK.out _ _ (aO (by kernel_rfl)) (fun _=>?_);refine cF.done (by kernel_rfl) ?_;gi_wp2;have eU:=jr.out;simp only [aG] at eU;exact eU
  ·go_simp
   have TQ:Hid (rZ (B+5) w1 (Wd.alloc (.cells #[.string nm] 9)) _ _ _ _):=Nt.out.up (Up.alloc _ _) hSz;have QF:B+5<=(Wd.alloc (.cells #[.string nm] 9)).heap.size:=aJ hSz (Up.alloc _ _).size;refine hK.out _ _ (fun _=>TQ.out.low.block) (fun _=>?_);(try simp only [aA,aB,aC]);refine cF.step (i:=5) rfl (by kernel_rfl) (fun K' hK=>?_);go_simp;have Ik:Hid (rZ (B+5) w1 ((Wd.alloc (.cells #[.string nm] 9)).alloc (.cells #[.int .i64 z] 3)) _ _ _ _):=TQ.out.up (Up.alloc _ _) QF
   have KH:B+5<=((Wd.alloc (.cells #[.string nm] 9)).alloc (.cells #[.int .i64 z] 3)).heap.size:=aJ QF (Up.alloc _ _).size;refine hK.out _ _ (fun _=>Ik.out.low.block) (fun _=>?_);(try simp only [aA,aB,aC]);have sI:=aS (Wd.alloc (.cells #[.string nm] 9)) #[.int .i64 z] 3 0;have uL:=(Up.alloc (Wd.alloc (.cells #[.string nm] 9)) (.cells #[.int .i64 z] 3)).cell (aS Wd #[.string nm] 9 0);rw [aQ] at sI;refine cF.step (i:=6) rfl (by kernel_rfl) (fun K' hK=>?_)
   refine tN (by rfl) _ _ _ (by rfl) (B+5) 3 _ 8 Tryz.underlying26 Tryz.kE (by rfl) (by decide) (by rfl) Ik.out.dJ (.int .i64 z) (Wd.heap.size+1) (by rfl) sI (by rfl) (by rw [aG,fN.out.1];omega) KH ?_;intro g1 Ij iO og gA hrg1 _;have Ez:Hid (rZ (B+5) w1 iO _ _ _ _):=Ik.out.BK KH og gA (hrg1.imp id (fun e=>fB e.symm));have Il:B+5<=iO.heap.size:=aJ KH gA.size
   (have vA:iO.cell? ⟨Wd.heap.size,0,none⟩=some (.string nm):=by rw [gA.cell_far ⟨Wd.heap.size,0,none⟩ (by simp;omega) (fun e=>absurd (av Nt.out.dJ e.symm).2 (by show ¬(Wd.heap.size<Wd.heap.size);omega))];exact uL);refine hK.out _ _ (fun _=>Ez.out.low.block) (fun _=>?_);(try simp only [Act.put,aA,aB,aC]);refine cF.free (i:=15) (v:=?gv15c) rfl (by kernel_rfl) (fun _ _ _ h=>h) (by rfl) (fun _=>rfl) (fun w=>?gy15c) (fun _=>Ez.out.low.block) ?gr15c
   case gy15c =>go_simp;try with_reducible rfl
   (try simp only [Act.put,aA,aB,aC]);refine cF.step (i:=14) rfl (by kernel_rfl) (fun K' hK=>?_);refine tN (by rfl) _ _ _ (by rfl) (B+5) 9 _ 16 Tryz.underlying22 Tryz.O9 (by rfl) (by decide) (by rfl) Ez.out.eH (.string nm) Wd.heap.size (by rfl) vA (by rfl) (by rw [aG,fN.out.2];omega) Il ?_;intro g2 y9 iX oh kQ hrg2 _;have vY:Hid (rZ (B+5) w1 iX _ _ _ _):=Ez.out.BM Il oh kQ (hrg2.imp id (fun e=>fB e.symm));have hSf:B+5<=iX.heap.size:=aJ Il kQ.size
   refine hK.out _ _ (fun _=>vY.out.low.block) (fun _=>?_);(try simp only [Act.put,aA,aB,aC]);have zP:iX.cell? ⟨B+1,0,none⟩=some (.slice pp pre.length pc):=(pU.out iX vY.out.low.block).1;have o7:iX.cell? ⟨B+1,1,none⟩=some (.slice np pre.length nc):=(pU.out iX vY.out.low.block).2.1;have QG:iX.frozen? ⟨B+1,0,none⟩=false:=YE.out iX vY.out.low.block 0;have Im:iX.frozen? ⟨B+1,1,none⟩=false:=YE.out iX vY.out.low.block 1;have jr:=aa (HNEXT.out iX _ _ vY.out)
   refine cF.step (i:=16) rfl (by kernel_rfl) (fun K' hK=>?_);go_simp;refine hK.out _ _ (aO (by kernel_rfl)) (fun _=>?_);(try simp only [aA,aB,aC]);refine cF.free (i:=17) (v:=?gv17c) rfl (by kernel_rfl) (fun _ _ _ h=>h) (by rfl) (fun _=>rfl) (fun w=>?gy17c) (aO (by kernel_rfl)) ?gr17c
   case gy17c =>go_simp;try with_reducible rfl
   (try simp only [Act.put,aA,aB,aC]);refine cF.step (i:=18) rfl (by kernel_rfl) (fun K' hK=>?_);go_simp;refine hK.out _ _ (aO (by kernel_rfl)) (fun _=>?_);refine cF.done (by kernel_rfl) ?_;gi_wp2;have eU:=jr.out;simp only [aG] at eU;exact eU
 ·rintro D xs W hD hS ⟨hks,kJ,Pv,Nv,jF,Ey,hmp,YD⟩ hK
  have hb0:W.cell? ⟨B+1,0,none⟩=some Pv:=by simp [World.cell?,jF]
  have hb1:W.cell? ⟨B+1,1,none⟩=some Nv:=by simp [World.cell?,jF]
  have EA:W.heap[B]? = some (Obj.cells #[.slice none 0 0,.slice none 0 0] 39 (0,0)):=(hks B ⟨by omega,by omega,by omega⟩).trans hr6;have hok:Aq n xs.length (fW F (eY xs)):=numOk xs;obtain ⟨pp,pc,rfl,_⟩:=Ey.dJ.form (n:=xs.length) (by rw [aG];exact hok.lp);obtain ⟨np,nc,rfl,_⟩:=Ey.eH.form (n:=xs.length) (by rw [aG];exact hok.ln);have sH:W.cell? ⟨B,0,none⟩=some (.slice none 0 0):=by simp [World.cell?,EA]
  have hr1:W.cell? ⟨B,1,none⟩=some (.slice none 0 0):=by simp [World.cell?,EA]
  have KI:W.frozen? ⟨B,0,none⟩=false:=by simp [World.frozen?,EA]
  have nE:W.frozen? ⟨B,1,none⟩=false:=by simp [World.frozen?,EA]
  gi_wp2_with fail;have hD2:D≠B:=by omega
  have hK2:((W.setCell ⟨B,0,none⟩ (.slice pp xs.length pc)).setCell ⟨B,1,none⟩ (.slice np xs.length nc)).heap[D]? = some (.deferred (some [])):=by rw [blk_setCell_other _ _ _ _ hD2,blk_setCell_other _ _ _ _ hD2];exact hK
  refine ⟨by simp,.inl ⟨_,_,rfl,run_takeDeferred hK2,?_⟩⟩;have hheap:((W.setCell ⟨B,0,none⟩ (.slice pp xs.length pc)).setCell ⟨B,1,none⟩ (.slice np xs.length nc)).heap[B]? = some (Obj.cells #[.slice pp xs.length pc,.slice np xs.length nc] 39 (0,0)):=by simp [World.setCell,Array.getElem?_modify,EA]
  have hq:∀b,b≠D->(((W.setCell ⟨B,0,none⟩ (.slice pp xs.length pc)).setCell ⟨B,1,none⟩ (.slice np xs.length nc)).putObj D (.deferred none)).heap[b]? = ((W.setCell ⟨B,0,none⟩ (.slice pp xs.length pc)).setCell ⟨B,1,none⟩ (.slice np xs.length nc)).heap[b]?:=fun b hb=>nT hb;have hheap2:=(hq B (gj hD2)).trans hheap;have zQ:∀b,b≠B->((W.setCell ⟨B,0,none⟩ (.slice pp xs.length pc)).setCell ⟨B,1,none⟩ (.slice np xs.length nc)).heap[b]? = W.heap[b]?:=fun b hb=>by rw [blk_setCell_other _ _ _ _ hb,blk_setCell_other _ _ _ _ hb]
  have hsz:(((W.setCell ⟨B,0,none⟩ (.slice pp xs.length pc)).setCell ⟨B,1,none⟩ (.slice np xs.length nc)).putObj D (.deferred none)).heap.size=W.heap.size:=by simp [World.size_setCell]
  have hos:(((W.setCell ⟨B,0,none⟩ (.slice pp xs.length pc)).setCell ⟨B,1,none⟩ (.slice np xs.length nc)).putObj D (.deferred none)).os=W.os/\(((W.setCell ⟨B,0,none⟩ (.slice pp xs.length pc)).setCell ⟨B,1,none⟩ (.slice np xs.length nc)).putObj D (.deferred none)).tape=W.tape/\(((W.setCell ⟨B,0,none⟩ (.slice pp xs.length pc)).setCell ⟨B,1,none⟩ (.slice np xs.length nc)).putObj D (.deferred none)).output=W.output:=⟨rfl,rfl,rfl⟩;generalize ((W.setCell ⟨B,0,none⟩ (.slice pp xs.length pc)).setCell ⟨B,1,none⟩ (.slice np xs.length nc)).putObj D (.deferred none)=We at *
  have hc0:We.cell? ⟨B,0,none⟩=some (.slice pp xs.length pc):=by simp [World.cell?,hheap2]
  have hc1:We.cell? ⟨B,1,none⟩=some (.slice np xs.length nc):=by simp [World.cell?,hheap2]
  have hown:∀ {e:TypeId} {v:Value} {vs:List Value},ax (B+5) e W v vs->ax (B+5) e We v vs:=fun ho=>ho.same fun b hb=>by have h1:=(av ho hb).1;obtain ⟨c,hc⟩:=ho.typed hb;(have hbD:b≠D:=fun e=>by subst e;rw [hK] at hc;cases hc);rw [hq b hbD,zQ b (by omega)]
  refine ⟨.agg #[.slice pp xs.length pc,.slice np xs.length nc],by simp [results,Tryz.results165,go_sem,hc0,hc1],?_,_,rfl,.slice pp xs.length pc,.slice np xs.length nc,rfl,?_,?_⟩
  ·have hX:=HX.out
   have hBw:=HB.out;refine ⟨hos.1.trans (kJ.os.trans hX.os),hos.2.1.trans (kJ.tape.trans hX.tape),hos.2.2.trans (kJ.output.trans hX.output),?_,fun b hb=>?_⟩
   ·rw [hsz];have h1:=hX.size;have h2:=kJ.size;omega
   ·rw [hBw] at hb
    rw [hq b (by omega),zQ b (by omega),kJ.block b (by omega)];exact bI hX b (by rw [hBw];exact hb)
  ·show ah (fun b=>w.heap.size<=b) We _ (fW F (iW F rk i none)).ps
   rw [<- hS,HB.out];exact (hown Ey.dJ).ints.sub fun b (hb:B+5<=b) _=>(by omega:B<=b)
  ·show au (fun b=>w.heap.size<=b) We _ (fW F (iW F rk i none)).ns
   rw [<- hS,HB.out];exact (hown Ey.eH).strs.sub fun b (hb:B+5<=b) _=>(by omega:B<=b)
 ·rintro D c pre W _ _ h _
  exact h.elim
end Go.Proofs.YthgabkgmkolobaaGreat
