/- The contract of phylotree.tree. -/
import Derived.Test.YtfomhlbhcifgbaaGreatDoorQ22
set_option maxRecDepth 100000
set_option maxHeartbeats 4000000
namespace Go.Proofs.YtfomhlbhcifgbaaGreatDoor
open Go.RowKit Go.Shelf Go.Deep
attribute [local go_sem] vz
theorem Tryz.CR:(Tryz.prog.info? 9).map (fun i=>(i.zero,i.size,i.bytes))=some (some (.string ⟨#[]⟩),1,16):=by kernel_rfl
def lz (l:List (Option Nat×Int)) (k:Option Nat) (v:Int):List (Option Nat×Int):=if (l.lookup k).isNone then l++[(k,v)] else l.map fun x=>if x.1=k then (k,v) else x
structure wU where
 mp:List (Option Nat×Int)
 ps:List Int
 ns:List ByteArray
def oh (F:aW) (s:wU) (x:Nat×Option Nat):wU :=
 ⟨lz s.mp (some x.1) s.ps.length,s.ps++[((lz s.mp (some x.1) s.ps.length).lookup x.2).getD 0],s.ns++[F.nm x.1]⟩
def CS:wU:=⟨[(none,-1)],[],[]⟩
def cH (F:aW) (l:List (Nat×Option Nat)):wU:=l.foldl (oh F) CS
theorem yg (F:aW) (l:List (Nat×Option Nat)) (x:Nat×Option Nat):cH F (l++[x])=oh F (cH F l) x:=by simp [cH]
def fR (F:aW) (rk:Nat->Nat) (i:Nat):aA:=⟨(cH F (dW F rk i none)).ps,(cH F (dW F rk i none)).ns⟩
def mm (A:Nat->Nat) (l:List (Option Nat×Int)):List (Option Nat×Value):=l.map fun x=>(x.1.map A,.int .i64 x.2)
def uH (n:Nat) (l:List (Option Nat×Int)):Prop:=∀x∈l,∀k,x.1=some k->k<n
theorem map_inj {A:Nat->Nat} {n:Nat} (hinj:∀i j,i<n->j<n->A i=A j->i=j) {x y:Option Nat} (hx:∀k,x=some k->k<n) (hy:∀k,y=some k->k<n) (h:x.map A=y.map A):x=y:=by
 cases x with
 | none=>cases y with
  | none=>rfl
  | some b=>cases h
 | some a=>cases y with
  | none=>cases h
  | some b =>
   simp only [Option.map_some,um] at h;rw [hinj a b (hx a rfl) (hy b rfl) h]
theorem zJ {A:Nat->Nat} {n:Nat} (hinj:∀i j,i<n->j<n->A i=A j->i=j) {k:Option Nat} (hk:∀j,k=some j->j<n):∀ {l:List (Option Nat×Int)},uH n l->(mm A l).lookup (k.map A)=(l.lookup k).map (Value.int .i64):=by
 intro l
 induction l with
 | nil=>intro _;rfl
 | cons x l ih =>
  intro hl;obtain ⟨x1,x2⟩:=x;have hl2:uH n l:=fun z hz=>hl z (by simp [hz]);show List.lookup (k.map A) ((x1.map A,Value.int .i64 x2)::mm A l)=_;rw [dJ,dJ];by_cases h:k=x1
  ·subst h;simp
  ·have h1:(k==x1)=false:=by simpa using h
   (have h2:(k.map A==x1.map A)=false:=by simp only [beq_eq_false_iff_ne,ne_eq];exact fun e=>h (map_inj hinj hk (fun j hj=>hl (x1,x2) (by simp) j hj) e));rw [h1,h2];exact ih hl2
theorem QL {A:Nat->Nat} {n:Nat} (hinj:∀i j,i<n->j<n->A i=A j->i=j) {k:Option Nat} (hk:∀j,k=some j->j<n) {l:List (Option Nat×Int)} (hl:uH n l) (v:Int):tW (mm A l) (k.map A) (.int .i64 v)=mm A (lz l k v):=by
 unfold tW lz;rw [zJ hinj hk hl];cases h:l.lookup k with
 | none=>simp [mm]
 | some y =>
  simp only [Option.map_some,Option.isNone_some,Bool.false_eq_true,if_false];unfold mm;rw [jO,jO];refine iK fun x hx=>?_;show (if x.1.map A=k.map A then (k.map A,Value.int .i64 v) else (x.1.map A,Value.int .i64 x.2))=((if x.1=k then (k,v) else x).1.map A,Value.int .i64 (if x.1=k then (k,v) else x).2);by_cases e:x.1=k
  ·rw [if_pos (by rw [e]),if_pos e]
  ·rw [if_neg (fun e2=>e (map_inj hinj (fun j hj=>hl x hx j hj) hk e2)),if_neg e]
theorem Nz {n:Nat} {l:List (Option Nat×Int)} (hl:uH n l) {k:Option Nat} (hk:∀j,k=some j->j<n) (v:Int):uH n (lz l k v):=by
 intro x hx;unfold lz at hx;split at hx
 ·rcases eD.1 hx with h | h
  ·exact hl x h
  ·have:x=(k,v):=by simpa using h
   subst this;exact hk
 ·obtain ⟨y,hy,e⟩:=ek.1 hx
  split at e
  ·subst e;exact hk
  ·subst e;exact hl y hy
structure qT (n m:Nat) (s:wU):Prop where
 keys:uH n s.mp
 lp:s.ps.length=m
 ln:s.ns.length=m
theorem qT.step {n m:Nat} {s:wU} {F:aW} (h:qT n m s) (x:l9 n):qT n (m+1) (oh F s x.1) :=
 ⟨Nz h.keys (fun j hj=>by cases hj;exact x.2.1) _,by show (s.ps++[_]).length=_;rw [bG,h.lp];rfl,by show (s.ns++[_]).length=_;rw [bG,h.ln];rfl⟩
theorem Lr {n:Nat} {F:aW}:∀(l:List (l9 n)) (m:Nat) (s:wU),qT n m s->qT n (m+l.length) ((cK l).foldl (oh F) s):=by
 intro l
 induction l with
 | nil=>intro m s h;exact h
 | cons x l ih =>
  intro m s h;have h2:=ih (m+1) _ (h.step (F:=F) x);rw [show m+(x::l).length=m+1+l.length by simp;omega];exact h2
theorem Ls {n:Nat} {F:aW} (l:List (l9 n)):qT n l.length (cH F (cK l)):=by
 have h:=Lr (F:=F) l 0 CS ⟨fun x hx k hk=>(by
  have:x=(none,-1):=by simpa [CS] using hx
  subst this;cases hk),rfl,rfl⟩
 rw [jQ] at h;exact h
def NA (w:World) (t:aA) (e:Ending) (w':World):Prop:=Up w w'/\∃v,e=.returned v/\aJ (fun b=>w.heap.size<=b) w' v t
structure kj (B0:Nat) (w1 W:World) (Pv Nv:Value) (ps:List Int) (ns:List ByteArray):Prop where
 iD:au B0 3 W Pv (ps.map (Value.int .i64))
 jF:au B0 9 W Nv (ns.map Value.string)
 apart:∀b,Pv.ownBlock=some b->Nv.ownBlock≠some b
 low:Below B0 w1 W
 fns:∀(b:Nat) (c:Array Value) (z:Nat×Nat),w1.heap[b]? = some (Obj.cells c 161 z)->W.heap[b]? = w1.heap[b]?
 far:KeepsFrom B0 w1 W
section
variable {B0:Nat} {w1 W W':World} {Pv Nv:Value} {ps:List Int} {ns:List ByteArray}
theorem au.typed {base:Nat} {e:TypeId} {w:World} {v:Value} {vs:List Value} (h:au base e w v vs) {b:Nat} (hb:v.ownBlock=some b):∃c,w.heap[b]? = some (Obj.cells c e (0,0)):=by
 obtain ⟨_,⟨rfl,_⟩ | ⟨g,cap,cur,rfl,_,hc,_⟩⟩:=h
 ·cases hb
 ·injection hb with hb;subst hb;exact ⟨cur,hc⟩
theorem kj.up (h:kj B0 w1 W Pv Nv ps ns) (hu:Up W W') (hB:B0<=W.heap.size):kj B0 w1 W' Pv Nv ps ns :=
 ⟨h.iD.same fun b hb=>aO hu b (az h.iD hb).2,h.jF.same fun b hb=>aO hu b (az h.jF hb).2,h.apart,dI h.low (Below.mono hu hB),fun b c z hb=>by
  have h1:=h.fns b c z hb
  rw [<- h1]
  exact aO hu b (by rw [hb] at h1;exact (bq.1 h1).1),h.far.trans ⟨hu.size,fun k o _ hk _=>(aO hu k (bq.1 hk).1).trans hk⟩⟩
theorem kj.QM (h:kj B0 w1 W Pv Nv ps ns) (hB:B0<=W.heap.size) {g cap k:Nat} {u:Int} (ho:au B0 3 W' (.slice (some ⟨g,0,none⟩) k cap) (ps.map (Value.int .i64)++[.int .i64 u])) (hg:W.grownBy W' Pv.ownBlock) (dr:Pv.ownBlock=some g\/W.heap.size<=g) :
  kj B0 w1 W' (.slice (some ⟨g,0,none⟩) k cap) Nv (ps++[u]) ns:=by
 refine ⟨by rw [cm];exact ho,h.jF.same fun b hb=>hg.block b (az h.jF hb).2 (fun e=>h.apart b e.symm hb),fun b hb hb2=>?_,dI h.low (h.iD.cQ hg hB),fun b c z hb=>?_,h.far.trans ⟨hg.size,fun k o _ hk hc=>(hg.block k (bq.1 hk).1 (fun e=>?_)).trans hk⟩⟩
 ·injection hb with hb
  have hb:g=b:=hb;subst hb;rcases dr with h1 | h1
  ·exact h.apart g h1 hb2
  ·have:=(az h.jF hb2).2;omega
 ·have h1:=h.fns b c z hb
  rw [<- h1];refine hg.block b (by rw [hb] at h1;exact (bq.1 h1).1) (fun e=>?_);obtain ⟨c2,h2⟩:=h.iD.typed e.symm;rw [h1,hb] at h2;injection h2 with h2;injection h2 with _ h2 _;cases h2
 ·obtain ⟨c2,h2⟩:=h.iD.typed e.symm
  rw [h2] at hk;injection hk with hk;subst hk;cases hc
theorem kj.QN (h:kj B0 w1 W Pv Nv ps ns) (hB:B0<=W.heap.size) {g cap k:Nat} {u:ByteArray} (ho:au B0 9 W' (.slice (some ⟨g,0,none⟩) k cap) (ns.map Value.string++[.string u])) (hg:W.grownBy W' Nv.ownBlock) (dr:Nv.ownBlock=some g\/W.heap.size<=g) :
  kj B0 w1 W' Pv (.slice (some ⟨g,0,none⟩) k cap) ps (ns++[u]):=by
 refine ⟨h.iD.same fun b hb=>hg.block b (az h.iD hb).2 (fun e=>h.apart b hb e.symm),by rw [cm];exact ho,fun b hb hb2=>?_,dI h.low (h.jF.cQ hg hB),fun b c z hb=>?_,h.far.trans ⟨hg.size,fun k o _ hk hc=>(hg.block k (bq.1 hk).1 (fun e=>?_)).trans hk⟩⟩
 ·injection hb2 with hb2
  have hb2:g=b:=hb2;subst hb2;rcases dr with h1 | h1
  ·exact h.apart g hb h1
  ·have:=(az h.iD hb).2;omega
 ·have h1:=h.fns b c z hb
  rw [<- h1];refine hg.block b (by rw [hb] at h1;exact (bq.1 h1).1) (fun e=>?_);obtain ⟨c2,h2⟩:=h.jF.typed e.symm;rw [h1,hb] at h2;injection h2 with h2;injection h2 with _ h2 _;cases h2
 ·obtain ⟨c2,h2⟩:=h.jF.typed e.symm
  rw [h2] at hk;injection hk with hk;subst hk;cases hc
end
def D8 (n B0 Bt m:Nat) (A:Nat->Nat) (F:aW) (T:Nat->Prop) (w6:World) (pre:List (l9 n)) (W:World):Prop :=
 KS T w6 W/\Below (Bt) w6 W/\∃Pv Nv,W.heap[Bt]? = some (Obj.cells #[Pv,Nv] 33 (0,0))/\kj B0 W W Pv Nv (cH F (cK pre)).ps (cH F (cK pre)).ns/\jy W m (mm A (cH F (cK pre)).mp)/\vL (mm A (cH F (cK pre)).mp)
theorem D8.own {n B:Nat} {A:Nat->Nat} {F:aW} {w6:World} (hz:w6.heap.size=B+5):OwnFrom w6.heap.size (D8 n (B+5) (B+1) (B+1+1) A F (fun b=>b<B+5/\b≠B+1/\b≠B+1+1) w6):=by
 intro s X Y row hs hg hr;obtain ⟨hk,hb,Pv,Nv,jE,hT,hm,hu⟩:=hs;have hsz:B+5<=X.heap.size:=by have:=hb.size;omega
 have AB:∀b,b<B+5->Y.heap[b]? = X.heap[b]?:=fun b hb2=>hg.block b (by omega) (fun e=>by obtain ⟨h1,_⟩:=hr b e.symm;omega)
 have hcell:∀(b:Nat) (c:Array Value) (e:TypeId) (z:Nat×Nat),X.heap[b]? = some (Obj.cells c e z)->Y.heap[b]? = X.heap[b]?:=fun b c e z hc=>hg.block b (bq.1 hc).1 (fun e2=>by
  obtain ⟨_,o,h1,h2⟩:=hr b e2.symm
  rw [hc] at h1;injection h1 with h1;subst h1;cases h2)
 refine ⟨fun b hb2=>(AB b hb2.1).trans (hk b hb2),⟨hg.os.trans hb.os,hg.tape.trans hb.tape,hg.output.trans hb.output,aV hb.size hg.size,fun b hb2=>(AB b (by omega)).trans (hb.block b hb2)⟩,Pv,Nv,(AB _ (by omega)).trans jE,?_,hm.of_block (AB _ (by omega)),hu⟩;refine ⟨hT.iD.same fun b hb2=>?_,hT.jF.same fun b hb2=>?_,hT.apart,b7 _ _,fun _ _ _ _=>rfl,KeepsFrom.refl _ _⟩
 ·obtain ⟨c,hc⟩:=hT.iD.typed hb2;exact hcell _ _ _ _ hc
 ·obtain ⟨c,hc⟩:=hT.jF.typed hb2;exact hcell _ _ _ _ hc
theorem D8.next {n B:Nat} {A:Nat->Nat} {F:aW} {w6 W w1 We:World} (hz:w6.heap.size=B+5) {pre:List (l9 n)} {x:l9 n} (hks:KS (fun b=>b<B+5/\b≠B+1/\b≠B+1+1) w6 W) (jh:Below (B+1) w6 W)
  {P0 N0:Value} (jE:W.heap[B+1]? = some (Obj.cells #[P0,N0] 33 (0,0))) {es:List (Option Nat×Value)} (aaw:jy W (B+1+1) es)
  (CT:jy w1 (B+1+1) (mm A (cH F (cK (pre++[x]))).mp)) (JY:vL (mm A (cH F (cK (pre++[x]))).mp)) (hs1:w1.heap.size=W.heap.size) (GL:w1.os=W.os) (Lt:w1.tape=W.tape) (Lu:w1.output=W.output) (hb1:∀j,j≠B+1+1->w1.heap[j]? = W.heap[j]?)
  {Pv Nv:Value} (hT:kj (B+5) w1 We Pv Nv (cH F (cK (pre++[x]))).ps (cH F (cK (pre++[x]))).ns) :
  KeepsFrom w6.heap.size W ((We.setCell ⟨B+1,0,none⟩ Pv).setCell ⟨B+1,1,none⟩ Nv)/\KN (fun b=>b<B+5/\b≠B+1/\b≠B+1+1) W ((We.setCell ⟨B+1,0,none⟩ Pv).setCell ⟨B+1,1,none⟩ Nv) /\
   D8 n (B+5) (B+1) (B+1+1) A F (fun b=>b<B+5/\b≠B+1/\b≠B+1+1) w6 (pre++[x]) ((We.setCell ⟨B+1,0,none⟩ Pv).setCell ⟨B+1,1,none⟩ Nv):=by
 have cZ:∀b,b≠B+1->((We.setCell ⟨B+1,0,none⟩ Pv).setCell ⟨B+1,1,none⟩ Nv).heap[b]? = We.heap[b]?:=fun b hb=>by rw [blk_setCell_other _ _ _ _ hb,blk_setCell_other _ _ _ _ hb]
 have hsz:((We.setCell ⟨B+1,0,none⟩ Pv).setCell ⟨B+1,1,none⟩ Nv).heap.size=We.heap.size:=by simp [World.size_setCell]
 have sS:We.heap[B+1]? = some (Obj.cells #[P0,N0] 33 (0,0)):=(hT.low.block (B+1) (by omega)).trans ((hb1 _ (by omega)).trans jE);have hbf:((We.setCell ⟨B+1,0,none⟩ Pv).setCell ⟨B+1,1,none⟩ Nv).heap[B+1]? = some (Obj.cells #[Pv,Nv] 33 (0,0)):=by simp [World.setCell,Array.getElem?_modify,sS]
 have Xq:KS (fun b=>b<B+5/\b≠B+1/\b≠B+1+1) W ((We.setCell ⟨B+1,0,none⟩ Pv).setCell ⟨B+1,1,none⟩ Nv):=fun b hb=>(cZ b hb.2.1).trans ((hT.low.block b hb.1).trans (hb1 b hb.2.2))
 refine ⟨⟨?_,fun k o hk ho hc=>?_⟩,⟨Xq,fun b c z hb=>?_⟩,hks.trans Xq,⟨hT.low.os.trans (GL.trans jh.os),hT.low.tape.trans (Lt.trans jh.tape),hT.low.output.trans (Lu.trans jh.output),?_,fun b hb=>(Xq b ⟨by omega,by omega,by omega⟩).trans (jh.block b hb)⟩,Pv,Nv,hbf,⟨hT.iD.same fun b hb=>cZ b (by have:=(az hT.iD hb).1;omega),hT.jF.same fun b hb=>cZ b (by have:=(az hT.jF hb).1;omega),hT.apart,b7 _ _,fun _ _ _ _=>rfl,KeepsFrom.refl _ _⟩,CT.of_block ((cZ _ (by omega)).trans (hT.low.block _ (by omega))),JY⟩
 ·rw [hsz,<- hs1];exact hT.low.size
 ·rw [cZ k (by omega)]
  exact hT.far.same k o (by omega) ((hb1 k (by omega)).trans ho) hc
 ·have hne:b≠B+1+1:=fun e=>by
   subst e
   obtain ⟨es',ck,h1,_⟩:=aaw
   rw [h1] at hb;cases hb
  have aax:b≠B+1:=fun e=>by
   subst e
   rw [jE] at hb
   injection hb with hb
   injection hb with _ hb _
   cases hb
  rw [cZ b aax,hT.fns b c z (by rw [hb1 b hne];exact hb),hb1 b hne]
 ·rw [hsz];have h1:=hT.low.size;have h2:=jh.size;omega
theorem NB {n base:Nat} {A:Nat->Nat} {kv:Nat->Value} {F:aW} {rk:Nat->Nat} (hwf:Wf F n rk) (hlen:∀i,i<n->(F.kids i).length<=1000) (w:World) (i:Nat) (hi:i<n) (hF:bz base n A kv F w) (hN:(dW F rk i none).length<=100000) :
  Calls Tryz.prog 37 #[.pointer (some ⟨A i,0,none⟩)] w (NA w (fR F rk i)):=by
 refine (callsIn_wide (n:=9)).1 ?_;refine callsIn_of_wp_marks Tryz.func37 rfl trivial ?_ rfl;simp only [Tryz.ntmps37,gI,bB,eW,Nat.reduceAdd,Nat.reduceSub,jL,jM,gH,qI,dz,cw];have hmm:=fun W=>run_makeMap (P:=Tryz.prog) 108 W;obtain ⟨w3,hw3⟩:∃w3,w3=((w.alloc (.cells #[.slice none 0 0,.slice none 0 0] 33)).alloc (.cells #[.slice none 0 0,.slice none 0 0] 33)).alloc (.map #[] 0):=⟨_,rfl⟩
 have ct:Up w w3:=by rw [hw3];exact ((Up.alloc _ _).trans (Up.alloc _ _)).trans (Up.alloc _ _)
 have hz3:w3.heap.size=w.heap.size+3:=by rw [hw3];simp
 have hp3:jy w3 (w.heap.size+1+1) []:=⟨#[],0,by
  rw [hw3];have h:=blk_alloc_new ((w.alloc (.cells #[.slice none 0 0,.slice none 0 0] 33)).alloc (.cells #[.slice none 0 0,.slice none 0 0] 33)) (.map #[] 0)
  simp only [aN] at h;exact h,rfl⟩
 have ht3:w3.heap[w.heap.size+1]? = some (Obj.cells #[.slice none 0 0,.slice none 0 0] 33 (0,0)):=by rw [hw3,blk_alloc_lt _ _ _ (by simp)];have h:=blk_alloc_new (w.alloc (.cells #[.slice none 0 0,.slice none 0 0] 33)) (.cells #[.slice none 0 0,.slice none 0 0] 33);rw [aN] at h;exact h
 have hr3:w3.heap[w.heap.size]? = some (Obj.cells #[.slice none 0 0,.slice none 0 0] 33 (0,0)):=by rw [hw3,blk_alloc_lt _ _ _ (by simp;omega),blk_alloc_lt _ _ _ (by simp)];exact blk_alloc_new _ _
 obtain ⟨w4,cZ,hp4,hs4,ho4,Xr,Xt,hb4⟩:=Gi (P:=Tryz.prog) Tryz.underlying108 Tryz.underlying78 Tryz.rV hp3 List.nodup_nil (k:=none) (.int .i64 (-1)) trivial (fun x hx=>by cases hx);have eB:Up w w4:=⟨ho4.trans ct.os,Xr.trans ct.tape,Xt.trans ct.output,by rw [hs4];exact ct.size,fun b hb=>(hb4 b (by omega)).trans (aO ct b hb)⟩;have ht4:=(hb4 (w.heap.size+1) (by omega)).trans ht3;have hr4:=(hb4 w.heap.size (by omega)).trans hr3;have NC:w4.heap.size=w.heap.size+3:=hs4.trans hz3;rw [hw3] at cZ;simp only [pk] at cZ;have gF:=aa eB;have JZ:=aa ht4
 have Nj:=aa hr4;have D9:=aa NC;have J1:=aa hp4;have HF:=aa hF;have GI:=aa hwf;have HLEN:=aa hlen;have HN:=aa hN;clear hw3 ct hz3 hp3 ht3 hr3 hp4 hs4 ho4 Xr Xt hb4 eB ht4 hr4 NC hF hwf hlen hN;gi_wp2_with fail;refine ⟨trivial,(callsIn_wide.2 (Uw _ _)).mono ?_⟩;rintro e w6 ⟨rfl,rfl⟩;rw [aN,D9.out];gi_wp2_with fail;have iu:Up w4 ((w4.alloc (.cells #[.map (some (w.heap.size+1+1))] 108)).alloc (.cells #[.pointer (some ⟨A i,0,none⟩)] 78)):=(Up.alloc _ _).trans (Up.alloc _ _)
 have Xu:((w4.alloc (.cells #[.map (some (w.heap.size+1+1))] 108)).alloc (.cells #[.pointer (some ⟨A i,0,none⟩)] 78)).heap.size=w.heap.size+5:=by simp [D9.out]
 have hx6:((w4.alloc (.cells #[.map (some (w.heap.size+1+1))] 108)).alloc (.cells #[.pointer (some ⟨A i,0,none⟩)] 78)).cell? ⟨w.heap.size+3+1,0,none⟩=some (.pointer (some ⟨A i,0,none⟩)):=by have h:=bE (w4.alloc (.cells #[.map (some (w.heap.size+1+1))] 108)) #[.pointer (some ⟨A i,0,none⟩)] 78 0;rw [aN,D9.out] at h;exact h
 have hm6:((w4.alloc (.cells #[.map (some (w.heap.size+1+1))] 108)).alloc (.cells #[.pointer (some ⟨A i,0,none⟩)] 78)).cell? ⟨w.heap.size+3,0,none⟩=some (.map (some (w.heap.size+1+1))):=by have h:=bE w4 #[.map (some (w.heap.size+1+1))] 108 0;rw [D9.out] at h;exact (Up.alloc _ _).cell h
 have ht6:=(aO iu (w.heap.size+1) (by rw [D9.out];omega)).trans JZ.out;have hr6:=(aO iu w.heap.size (by rw [D9.out];omega)).trans Nj.out;have hp6:=J1.out.of_block (aO iu (w.heap.size+1+1) (by rw [D9.out];omega));have hF6:=(HF.out.up gF.out).up iu;have Xv:=gF.out.trans iu;generalize (w4.alloc (.cells #[.map (some (w.heap.size+1+1))] 108)).alloc (.cells #[.pointer (some ⟨A i,0,none⟩)] 78)=w6 at *;have hlt:∀j,j<n->A j<w.heap.size:=fun j hj=>HF.out.lt hj;have hlo:∀j b,j<n->(kv j).ownBlock=some b->b<w.heap.size:=fun j b hj hb=>(HF.out.gK hj hb).2
 have hinj:=HF.out.inj;have HX:=aa (show Up w w6 from Xv);clear iu Xv gF JZ Nj D9 J1 cZ;generalize hB:w.heap.size=B at *;have HB:Hid (w.heap.size=B):=hB;clear hB;apply wpIn_rangeFunc_ownG (F:=Fence.wide) (n:=9) (P:=Tryz.prog) (ps:=#[11,12]) (w:=w6) rfl (by omega) (gf:=98) (lb:=#[.pointer (some ⟨B+3+1,0,none⟩)]) rfl trivial (enters_of Tryz.func98 (by kernel_rfl) rfl)
  (Jl (T:=fun b=>b<B+5/\b≠B+1/\b≠B+1+1) GI.out HLEN.out (fun j hj=>⟨by have:=hlt j hj;omega,by have:=hlt j hj;omega,by have:=hlt j hj;omega⟩) (fun j b hj hb=>⟨by have:=hlo j b hj hb;omega,by have:=hlo j b hj hb;omega,by have:=hlo j b hj hb;omega⟩) 8 (B+3+1) i hi w6 (fun b hb=>by rw [Xu];exact hb.1) ⟨by omega,by omega,by omega⟩ hF6 hx6)
  (fun h k=>KN.trans h k) (fun W l o o' hl ho hc _=>⟨fun b hb=>eA (by have:=hb.1;omega),fun b c z hb=>eA (fun e=>by subst e;rw [hb] at ho;injection ho with ho;subst ho;cases hc)⟩) (b7 _ _) (fun _=>(rfl:(2:Nat)=2))
  (D8 n (B+5) (B+1) (B+1+1) A F (fun b=>b<B+5/\b≠B+1/\b≠B+1+1) w6) (fun _ _ _=>False)
 ·exact D8.own Xu
 ·exact fun _ _ _ _ _ h _ _=>h
 ·exact ⟨KS.refl _ _,b7 _ _,.slice none 0 0,.slice none 0 0,ht6,⟨au.nil _ _ _,au.nil _ _ _,fun b hb=>(by cases hb),b7 _ _,fun _ _ _ _=>rfl,KeepsFrom.refl _ _⟩,hp6,by simp [vL,mm,cK,cH,CS]⟩
 ·intro l x W K hK
  simp only [CQ];gi_wp2;exact hK
 ·rintro l pre x W ⟨hks,jh,Pv,Nv,jE,uI,hmp,JY⟩ hpl
  obtain ⟨⟨x1,xp⟩,hx1,rY⟩:=x;have bf:=aa hlt;have Xw:=aa hinj;have hxl:=hlt x1 hx1;have GM:bz base n A kv F W:=hF6.same (fun j hj=>hks (A j) ⟨by have:=hlt j hj;omega,by have:=hlt j hj;omega,by have:=hlt j hj;omega⟩) (fun j b hj hb=>hks b ⟨by have:=hlo j b hj hb;omega,by have:=hlo j b hj hb;omega,by have:=hlo j b hj hb;omega⟩);have hok:qT n pre.length (cH F (cK pre)):=Ls pre;have hb0:W.cell? ⟨B+1,0,none⟩=some Pv:=by simp [World.cell?,jE]
  have hmb:W.cell? ⟨B+3,0,none⟩=some (.map (some (B+1+1))):=by rw [cW (a:=⟨B+3,0,none⟩) (hks (B+3) ⟨by omega,by omega,by omega⟩)];exact hm6
  obtain ⟨pp,pc,rfl,_⟩:=uI.iD.form (n:=pre.length) (by rw [aD];exact hok.lp);have hkeys:∀z∈mm A (cH F (cK pre)).mp,fP W z.1:=fun z hz=>by
   obtain ⟨y,hy,rfl⟩:=ek.1 hz;obtain ⟨y1,y2⟩:=y;cases y1 with
   | none=>trivial
   | some k=>exact GM.plain (hok.keys _ hy k rfl)
  obtain ⟨w1,cZ,CT,hs1,GL,Lt,Lu,hb1⟩:=Gi (P:=Tryz.prog) Tryz.underlying108 Tryz.underlying78 Tryz.rV hmp JY (k:=some (A x1)) (.int .i64 (pre.length:Nat)) (GM.plain hx1) hkeys;simp only [pk] at cZ;have QO:pre.length<=100000:=by have:=HN.out;omega
  gi_wp2;have p6:kj (B+5) w1 w1 (.slice pp pre.length pc) Nv (cH F (cK pre)).ps (cH F (cK pre)).ns:=⟨uI.iD.same fun b hb=>hb1 b (by have:=(az uI.iD hb).1;omega),uI.jF.same fun b hb=>hb1 b (by have:=(az uI.jF hb).1;omega),uI.apart,b7 _ _,fun _ _ _ _=>rfl,KeepsFrom.refl _ _⟩;obtain ⟨np,nc,rfl,_⟩:=uI.jF.form (n:=pre.length) (by rw [aD];exact hok.ln)
  have hput:tW (mm A (cH F (cK pre)).mp) (some (A x1)) (.int .i64 (pre.length:Nat))=mm A (cH F (cK (pre++[⟨(x1,xp),hx1,rY⟩]))).mp:=by rw [uG,show cK [(⟨(x1,xp),hx1,rY⟩:l9 n)]=[(x1,xp)] from rfl,yg];show _=mm A (lz (cH F (cK pre)).mp (some x1) ((cH F (cK pre)).ps.length:Nat));rw [hok.lp,<- QL Xw.out (fun j hj=>by cases hj;exact hx1) hok.keys];rfl
  rw [hput] at CT;have Xx:vL (mm A (cH F (cK (pre++[⟨(x1,xp),hx1,rY⟩]))).mp):=by rw [<- hput];exact Nb JY _ _
  have QS:qT n (pre++[(⟨(x1,xp),hx1,rY⟩:l9 n)]).length (cH F (cK (pre++[⟨(x1,xp),hx1,rY⟩]))):=Ls _;have D7:bz base n A kv F w1:=GM.same (fun j hj=>hb1 _ (by have:=bf.out j hj;omega)) (fun j b hj hb=>hb1 _ (by have:=hlo j b hj hb;omega));obtain ⟨z,hz⟩:∃z:Int,z=(((cH F (cK (pre++[⟨(x1,xp),hx1,rY⟩]))).mp).lookup xp).getD 0:=⟨_,rfl⟩;have Xy:(cH F (cK (pre++[⟨(x1,xp),hx1,rY⟩]))).ps=(cH F (cK pre)).ps++[z]:=by rw [hz,uG,show cK [(⟨(x1,xp),hx1,rY⟩:l9 n)]=[(x1,xp)] from rfl,yg];rfl
  have Xz:(cH F (cK (pre++[⟨(x1,xp),hx1,rY⟩]))).ns=(cH F (cK pre)).ns++[F.nm x1]:=by rw [uG,show cK [(⟨(x1,xp),hx1,rY⟩:l9 n)]=[(x1,xp)] from rfl,yg];rfl
  have Lv:Hid (∀We P2 N2,kj (B+5) w1 We P2 N2 ((cH F (cK pre)).ps++[z]) ((cH F (cK pre)).ns++[F.nm x1])->KeepsFrom w6.heap.size W ((We.setCell ⟨B+1,0,none⟩ P2).setCell ⟨B+1,1,none⟩ N2)/\KN (fun b=>b<B+5/\b≠B+1/\b≠B+1+1) W ((We.setCell ⟨B+1,0,none⟩ P2).setCell ⟨B+1,1,none⟩ N2) /\
   D8 n (B+5) (B+1) (B+1+1) A F (fun b=>b<B+5/\b≠B+1/\b≠B+1+1) w6 (pre++[⟨(x1,xp),hx1,rY⟩]) ((We.setCell ⟨B+1,0,none⟩ P2).setCell ⟨B+1,1,none⟩ N2)):=fun We P2 N2 hT=>D8.next Xu hks jh jE hmp CT Xx hs1 GL Lt Lu hb1 (by rw [Xy,Xz];exact hT)
  have hb0:w1.heap[B+1]? = some (Obj.cells #[.slice pp pre.length pc,.slice np pre.length nc] 33 (0,0)):=(hb1 _ (by omega)).trans jE;have iT:Hid (∀w',KS (fun b=>b<B+5) w1 w'->w'.cell? ⟨B+1,0,none⟩=some (.slice pp pre.length pc)/\w'.cell? ⟨B+1,1,none⟩=some (.slice np pre.length nc)/\w'.cell? ⟨B+3,0,none⟩=some (.map (some (B+1+1)))/\w'.cell? ⟨A x1,0,none⟩=some (.string (F.nm x1))/\(Instr.lookup 108 (.map (some (B+1+1))) (CP A xp) false).run Tryz.prog w'=.ok (.int .i64 z) w'):=fun w' hS=>by
   refine ⟨?_,?_,?_,?_,?_⟩
   ·simp [World.cell?,(hS (B+1) (by omega)).trans hb0]
   ·simp [World.cell?,(hS (B+1) (by omega)).trans hb0]
   ·rw [cW (a:=⟨B+3,0,none⟩) ((hS (B+3) (by show B+3<B+5;omega)).trans (hb1 (B+3) (by omega)))];exact hmb
   ·rw [cW (a:=⟨A x1,0,none⟩) (hS (A x1) (by show A x1<B+5;omega))];exact D7.name hx1
   ·have hpl:∀j,j<n->Plain w' (A j):=fun j hj=>(D7.plain hj).of_block (hS _ (by have:=bf.out j hj;show A j<B+5;omega))
    have h:=Nc (P:=Tryz.prog) (w:=w') Tryz.underlying108 Tryz.underlying78 Tryz.rV (z:=.int .i64 0) Tryz.zeroValue3 (CT.of_block (hS _ (by show B+1+1<B+5;omega))) (k:=xp.map A)
     (by cases xp with | none=>trivial | some k=>exact hpl k (rY k rfl)) (fun zz hzz=>by
      obtain ⟨y,hy,rfl⟩:=ek.1 hzz;obtain ⟨y1,y2⟩:=y;cases y1 with
      | none=>trivial
      | some k=>exact hpl k (QS.keys _ hy k rfl))
    rw [zJ Xw.out (fun j hj=>rY j hj) QS.keys] at h;(have e1:pk (xp.map A)=CP A xp:=by cases xp<;>rfl);(have e2:((((cH F (cK (pre++[⟨(x1,xp),hx1,rY⟩]))).mp).lookup xp).map (Value.int .i64)).getD (.int .i64 0)=.int .i64 z:=by rw [hz];cases List.lookup xp (cH F (cK (pre++[⟨(x1,xp),hx1,rY⟩]))).mp<;>rfl);rw [e1,e2] at h;exact h
  have J2:Hid (∀w',KS (fun b=>b<B+5) w1 w'->∀o,w'.frozen? ⟨B+1,o,none⟩=false):=fun w' hS o=>by simp [World.frozen?,(hS (B+1) (by omega)).trans hb0]
  have Ti:Hid (kj (B+5) w1 w1.drew (.slice pp pre.length pc) (.slice np pre.length nc) (cH F (cK pre)).ps (cH F (cK pre)).ns):=p6.up (Up.drewN w1 1) (by rw [hs1];have:=jh.size;omega);have rZ:Hid ((cH F (cK pre)).ps.length=pre.length/\(cH F (cK pre)).ns.length=pre.length):=⟨hok.lp,hok.ln⟩;have Tj:B+5<=w1.drew.heap.size:=by show B+5<=w1.heap.size;rw [hs1];have:=jh.size;omega
  have acn:=aa D7;clear hput p6 uI JY Xx hok QS Xy Xz hb0 D7 GM hmp CT cZ hks jh jE hkeys hmb hz hb1 hs1 GL Lt Lu hlt hlo hinj;generalize (cH F (cK pre)).ps=PS at *;generalize (cH F (cK pre)).ns=NS at *;generalize F.nm x1=nm at *;refine Qd (by kernel_rfl) 15 (KS (fun b=>b<B+5) w1) (KS.refl _ _) (fun hS=>?_);simp only [gI,bB,eW,Nat.reduceAdd,jL,jM,gH,dz,cw];generalize w1.drew=Wd at *
  refine bH.take (i:=0) (v:=?gv0) rfl (by kernel_rfl) (fun _ _ _ h=>h) (by rfl) (fun _=>rfl) (fun w hSw=>?gy0) hS ?gr0
  case gy0 =>obtain ⟨q1,q2,q3,q4,q5⟩:=iT.out w hSw;go_simp;try with_reducible rfl
  try simp only [Act.put,av,ax,ay]
  refine bH.take (i:=1) (v:=?gv1) rfl (by kernel_rfl) (fun _ _ _ h=>h) (by rfl) (fun _=>rfl) (fun w hSw=>?gy1) hS ?gr1
  case gy1 =>obtain ⟨q1,q2,q3,q4,q5⟩:=iT.out w hSw;go_simp;try with_reducible rfl
  try simp only [Act.put,av,ax,ay]
  refine bH.take (i:=2) (v:=?gv2) rfl (by kernel_rfl) (fun _ _ _ h=>h) (by rfl) (fun _=>rfl) (fun w hSw=>?gy2) hS ?gr2
  case gy2 =>obtain ⟨q1,q2,q3,q4,q5⟩:=iT.out w hSw;go_simp;try with_reducible rfl
  try simp only [Act.put,av,ax,ay]
  refine bH.take (i:=3) (v:=?gv3) rfl (by kernel_rfl) (fun _ _ _ h=>h) (by rfl) (fun _=>rfl) (fun w hSw=>?gy3) hS ?gr3
  case gy3 =>obtain ⟨q1,q2,q3,q4,q5⟩:=iT.out w hSw;go_simp;try with_reducible rfl
  try simp only [Act.put,av,ax,ay]
  refine bH.take (i:=4) (v:=?gv4) rfl (by kernel_rfl) (fun _ _ _ h=>h) (by rfl) (fun _=>rfl) (fun w hSw=>?gy4) hS ?gr4
  case gy4 =>obtain ⟨q1,q2,q3,q4,q5⟩:=iT.out w hSw;go_simp;try with_reducible rfl
  try simp only [Act.put,av,ax,ay]
  refine bH.take (i:=7) (v:=?gv7) rfl (by kernel_rfl) (fun _ _ _ h=>h) (by rfl) (fun _=>rfl) (fun w hSw=>?gy7) hS ?gr7
  case gy7 =>obtain ⟨q1,q2,q3,q4,q5⟩:=iT.out w hSw;go_simp;try with_reducible rfl
  try simp only [Act.put,av,ax,ay]
  refine bH.take (i:=8) (v:=?gv8) rfl (by kernel_rfl) (fun _ _ _ h=>h) (by rfl) (fun _=>rfl) (fun w hSw=>?gy8) hS ?gr8
  case gy8 =>obtain ⟨q1,q2,q3,q4,q5⟩:=iT.out w hSw;go_simp;try with_reducible rfl
  try simp only [Act.put,av,ax,ay]
  refine bH.take (i:=9) (v:=?gv9) rfl (by kernel_rfl) (fun _ _ _ h=>h) (by rfl) (fun _=>rfl) (fun w hSw=>?gy9) hS ?gr9
  case gy9 =>obtain ⟨q1,q2,q3,q4,q5⟩:=iT.out w hSw;go_simp;try with_reducible rfl
  try simp only [Act.put,av,ax,ay]
  refine bH.take (i:=10) (v:=?aco) rfl (by kernel_rfl) (fun _ _ _ h=>h) (by rfl) (fun _=>rfl) (fun w hSw=>?aay) hS ?acp
  case aay =>obtain ⟨q1,q2,q3,q4,q5⟩:=iT.out w hSw;go_simp;try with_reducible rfl
  try simp only [Act.put,av,ax,ay]
  refine bH.take (i:=11) (v:=?acq) rfl (by kernel_rfl) (fun _ _ _ h=>h) (by rfl) (fun _=>rfl) (fun w hSw=>?aaz) hS ?acr
  case aaz =>obtain ⟨q1,q2,q3,q4,q5⟩:=iT.out w hSw;go_simp;try with_reducible rfl
  try simp only [Act.put,av,ax,ay]
  refine bH.take (i:=12) (v:=?acs) rfl (by kernel_rfl) (fun _ _ _ h=>h) (by rfl) (fun _=>rfl) (fun w hSw=>?aaA) hS ?acu
  case aaA =>obtain ⟨q1,q2,q3,q4,q5⟩:=iT.out w hSw;go_simp;try with_reducible rfl
  try simp only [Act.put,av,ax,ay]
  refine bH.step2 (i:=5) (i2:=13) rfl rfl (by kernel_rfl) (fun K' hK=>?_) (fun K' hK=>?_)
  ·go_simp
   have GN:Hid (kj (B+5) w1 (Wd.alloc (.cells #[.int .i64 z] 3)) _ _ _ _):=Ti.out.up (Up.alloc _ _) Tj;have Ea:B+5<=(Wd.alloc (.cells #[.int .i64 z] 3)).heap.size:=aV Tj (Up.alloc _ _).size;refine hK.out _ _ (fun _=>GN.out.low.block) (fun _=>?_);(try simp only [av,ax,ay]);refine bH.step2 (i:=6) (i2:=13) rfl rfl (by kernel_rfl) (fun K' hK=>?_) (fun K' hK=>?_)
   ·refine lV (by rfl) _ _ _ (by rfl) (B+5) 3 _ 8 Tryz.underlying27 Tryz.pF (by rfl) (by decide) (by rfl) GN.out.iD (.int .i64 z) Wd.heap.size (by rfl) (bE Wd #[.int .i64 z] 3 0) (by rfl) (by rw [aD,rZ.out.1];omega) Ea ?_
    intro g1 g1c tu GP ud hrg1 _;have yh:Hid (kj (B+5) w1 tu _ _ _ _):=GN.out.QM Ea GP ud (hrg1.imp id (fun e=>mQ e.symm));have zK:B+5<=tu.heap.size:=aV Ea ud.size;refine hK.out _ _ (fun _=>yh.out.low.block) (fun _=>?_);(try simp only [Act.put,av,ax,ay]);refine bH.free (i:=15) (v:=?abI) rfl (by kernel_rfl) (fun _ _ _ h=>h) (by rfl) (fun _=>rfl) (fun w=>?ZQ) (fun _=>yh.out.low.block) ?abJ
    case ZQ =>go_simp;try with_reducible rfl
    (try simp only [Act.put,av,ax,ay]);refine bH.step (i:=13) rfl (by kernel_rfl) (fun K' hK=>?_);go_simp;have uJ:Hid (kj (B+5) w1 (tu.alloc (.cells #[.string nm] 9)) _ _ _ _):=yh.out.up (Up.alloc _ _) zK;have yj:B+5<=(tu.alloc (.cells #[.string nm] 9)).heap.size:=aV zK (Up.alloc _ _).size;refine hK.out _ _ (fun _=>uJ.out.low.block) (fun _=>?_);(try simp only [av,ax,ay]);refine bH.step (i:=14) rfl (by kernel_rfl) (fun K' hK=>?_)
    refine lV (by rfl) _ _ _ (by rfl) (B+5) 9 _ 16 Tryz.underlying22 Tryz.CR (by rfl) (by decide) (by rfl) uJ.out.jF (.string nm) tu.heap.size (by rfl) (bE tu #[.string nm] 9 0) (by rfl) (by rw [aD,rZ.out.2];omega) yj ?_;intro g2 g2c fZ GQ yl hrg2 _;have nB:Hid (kj (B+5) w1 fZ _ _ _ _):=uJ.out.QN yj GQ yl (hrg2.imp id (fun e=>mQ e.symm));have hSf:B+5<=fZ.heap.size:=aV yj yl.size;refine hK.out _ _ (fun _=>nB.out.low.block) (fun _=>?_)
    (try simp only [Act.put,av,ax,ay]);have sS:fZ.cell? ⟨B+1,0,none⟩=some (.slice pp pre.length pc):=(iT.out fZ nB.out.low.block).1;have ym:fZ.cell? ⟨B+1,1,none⟩=some (.slice np pre.length nc):=(iT.out fZ nB.out.low.block).2.1;have J3:fZ.frozen? ⟨B+1,0,none⟩=false:=J2.out fZ nB.out.low.block 0;have XA:fZ.frozen? ⟨B+1,1,none⟩=false:=J2.out fZ nB.out.low.block 1;have GR:=aa (Lv.out fZ _ _ nB.out);refine bH.step (i:=16) rfl (by kernel_rfl) (fun K' hK=>?_);go_simp;refine hK.out _ _ (aT ·) (fun _=>?_)
    (try simp only [av,ax,ay]);refine bH.free (i:=17) (v:=?abK) rfl (by kernel_rfl) (fun _ _ _ h=>h) (by rfl) (fun _=>rfl) (fun w=>?ZR) (aT ·) ?abL
    case ZR =>go_simp;try with_reducible rfl
    (try simp only [Act.put,av,ax,ay]);refine bH.step (i:=18) rfl (by kernel_rfl) (fun K' hK=>?_);go_simp;refine hK.out _ _ (aT ·) (fun _=>?_);refine bH.done (by kernel_rfl) ?_;gi_wp2;have jv:=GR.out;simp only [aD] at jv;exact jv
   ·go_simp
    have yh:Hid (kj (B+5) w1 ((Wd.alloc (.cells #[.int .i64 z] 3)).alloc (.cells #[.string nm] 9)) _ _ _ _):=GN.out.up (Up.alloc _ _) Ea;have zK:B+5<=((Wd.alloc (.cells #[.int .i64 z] 3)).alloc (.cells #[.string nm] 9)).heap.size:=aV Ea (Up.alloc _ _).size;refine hK.out _ _ (fun _=>yh.out.low.block) (fun _=>?_);(try simp only [av,ax,ay]);have Bl:=bE (Wd.alloc (.cells #[.int .i64 z] 3)) #[.string nm] 9 0
    have xJ:=(Up.alloc (Wd.alloc (.cells #[.int .i64 z] 3)) (.cells #[.string nm] 9)).cell (bE Wd #[.int .i64 z] 3 0);rw [aN] at Bl;refine bH.step (i:=6) rfl (by kernel_rfl) (fun K' hK=>?_);refine lV (by rfl) _ _ _ (by rfl) (B+5) 3 _ 8 Tryz.underlying27 Tryz.pF (by rfl) (by decide) (by rfl) yh.out.iD (.int .i64 z) Wd.heap.size (by rfl) xJ (by rfl) (by rw [aD,rZ.out.1];omega) zK ?_;intro g1 g1c tu GP ud hrg1 _;have uJ:Hid (kj (B+5) w1 tu _ _ _ _):=yh.out.QM zK GP ud (hrg1.imp id (fun e=>mQ e.symm))
    have yj:B+5<=tu.heap.size:=aV zK ud.size;(have Al:tu.cell? ⟨Wd.heap.size+1,0,none⟩=some (.string nm):=by rw [ud.cell_far ⟨Wd.heap.size+1,0,none⟩ (by simp) (fun e=>absurd (az Ti.out.iD e.symm).2 (by show ¬(Wd.heap.size+1<Wd.heap.size);omega))];exact Bl);refine hK.out _ _ (fun _=>uJ.out.low.block) (fun _=>?_);(try simp only [Act.put,av,ax,ay]);refine bH.free (i:=15) (v:=?abM) rfl (by kernel_rfl) (fun _ _ _ h=>h) (by rfl) (fun _=>rfl) (fun w=>?ZT) (fun _=>uJ.out.low.block) ?abN
    case ZT =>go_simp;try with_reducible rfl
    (try simp only [Act.put,av,ax,ay]);refine bH.step (i:=14) rfl (by kernel_rfl) (fun K' hK=>?_);refine lV (by rfl) _ _ _ (by rfl) (B+5) 9 _ 16 Tryz.underlying22 Tryz.CR (by rfl) (by decide) (by rfl) uJ.out.jF (.string nm) (Wd.heap.size+1) (by rfl) Al (by rfl) (by rw [aD,rZ.out.2];omega) yj ?_;intro g2 g2c fZ GQ yl hrg2 _;have nB:Hid (kj (B+5) w1 fZ _ _ _ _):=uJ.out.QN yj GQ yl (hrg2.imp id (fun e=>mQ e.symm));have hSf:B+5<=fZ.heap.size:=aV yj yl.size
    refine hK.out _ _ (fun _=>nB.out.low.block) (fun _=>?_);(try simp only [Act.put,av,ax,ay]);have sS:fZ.cell? ⟨B+1,0,none⟩=some (.slice pp pre.length pc):=(iT.out fZ nB.out.low.block).1;have ym:fZ.cell? ⟨B+1,1,none⟩=some (.slice np pre.length nc):=(iT.out fZ nB.out.low.block).2.1;have J3:fZ.frozen? ⟨B+1,0,none⟩=false:=J2.out fZ nB.out.low.block 0;have XA:fZ.frozen? ⟨B+1,1,none⟩=false:=J2.out fZ nB.out.low.block 1;have GR:=aa (Lv.out fZ _ _ nB.out)
    refine bH.step (i:=16) rfl (by kernel_rfl) (fun K' hK=>?_);go_simp;refine hK.out _ _ (aT ·) (fun _=>?_);(try simp only [av,ax,ay]);refine bH.free (i:=17) (v:=?abO) rfl (by kernel_rfl) (fun _ _ _ h=>h) (by rfl) (fun _=>rfl) (fun w=>?ZU) (aT ·) ?abP
    case ZU =>go_simp;try with_reducible rfl
    (try simp only [Act.put,av,ax,ay]);refine bH.step (i:=18) rfl (by kernel_rfl) (fun K' hK=>?_);go_simp;refine hK.out _ _ (aT ·) (fun _=>?_);refine bH.done (by kernel_rfl) ?_;gi_wp2;have jv:=GR.out;simp only [aD] at jv;exact jv
  ·go_simp
   have GN:Hid (kj (B+5) w1 (Wd.alloc (.cells #[.string nm] 9)) _ _ _ _):=Ti.out.up (Up.alloc _ _) Tj;have Ea:B+5<=(Wd.alloc (.cells #[.string nm] 9)).heap.size:=aV Tj (Up.alloc _ _).size;refine hK.out _ _ (fun _=>GN.out.low.block) (fun _=>?_);(try simp only [av,ax,ay]);refine bH.step (i:=5) rfl (by kernel_rfl) (fun K' hK=>?_);go_simp;have yh:Hid (kj (B+5) w1 ((Wd.alloc (.cells #[.string nm] 9)).alloc (.cells #[.int .i64 z] 3)) _ _ _ _):=GN.out.up (Up.alloc _ _) Ea
   have zK:B+5<=((Wd.alloc (.cells #[.string nm] 9)).alloc (.cells #[.int .i64 z] 3)).heap.size:=aV Ea (Up.alloc _ _).size;refine hK.out _ _ (fun _=>yh.out.low.block) (fun _=>?_);(try simp only [av,ax,ay]);have xJ:=bE (Wd.alloc (.cells #[.string nm] 9)) #[.int .i64 z] 3 0;have Bl:=(Up.alloc (Wd.alloc (.cells #[.string nm] 9)) (.cells #[.int .i64 z] 3)).cell (bE Wd #[.string nm] 9 0);rw [aN] at xJ;refine bH.step (i:=6) rfl (by kernel_rfl) (fun K' hK=>?_)
   refine lV (by rfl) _ _ _ (by rfl) (B+5) 3 _ 8 Tryz.underlying27 Tryz.pF (by rfl) (by decide) (by rfl) yh.out.iD (.int .i64 z) (Wd.heap.size+1) (by rfl) xJ (by rfl) (by rw [aD,rZ.out.1];omega) zK ?_;intro g1 g1c tu GP ud hrg1 _;have uJ:Hid (kj (B+5) w1 tu _ _ _ _):=yh.out.QM zK GP ud (hrg1.imp id (fun e=>mQ e.symm));have yj:B+5<=tu.heap.size:=aV zK ud.size
   (have Al:tu.cell? ⟨Wd.heap.size,0,none⟩=some (.string nm):=by rw [ud.cell_far ⟨Wd.heap.size,0,none⟩ (by simp;omega) (fun e=>absurd (az Ti.out.iD e.symm).2 (by show ¬(Wd.heap.size<Wd.heap.size);omega))];exact Bl);refine hK.out _ _ (fun _=>uJ.out.low.block) (fun _=>?_);(try simp only [Act.put,av,ax,ay]);refine bH.free (i:=15) (v:=?abQ) rfl (by kernel_rfl) (fun _ _ _ h=>h) (by rfl) (fun _=>rfl) (fun w=>?ZV) (fun _=>uJ.out.low.block) ?abR
   case ZV =>go_simp;try with_reducible rfl
   (try simp only [Act.put,av,ax,ay]);refine bH.step (i:=14) rfl (by kernel_rfl) (fun K' hK=>?_);refine lV (by rfl) _ _ _ (by rfl) (B+5) 9 _ 16 Tryz.underlying22 Tryz.CR (by rfl) (by decide) (by rfl) uJ.out.jF (.string nm) Wd.heap.size (by rfl) Al (by rfl) (by rw [aD,rZ.out.2];omega) yj ?_;intro g2 g2c fZ GQ yl hrg2 _;have nB:Hid (kj (B+5) w1 fZ _ _ _ _):=uJ.out.QN yj GQ yl (hrg2.imp id (fun e=>mQ e.symm));have hSf:B+5<=fZ.heap.size:=aV yj yl.size
   refine hK.out _ _ (fun _=>nB.out.low.block) (fun _=>?_);(try simp only [Act.put,av,ax,ay]);have sS:fZ.cell? ⟨B+1,0,none⟩=some (.slice pp pre.length pc):=(iT.out fZ nB.out.low.block).1;have ym:fZ.cell? ⟨B+1,1,none⟩=some (.slice np pre.length nc):=(iT.out fZ nB.out.low.block).2.1;have J3:fZ.frozen? ⟨B+1,0,none⟩=false:=J2.out fZ nB.out.low.block 0;have XA:fZ.frozen? ⟨B+1,1,none⟩=false:=J2.out fZ nB.out.low.block 1;have GR:=aa (Lv.out fZ _ _ nB.out)
   refine bH.step (i:=16) rfl (by kernel_rfl) (fun K' hK=>?_);go_simp;refine hK.out _ _ (aT ·) (fun _=>?_);(try simp only [av,ax,ay]);refine bH.free (i:=17) (v:=?abS) rfl (by kernel_rfl) (fun _ _ _ h=>h) (by rfl) (fun _=>rfl) (fun w=>?ZW) (aT ·) ?abT
   case ZW =>go_simp;try with_reducible rfl
   (try simp only [Act.put,av,ax,ay]);refine bH.step (i:=18) rfl (by kernel_rfl) (fun K' hK=>?_);go_simp;refine hK.out _ _ (aT ·) (fun _=>?_);refine bH.done (by kernel_rfl) ?_;gi_wp2;have jv:=GR.out;simp only [aD] at jv;exact jv
 ·rintro D xs W hD hS ⟨hks,jh,Pv,Nv,jE,uI,hmp,JY⟩ hK
  have hb0:W.cell? ⟨B+1,0,none⟩=some Pv:=by simp [World.cell?,jE]
  have hb1:W.cell? ⟨B+1,1,none⟩=some Nv:=by simp [World.cell?,jE]
  have zL:W.heap[B]? = some (Obj.cells #[.slice none 0 0,.slice none 0 0] 33 (0,0)):=(hks B ⟨by omega,by omega,by omega⟩).trans hr6;have hok:qT n xs.length (cH F (cK xs)):=Ls xs;obtain ⟨pp,pc,rfl,_⟩:=uI.iD.form (n:=xs.length) (by rw [aD];exact hok.lp);obtain ⟨np,nc,rfl,_⟩:=uI.jF.form (n:=xs.length) (by rw [aD];exact hok.ln);have k6:W.cell? ⟨B,0,none⟩=some (.slice none 0 0):=by simp [World.cell?,zL]
  have hr1:W.cell? ⟨B,1,none⟩=some (.slice none 0 0):=by simp [World.cell?,zL]
  have XB:W.frozen? ⟨B,0,none⟩=false:=by simp [World.frozen?,zL]
  have zM:W.frozen? ⟨B,1,none⟩=false:=by simp [World.frozen?,zL]
  gi_wp2_with fail;have XC:D≠B:=by omega
  have hK2:((W.setCell ⟨B,0,none⟩ (.slice pp xs.length pc)).setCell ⟨B,1,none⟩ (.slice np xs.length nc)).heap[D]? = some (.deferred (some [])):=by rw [blk_setCell_other _ _ _ _ XC,blk_setCell_other _ _ _ _ XC];exact hK
  refine ⟨by simp,.inl ⟨_,_,rfl,run_takeDeferred hK2,?_⟩⟩;have hheap:((W.setCell ⟨B,0,none⟩ (.slice pp xs.length pc)).setCell ⟨B,1,none⟩ (.slice np xs.length nc)).heap[B]? = some (Obj.cells #[.slice pp xs.length pc,.slice np xs.length nc] 33 (0,0)):=by simp [World.setCell,Array.getElem?_modify,zL]
  have hq:∀b,b≠D->(((W.setCell ⟨B,0,none⟩ (.slice pp xs.length pc)).setCell ⟨B,1,none⟩ (.slice np xs.length nc)).putObj D (.deferred none)).heap[b]? = ((W.setCell ⟨B,0,none⟩ (.slice pp xs.length pc)).setCell ⟨B,1,none⟩ (.slice np xs.length nc)).heap[b]?:=fun b hb=>eA hb;have ND:=(hq B (fe XC)).trans hheap;have XD:∀b,b≠B->((W.setCell ⟨B,0,none⟩ (.slice pp xs.length pc)).setCell ⟨B,1,none⟩ (.slice np xs.length nc)).heap[b]? = W.heap[b]?:=fun b hb=>by rw [blk_setCell_other _ _ _ _ hb,blk_setCell_other _ _ _ _ hb]
  have hsz:(((W.setCell ⟨B,0,none⟩ (.slice pp xs.length pc)).setCell ⟨B,1,none⟩ (.slice np xs.length nc)).putObj D (.deferred none)).heap.size=W.heap.size:=by simp [World.size_setCell]
  have hos:(((W.setCell ⟨B,0,none⟩ (.slice pp xs.length pc)).setCell ⟨B,1,none⟩ (.slice np xs.length nc)).putObj D (.deferred none)).os=W.os/\(((W.setCell ⟨B,0,none⟩ (.slice pp xs.length pc)).setCell ⟨B,1,none⟩ (.slice np xs.length nc)).putObj D (.deferred none)).tape=W.tape/\(((W.setCell ⟨B,0,none⟩ (.slice pp xs.length pc)).setCell ⟨B,1,none⟩ (.slice np xs.length nc)).putObj D (.deferred none)).output=W.output:=⟨rfl,rfl,rfl⟩;generalize ((W.setCell ⟨B,0,none⟩ (.slice pp xs.length pc)).setCell ⟨B,1,none⟩ (.slice np xs.length nc)).putObj D (.deferred none)=We at *
  have hc0:We.cell? ⟨B,0,none⟩=some (.slice pp xs.length pc):=by simp [World.cell?,ND]
  have hc1:We.cell? ⟨B,1,none⟩=some (.slice np xs.length nc):=by simp [World.cell?,ND]
  have hown:∀ {e:TypeId} {v:Value} {vs:List Value},au (B+5) e W v vs->au (B+5) e We v vs:=fun ho=>ho.same fun b hb=>by have h1:=(az ho hb).1;obtain ⟨c,hc⟩:=ho.typed hb;(have hbD:b≠D:=fun e=>by subst e;rw [hK] at hc;cases hc);rw [hq b hbD,XD b (by omega)]
  refine ⟨.agg #[.slice pp xs.length pc,.slice np xs.length nc],by simp [results,Tryz.results37,go_sem,hc0,hc1],?_,_,rfl,.slice pp xs.length pc,.slice np xs.length nc,rfl,?_,?_⟩
  ·have hX:=HX.out
   have hBw:=HB.out;refine ⟨hos.1.trans (jh.os.trans hX.os),hos.2.1.trans (jh.tape.trans hX.tape),hos.2.2.trans (jh.output.trans hX.output),?_,fun b hb=>?_⟩
   ·rw [hsz];have h1:=hX.size;have h2:=jh.size;omega
   ·rw [hBw] at hb
    rw [hq b (by omega),XD b (by omega),jh.block b (by omega)];exact aO hX b (by rw [hBw];exact hb)
  ·show af (fun b=>w.heap.size<=b) We _ (cH F (dW F rk i none)).ps
   rw [<- hS,HB.out];exact (hown uI.iD).ints.sub fun b (hb:B+5<=b) _=>(by omega:B<=b)
  ·show aC (fun b=>w.heap.size<=b) We _ (cH F (dW F rk i none)).ns
   rw [<- hS,HB.out];exact (hown uI.jF).strs.sub fun b (hb:B+5<=b) _=>(by omega:B<=b)
 ·rintro D c pre W _ _ h _
  exact h.elim
end Go.Proofs.YtfomhlbhcifgbaaGreatDoor
