/- split.below: an iterator over a recursive closure that owns what it builds: one node. .. -/
import Derived.Maps.OwnIn
import Derived.Shelf.Slices.Empties
import Derived.Shelf.Slices.SearchI
import Derived.Lib.AppendZeros
import Derived.Test.YthgabkgmkolobaaGreatQ29
set_option maxRecDepth 100000
set_option maxHeartbeats 4000000
namespace Go.Proofs.YthgabkgmkolobaaGreat
section
open Go.RowKit Go.Shelf Go.Deep Go.Sort
abbrev El:=Nat×Value
section
variable (w0:World) (t:aF) (acw:List ByteArray) (l Bt Be Bn Bq N:Nat) (J:List El->(Nat->Prop)->World->Prop)
variable {w0 t acw l Bt Be Bn Bq N J}
theorem Ic (W:World) (base:Nat) (e:TypeId) (u:Value) (h:base<=W.heap.size):ax base e (W.alloc (.cells #[u] e)) (.slice (some ⟨W.heap.size,0,none⟩) 1 1) [u] :=
 ⟨rfl,.inr ⟨W.heap.size,1,#[u],rfl,h,blk_alloc_new W _,ah _,by decide,rfl,rfl⟩⟩
end
end
section
open Go.RowKit Go.Deep Go.Shelf
theorem aA.grown {S:Nat->Prop} {X Y:World} {v:Value} {n:Nat} {f:Nat->Value} {row:Option Nat} (h:aA S X v n f) (hg:X.grownBy Y row) (hr:∀r,row=some r->∃o,X.heap[r]? = some o/\o.isCells=false):aA S Y v n f:=by
 obtain ⟨p,cap,rfl,hn,h⟩:=h;refine ⟨p,cap,rfl,hn,?_⟩;by_cases h0:n=0
 ·exact .inl h0
 ·rcases h with h | ⟨g,off,rfl,hS,hc⟩
  ·exact absurd h h0
  ·refine .inr ⟨g,off,rfl,hS,fun k hk=>?_⟩
   have h1:=hc k hk;have hl:=dN X _ h1;refine (fG (a:=⟨g,off+k,none⟩) (hg.block g hl fun e=>?_)).trans h1;obtain ⟨o,h2,h3⟩:=hr g e.symm;simp only [World.cell?] at h1;rw [h2] at h1;cases o<;>simp [Obj.isCells] at h3<;>simp at h1
end
section
open Go.RowKit Go.Deep
section
variable {P:Program} {ops:Array Oper} {rest:List Oper} {o:Oper} {a:Act} {Q:Exit->Act->World->Prop}
theorem qw (W:World) (hgd:o.guard=none) (s x:Operand) (t:TypeId) (ho:o.op=.call { callee:=.builtin .append,args:=#[s,x],argTypes:=#[t,t] })
  (base:Nat) (e:TypeId) (z:Value) (bytes:Nat) (ht:P.underlying t=some (.slice e)) (hinfo:(P.info? e).map (fun i=>(i.zero,i.size,i.bytes))=some (some z,1,bytes))
  (hz1:z.cells.size=1) (gL:bytes<=64) {v:Value} {vs:List Value} (hown:ax base e W v vs) (hs:a.eval s=v) (hv:v≠.slice none 0 0) (b off m c:Nat) (hx:a.eval x=.slice (some ⟨b,off,none⟩) m c)
  (f:Nat->Value) (hf:∀j,j<m->W.cell? ⟨b,off+j,none⟩=some (f j)) (h1:∀j,j<m->(f j).oneCell'=true) (n n':Nat) (xI:vs.length=n) (hn':n+m=n') (hn:n'<=1000000) (hbase:base<=W.heap.size)
  (h:∀g cap w',ax base e w' (.slice (some ⟨g,0,none⟩) n' cap) (vs++(List.range m).map f)->Below base W w'->wpList P ops Q rest (a.put o.dst (.slice (some ⟨g,0,none⟩) n' cap)) w') :
  wpList P ops Q (o::rest) a W:=by
 subst xI;subst hn';obtain ⟨i,hi,hzz⟩:=iq.1 hinfo;simp only [iM] at hzz;obtain ⟨hz,hs1,hb⟩:=hzz;refine wpList_append_own_at W hgd s x t ho base e i z 1 bytes ht hi hz hs1 hb hz1 (by omega) v vs.length vs hs hown ⟨b,off,none⟩ m c ((List.range m).map f) hx (by simp) ?_ ?_ (by unfold maxLen;omega) ?_ hbase ?_
 ·intro j u hj
  rw [jQ] at hj;obtain ⟨k,hk,rfl⟩:=iq.1 hj;obtain ⟨hlt,hk⟩:=mj.1 hk;rw [List.length_range] at hlt;rw [List.getElem_range] at hk;subst hk;have e:(⟨b,off,none⟩:Addr).add j=⟨b,off+j,none⟩:=by cases j<;>simp [Addr.add]
  rw [e];exact hf j hlt
 ·intro u hu
  obtain ⟨j,hj,rfl⟩:=di.1 hu;exact h1 j (cU.1 hj)
 ·have:(vs.length+m)*bytes<=(vs.length+m)*64:=mS _ gL
  omega
 ·intro v' w' h2 h3 h4 _
  have h5:=h2;obtain ⟨hl,⟨e1,_⟩ | ⟨g,cap,cur,rfl,_⟩⟩:=h5
  ·exact absurd (h4.1 e1).1 hv
  ·refine h g cap w' ?_ (hown.dX h3 hbase)
   unfold ax;rw [bg,aD,List.length_range];exact h2
end
theorem Tryz.Bg:(Tryz.prog.info? 9).map (fun i=>(i.zero,i.size,i.bytes))=some (some (.string ⟨#[]⟩),1,16):=by kernel_rfl
theorem Tryz.Bh:(Tryz.prog.info? 26).map (fun i=>(i.zero,i.size,i.bytes))=some (some (.slice none 0 0),1,24):=by kernel_rfl
def pF (f1 f2:Nat->Value) (n1 n2 k:Nat):List Value:=if k=0 then [] else if k=1 then (List.range n1).map f1 else (List.range n1).map f1++(List.range n2).map f2
def qN (n1 n2 k:Nat):Nat:=if k=0 then 0 else if k=1 then n1 else n1+n2
theorem Dm (f1 f2:Nat->Value) (n1 n2 k:Nat):(pF f1 f2 n1 n2 k).length=qN n1 n2 k:=by unfold pF qN;split;rfl;split<;>simp
theorem Cu {P:Program} (w:World) (t tn ty e:TypeId) (z:Value) (bytes:Nat) (k kn:IntKind) (ht:P.underlying t=some (.slice e)) (htn:P.underlying tn=some (.int kn)) (hinfo:(P.info? e).map (fun i=>(i.zero,i.size,i.bytes))=some (some z,1,bytes)) (hz1:z.cells.size=1) (gL:bytes<=64) (n:Nat) (h0:0<n) (hn:n<=64) :
  ∃cap w',(Builtin.append_ #[t,tn] ty #[.slice none 0 0,.int k n]).run P w=.ok (.slice (some ⟨w.heap.size,0,none⟩) n cap) w'/\Up w w'/\ax w.heap.size e w' (.slice (some ⟨w.heap.size,0,none⟩) 0 cap) []/\n<=cap:=by
 obtain ⟨i,hi,hzz⟩:=iq.1 hinfo;simp only [iM] at hzz;obtain ⟨hz,hs1,hb⟩:=hzz;have h:=Lib.run_append_nil_zeros (P:=P) w t tn ty e i z k kn ht htn hi hz n h0 (by omega) (by omega) (by rw [hb];have:n*bytes<=n*64:=mS _ gL;omega);have hge:=grownCap_ge w n 0 e;have hle:=grownCap_le_maxLen w n 0 e (by unfold maxLen;omega);refine ⟨_,_,h,(Up.drewN w 1).trans (Up.alloc _ _),?_,hge⟩;exact World.ownsRow_made w.drew _ (grownCap w n 0 e) (ah _) hle (by rw [Array.size_append,size_zeroCells,size_zeroCells,hz1];omega)
theorem Mi (w:World) (n:Nat) (h0:0<n) (hn:n<=64) :
  Calls Tryz.prog 99 #[.slice none 0 0,.int .i64 n] w fun e w'=>Up w w'/\∃cap,e=.returned (.slice (some ⟨w.heap.size,0,none⟩) 0 cap)/\ax w.heap.size 9 w' (.slice (some ⟨w.heap.size,0,none⟩) 0 cap) []:=by
 obtain ⟨cap,w1,hrun,hu,ho,hnc⟩:=Cu (P:=Tryz.prog) w 22 3 22 9 (.string ⟨#[]⟩) 16 .i64 .i64 Tryz.underlying22 Tryz.underlying3 Tryz.Bg rfl (by decide) n h0 hn;have HU:=aa hu;have HO:=aa ho;have HR:=aa hrun;have i1:(0:Int)<(n:Int):=by omega
 have i2:¬((n:Int)<0):=by omega
 have i3:(n:Int)<65:=by omega
 clear hu ho hrun h0
 go_enter Tryz.func99,Tryz.ntmps99
 go_wp2_with (at_builtin;refine Lib.wpList_append_run w rfl _ _ _ _ rfl _ _ rfl rfl _ _ HR.out ?_);go_ret;exact ⟨HU.out,cap,rfl,HO.out⟩
theorem Ie (S:Nat->Prop) (w:World) (B:Nat) (p1 p2:Option Addr) (n1 n2 c1 c2:Nat) (f1 f2:Nat->Value) (nW:w.cell? ⟨B,0,none⟩=some (.slice p1 n1 c1)) (qG:w.cell? ⟨B,1,none⟩=some (.slice p2 n2 c2)) (h1:aA S w (.slice p1 n1 c1) n1 f1) (h2:aA S w (.slice p2 n2 c2) n2 f2)
  (hp1:∃b o,p1=some ⟨b,o,none⟩) (hp2:∃b o,p2=some ⟨b,o,none⟩) (Ak:∀k,k<n1->(f1 k).oneCell'=true) (Ia:∀k,k<n2->(f2 k).oneCell'=true) (h0:0<n1+n2) (hn:n1+n2<=64) :
  Calls Tryz.prog 39 #[.slice (some ⟨B,0,none⟩) 2 2] w fun e w'=>Up w w'/\∃v,e=.returned v/\ax w.heap.size 9 w' v (pF f1 f2 n1 n2 2):=by
 obtain ⟨b1,o1,rfl⟩:=hp1;obtain ⟨b2,o2,rfl⟩:=hp2;have kr:Hid (∀W,Up w W->∀j,j<n1->W.cell? ⟨b1,o1+j,none⟩=some (f1 j)):=fun W hW j hj=>by
  obtain ⟨q,c,e,_,h⟩:=h1;injection e with e;rcases h with h | ⟨b,off,hq,_,h⟩
  ·omega
  ·rw [hq] at e;injection e with e;injection e with e1 e2;subst e1;subst e2
   exact hW.cell (h j hj)
 have Ig:Hid (∀W,Up w W->∀j,j<n2->W.cell? ⟨b2,o2+j,none⟩=some (f2 j)):=fun W hW j hj=>by
  obtain ⟨q,c,e,_,h⟩:=h2;injection e with e;rcases h with h | ⟨b,off,hq,_,h⟩
  ·omega
  ·rw [hq] at e;injection e with e;injection e with e1 e2;subst e1;subst e2
   exact hW.cell (h j hj)
 have HB:=aa (And.intro nW qG);have y8:=aa Ak;have OO:=aa Ia;have qK:=aa (Mi w (n1+n2) h0 hn);clear h1 h2 Ak Ia nW qG
 go_enter Tryz.func39,Tryz.ntmps39
 go_wp2_with fail
 go_loop [3,5,11] (fun s _ i=>∃k:Nat,k<=2/\i=.int .i64 k/\s=.int .i64 (qN n1 n2 k:Nat)) (fun _ _ i=>2 - (intOf i).toNat)
 case atStart=>exact ⟨0,by omega,rfl,rfl⟩
 case round =>
  obtain ⟨k,hk,rfl,rfl⟩:=hrel;have gU:k=0\/k=1\/k=2:=by omega
  have n10:(0:Int)<=(n1:Int):=by omega
  have n20:(0:Int)<=(n2:Int):=by omega
  have n16:(n1:Int)<65:=by omega
  have n26:(n2:Int)<65:=by omega
  have n36:(n1:Int)+(n2:Int)<65:=by omega
  have n38:¬((n1:Int)+(n2:Int)<0):=by omega
  have n39:¬((n1:Int)<0):=by omega
  obtain ⟨nW,qG⟩:=HB.out;rcases gU with rfl | rfl | rfl
  ·have e0:qN n1 n2 0=0:=rfl
   rw [e0];go_wp2_with fail
   go_round
   case rel=>exact ⟨1,by omega,by go_num,by show _=Value.int .i64 (n1:Int);go_num⟩
   case measure=>simp [intOf]
  ·have e0:qN n1 n2 1=n1:=rfl
   rw [e0];go_wp2_with fail
   go_round
   case rel=>exact ⟨2,by omega,by go_num,by show _=Value.int .i64 ((n1+n2:Nat):Int);go_num⟩
   case measure=>simp [intOf]
  ·have e0:qN n1 n2 2=n1+n2:=rfl
   rw [e0];go_wp2_with fail;refine qK.out.mono ?_;rintro e wg ⟨OP,gc,rfl,Ih⟩;have Xt:=aa OP;have Xu:=aa Ih;(have HSG:Hid (w.heap.size<wg.heap.size):=by have:=(aG Ih (b:=w.heap.size) rfl).2;exact this);clear OP Ih qK nW qG;go_wp2_with fail
   go_loopw [6,8,27] (fun o _ i wr=>∃k:Nat,k<=2/\i=.int .i64 k/\Hid (Up w wr/\ax w.heap.size 9 wr o (pF f1 f2 n1 n2 k)/\∃g c,o=.slice (some ⟨g,0,none⟩) (qN n1 n2 k) c)) (fun _ _ i _=>2 - (intOf i).toNat)
   case atStart=>exact ⟨0,by omega,rfl,Xt.out,Xu.out,_,_,rfl⟩
   case round =>
    obtain ⟨k,hk,rfl,hI⟩:=hrel;obtain ⟨wo,rfl⟩:∃wo:World,wo=wr:=⟨_,rfl⟩;obtain ⟨hU,hO,g,gc2,hge⟩:=hI.out;subst hge;(have gU:k=0\/k=1\/k=2:=by omega);have nW:=hU.cell HB.out.1;have qG:=hU.cell HB.out.2;have HU:=aa hU;have HO:=aa hO;have hlv:=Dm f1 f2 n1 n2 k;rcases gU with rfl | rfl | rfl
    ·have e0:qN n1 n2 0=0:=rfl
     have e1:pF f1 f2 n1 n2 0=[]:=rfl;have e2:pF f1 f2 n1 n2 1=[]++(List.range n1).map f1:=rfl;rw [e0] at HO hlv ⊢;rw [e1] at HO hlv;have HE:=aa e2;have HL:=aa hlv;clear hI hU hO e0 e1 e2 hlv qG;go_wp2_with (at_builtin;refine qw wo rfl _ _ 22 rfl w.heap.size 9 _ 16 Tryz.underlying22 Tryz.Bg rfl (by decide) HO.out rfl (by simp) b1 o1 n1 c1 rfl f1 (kr.out wo HU.out) y8.out 0 n1 HL.out (by omega) (by omega) HU.out.size ?_;intro g8 jl w8 uz gL;have vT:=aa uz;have nj:=aa gL;clear uz gL)
     go_roundw
     case rel=>exact ⟨1,by omega,by go_num,fc (show Below w.heap.size w _ from HU.out) nj.out,by rw [HE.out];exact vT.out,_,_,rfl⟩
     case measure=>simp [intOf]
    ·have e0:qN n1 n2 1=n1:=rfl
     have e1:pF f1 f2 n1 n2 1=(List.range n1).map f1:=rfl;have e2:pF f1 f2 n1 n2 2=(List.range n1).map f1++(List.range n2).map f2:=rfl;rw [e0] at HO hlv ⊢;rw [e1] at HO hlv;have HE:=aa e2;have HL:=aa hlv;clear hI hU hO e0 e1 e2 hlv nW;go_wp2_with (at_builtin;refine qw wo rfl _ _ 22 rfl w.heap.size 9 _ 16 Tryz.underlying22 Tryz.Bg rfl (by decide) HO.out rfl (by simp) b2 o2 n2 c2 rfl f2 (Ig.out wo HU.out) OO.out n1 (n1+n2) HL.out rfl (by omega) HU.out.size ?_;intro g8 jl w8 uz gL;have vT:=aa uz;have nj:=aa gL;clear uz gL)
     go_roundw
     case rel=>exact ⟨2,by omega,by go_num,fc (show Below w.heap.size w _ from HU.out) nj.out,by rw [HE.out];exact vT.out,_,_,rfl⟩
     case measure=>simp [intOf]
    ·clear hI hU hO hlv nW qG
     go_wp2_with fail;go_ret;exact ⟨HU.out,_,rfl,HO.out⟩
theorem JM (w:World) (n:Nat) (h0:0<n) (hn:n<=64) :
  Calls Tryz.prog 100 #[.slice none 0 0,.int .i64 n] w fun e w'=>Up w w'/\∃cap,e=.returned (.slice (some ⟨w.heap.size,0,none⟩) 0 cap)/\ax w.heap.size 26 w' (.slice (some ⟨w.heap.size,0,none⟩) 0 cap) []:=by
 obtain ⟨cap,w1,hrun,hu,ho,hnc⟩:=Cu (P:=Tryz.prog) w 23 3 23 26 (.slice none 0 0) 24 .i64 .i64 Tryz.underlying23 Tryz.underlying3 Tryz.Bh rfl (by decide) n h0 hn;have HU:=aa hu;have HO:=aa ho;have HR:=aa hrun;have i1:(0:Int)<(n:Int):=by omega
 have i2:¬((n:Int)<0):=by omega
 have i3:(n:Int)<65:=by omega
 clear hu ho hrun h0
 go_enter Tryz.func100,Tryz.ntmps100
 go_wp2_with (at_builtin;refine Lib.wpList_append_run w rfl _ _ _ _ rfl _ _ rfl rfl _ _ HR.out ?_);go_ret;exact ⟨HU.out,cap,rfl,HO.out⟩
theorem Fl (S:Nat->Prop) (w:World) (B:Nat) (p1 p2:Option Addr) (n1 n2 c1 c2:Nat) (f1 f2:Nat->Value) (nW:w.cell? ⟨B,0,none⟩=some (.slice p1 n1 c1)) (qG:w.cell? ⟨B,1,none⟩=some (.slice p2 n2 c2)) (h1:aA S w (.slice p1 n1 c1) n1 f1) (h2:aA S w (.slice p2 n2 c2) n2 f2)
  (hp1:∃b o,p1=some ⟨b,o,none⟩) (hp2:∃b o,p2=some ⟨b,o,none⟩) (Ak:∀k,k<n1->(f1 k).oneCell'=true) (Ia:∀k,k<n2->(f2 k).oneCell'=true) (h0:0<n1+n2) (hn:n1+n2<=64) :
  Calls Tryz.prog 40 #[.slice (some ⟨B,0,none⟩) 2 2] w fun e w'=>Up w w'/\∃v,e=.returned v/\ax w.heap.size 26 w' v (pF f1 f2 n1 n2 2):=by
 obtain ⟨b1,o1,rfl⟩:=hp1;obtain ⟨b2,o2,rfl⟩:=hp2;have kr:Hid (∀W,Up w W->∀j,j<n1->W.cell? ⟨b1,o1+j,none⟩=some (f1 j)):=fun W hW j hj=>by
  obtain ⟨q,c,e,_,h⟩:=h1;injection e with e;rcases h with h | ⟨b,off,hq,_,h⟩
  ·omega
  ·rw [hq] at e;injection e with e;injection e with e1 e2;subst e1;subst e2
   exact hW.cell (h j hj)
 have Ig:Hid (∀W,Up w W->∀j,j<n2->W.cell? ⟨b2,o2+j,none⟩=some (f2 j)):=fun W hW j hj=>by
  obtain ⟨q,c,e,_,h⟩:=h2;injection e with e;rcases h with h | ⟨b,off,hq,_,h⟩
  ·omega
  ·rw [hq] at e;injection e with e;injection e with e1 e2;subst e1;subst e2
   exact hW.cell (h j hj)
 have HB:=aa (And.intro nW qG);have y8:=aa Ak;have OO:=aa Ia;have qK:=aa (JM w (n1+n2) h0 hn);clear h1 h2 Ak Ia nW qG
 go_enter Tryz.func40,Tryz.ntmps40
 go_wp2_with fail
 go_loop [3,5,11] (fun s _ i=>∃k:Nat,k<=2/\i=.int .i64 k/\s=.int .i64 (qN n1 n2 k:Nat)) (fun _ _ i=>2 - (intOf i).toNat)
 case atStart=>exact ⟨0,by omega,rfl,rfl⟩
 case round =>
  obtain ⟨k,hk,rfl,rfl⟩:=hrel;have gU:k=0\/k=1\/k=2:=by omega
  have n10:(0:Int)<=(n1:Int):=by omega
  have n20:(0:Int)<=(n2:Int):=by omega
  have n16:(n1:Int)<65:=by omega
  have n26:(n2:Int)<65:=by omega
  have n36:(n1:Int)+(n2:Int)<65:=by omega
  have n38:¬((n1:Int)+(n2:Int)<0):=by omega
  have n39:¬((n1:Int)<0):=by omega
  obtain ⟨nW,qG⟩:=HB.out;rcases gU with rfl | rfl | rfl
  ·have e0:qN n1 n2 0=0:=rfl
   rw [e0];go_wp2_with fail
   go_round
   case rel=>exact ⟨1,by omega,by go_num,by show _=Value.int .i64 (n1:Int);go_num⟩
   case measure=>simp [intOf]
  ·have e0:qN n1 n2 1=n1:=rfl
   rw [e0];go_wp2_with fail
   go_round
   case rel=>exact ⟨2,by omega,by go_num,by show _=Value.int .i64 ((n1+n2:Nat):Int);go_num⟩
   case measure=>simp [intOf]
  ·have e0:qN n1 n2 2=n1+n2:=rfl
   rw [e0];go_wp2_with fail;refine qK.out.mono ?_;rintro e wg ⟨OP,gc,rfl,Ih⟩;have Xt:=aa OP;have Xu:=aa Ih;(have HSG:Hid (w.heap.size<wg.heap.size):=by have:=(aG Ih (b:=w.heap.size) rfl).2;exact this);clear OP Ih qK nW qG;go_wp2_with fail
   go_loopw [6,8,27] (fun o _ i wr=>∃k:Nat,k<=2/\i=.int .i64 k/\Hid (Up w wr/\ax w.heap.size 26 wr o (pF f1 f2 n1 n2 k)/\∃g c,o=.slice (some ⟨g,0,none⟩) (qN n1 n2 k) c)) (fun _ _ i _=>2 - (intOf i).toNat)
   case atStart=>exact ⟨0,by omega,rfl,Xt.out,Xu.out,_,_,rfl⟩
   case round =>
    obtain ⟨k,hk,rfl,hI⟩:=hrel;obtain ⟨wo,rfl⟩:∃wo:World,wo=wr:=⟨_,rfl⟩;obtain ⟨hU,hO,g,gc2,hge⟩:=hI.out;subst hge;(have gU:k=0\/k=1\/k=2:=by omega);have nW:=hU.cell HB.out.1;have qG:=hU.cell HB.out.2;have HU:=aa hU;have HO:=aa hO;have hlv:=Dm f1 f2 n1 n2 k;rcases gU with rfl | rfl | rfl
    ·have e0:qN n1 n2 0=0:=rfl
     have e1:pF f1 f2 n1 n2 0=[]:=rfl;have e2:pF f1 f2 n1 n2 1=[]++(List.range n1).map f1:=rfl;rw [e0] at HO hlv ⊢;rw [e1] at HO hlv;have HE:=aa e2;have HL:=aa hlv;clear hI hU hO e0 e1 e2 hlv qG;go_wp2_with (at_builtin;refine qw wo rfl _ _ 23 rfl w.heap.size 26 _ 24 Tryz.underlying23 Tryz.Bh rfl (by decide) HO.out rfl (by simp) b1 o1 n1 c1 rfl f1 (kr.out wo HU.out) y8.out 0 n1 HL.out (by omega) (by omega) HU.out.size ?_;intro g8 jl w8 uz gL;have vT:=aa uz;have nj:=aa gL;clear uz gL)
     go_roundw
     case rel=>exact ⟨1,by omega,by go_num,fc (show Below w.heap.size w _ from HU.out) nj.out,by rw [HE.out];exact vT.out,_,_,rfl⟩
     case measure=>simp [intOf]
    ·have e0:qN n1 n2 1=n1:=rfl
     have e1:pF f1 f2 n1 n2 1=(List.range n1).map f1:=rfl;have e2:pF f1 f2 n1 n2 2=(List.range n1).map f1++(List.range n2).map f2:=rfl;rw [e0] at HO hlv ⊢;rw [e1] at HO hlv;have HE:=aa e2;have HL:=aa hlv;clear hI hU hO e0 e1 e2 hlv nW;go_wp2_with (at_builtin;refine qw wo rfl _ _ 23 rfl w.heap.size 26 _ 24 Tryz.underlying23 Tryz.Bh rfl (by decide) HO.out rfl (by simp) b2 o2 n2 c2 rfl f2 (Ig.out wo HU.out) OO.out n1 (n1+n2) HL.out rfl (by omega) HU.out.size ?_;intro g8 jl w8 uz gL;have vT:=aa uz;have nj:=aa gL;clear uz gL)
     go_roundw
     case rel=>exact ⟨2,by omega,by go_num,fc (show Below w.heap.size w _ from HU.out) nj.out,by rw [HE.out];exact vT.out,_,_,rfl⟩
     case measure=>simp [intOf]
    ·clear hI hU hO hlv nW qG
     go_wp2_with fail;go_ret;exact ⟨HU.out,_,rfl,HO.out⟩
end
end Go.Proofs.YthgabkgmkolobaaGreat
