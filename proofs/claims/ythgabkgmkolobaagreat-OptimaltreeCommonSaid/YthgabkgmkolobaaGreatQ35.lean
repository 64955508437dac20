/- split.Build: what lies in memory while the tree grows. The contract of .. -/
import Derived.Shelf.Slices.SearchI
import Derived.Shelf.Slices.Empties
import Derived.Test.YthgabkgmkolobaaGreatQ34
set_option maxRecDepth 100000
set_option maxHeartbeats 2000000
namespace Go.Proofs.YthgabkgmkolobaaGreat
open Go.RowKit Go.Deep
def bQ (aac : List ByteArray) (own : List (List Int)) (j m : Nat) : az :=
  ⟨[-1, 0, 0] ++ ((List.range j).map (fun k => gF own (gi (gl own k) 0) k) ++ (List.range m).map fun b => gF own ((b + 1 : Nat) : Int) own.length),
   [ByteArray.empty, gs aac 0, ByteArray.empty] ++ (List.replicate j ByteArray.empty ++ (List.range m).map fun b => gs aac (b + 1))⟩
theorem bQ_own (aac:List ByteArray) (own:List (List Int)) (j:Nat):(bQ aac own j 0).push (gF own (gi (gl own j) 0) j) ByteArray.empty=bQ aac own (j+1) 0:=by
 unfold bQ az.push;simp [List.range_succ,List.replicate_succ']
theorem bQ_leaf (aac:List ByteArray) (own:List (List Int)) (j m:Nat):(bQ aac own j m).push (gF own ((m+1:Nat):Int) own.length) (gs aac (m+1))=bQ aac own j (m+1):=by
 unfold bQ az.push;simp [List.range_succ]
theorem bQ_len (aac:List ByteArray) (own:List (List Int)) (j m:Nat):(bQ aac own j m).ps.length=3+j+m/\(bQ aac own j m).ns.length=3+j+m:=by
 unfold bQ;constructor<;>simp<;>omega
structure AX (tb r o n:Nat) (W:World) (P N ov nv:Value) (own:List (List Int)) (qW:List Int):Prop where
 lt:tb<r/\r<o/\o<n/\n<W.heap.size
 Ju:∀b,P.ownBlock=some b->b≠r/\b≠o/\b≠n/\nv.ownBlock≠some b
 Jv:∀b,N.ownBlock=some b->b≠r/\b≠o/\b≠n/\nv.ownBlock≠some b
 rb:W.heap[r]? = some (Obj.cells #[.int .i64 2] 3 (0,0))
 ob:W.heap[o]? = some (Obj.cells #[ov] 23 (0,0))
 nb:W.heap[n]? = some (Obj.cells #[nv] 26 (0,0))
 rows:aR (fun b=>b≠tb/\b≠n/\some b≠P.ownBlock/\some b≠N.ownBlock/\some b≠nv.ownBlock) W ov own
 qW:ax (n+1) 3 W nv (qW.map (Value.int .i64))
section
variable {tb r o n:Nat} {W X:World} {P N P' N' ov nv Jw:Value} {own:List (List Int)} {qW:List Int}
theorem AX.gk (h:AX tb r o n W P N ov nv own qW) (k:GK tb W X P N P' N'):AX tb r o n X P' N' ov nv own qW:=by
 obtain ⟨l1,l2,l3,l4⟩:=h.lt;have far:∀ {Q Q':Value},(∀b,Q'.ownBlock=some b->Q.ownBlock=some b\/W.heap.size<=b)->(∀b,Q.ownBlock=some b->b≠r/\b≠o/\b≠n/\nv.ownBlock≠some b)->∀b,Q'.ownBlock=some b->b≠r/\b≠o/\b≠n/\nv.ownBlock≠some b:=fun h1 h2 b hb=>by
  rcases h1 b hb with h3 | h3
  ·exact h2 b h3
  ·exact ⟨by omega,by omega,by omega,fun e=>by have:=(av h.qW e).2;omega⟩
 have bl:∀b,b<W.heap.size->b≠tb->(∀c,P.ownBlock=some c->b≠c)->(∀c,N.ownBlock=some c->b≠c)->X.heap[b]? = W.heap[b]?:=fun b hb h1 h2 h3=>k.block b hb h1 (fun e=>h2 b e.symm rfl) (fun e=>h3 b e.symm rfl);refine ⟨⟨l1,l2,l3,js l4 k.size⟩,far k.rJ h.Ju,far k.rK h.Jv,?_,?_,?_,?_,?_⟩
 ·rw [bl r (by omega) (by omega) (fun c hc e=>(h.Ju c hc).1 e.symm) (fun c hc e=>(h.Jv c hc).1 e.symm)];exact h.rb
 ·rw [bl o (by omega) (by omega) (fun c hc e=>(h.Ju c hc).2.1 e.symm) (fun c hc e=>(h.Jv c hc).2.1 e.symm)];exact h.ob
 ·rw [bl n (by omega) (by omega) (fun c hc e=>(h.Ju c hc).2.2.1 e.symm) (fun c hc e=>(h.Jv c hc).2.2.1 e.symm)];exact h.nb
 ·refine ((h.rows.sub (T:=fun b=>(b≠tb/\b≠n/\some b≠P.ownBlock/\some b≠N.ownBlock/\some b≠nv.ownBlock)/\b<W.heap.size) fun b hb hl=>⟨hb,hl⟩).keep fun b hb hl=>k.block b hl hb.1.1 hb.1.2.2.1 hb.1.2.2.2.1).sub fun b hb _=>⟨hb.1.1,hb.1.2.1,fun e=>?_,fun e=>?_,hb.1.2.2.2.2⟩
  ·rcases k.rJ b e.symm with h1 | h1
   ·exact hb.1.2.2.1 h1.symm
   ·have:=hb.2;omega
  ·rcases k.rK b e.symm with h1 | h1
   ·exact hb.1.2.2.2.1 h1.symm
   ·have:=hb.2;omega
 ·exact h.qW.fM fun b hb=>bl b (av h.qW hb).2 (by have:=(av h.qW hb).1;omega) (fun c hc e=>(h.Ju c hc).2.2.2 (e ▸ hb)) (fun c hc e=>(h.Jv c hc).2.2.2 (e ▸ hb))
theorem AX.up (h:AX tb r o n W P N ov nv own qW) (k:Up W X):AX tb r o n X P N ov nv own qW:=h.gk (GK.JY k)
theorem AX.cells (h:AX tb r o n W P N ov nv own qW):W.cell? ⟨r,0,none⟩=some (.int .i64 2)/\W.cell? ⟨o,0,none⟩=some ov/\W.cell? ⟨n,0,none⟩=some nv/\W.frozen? ⟨n,0,none⟩=false:=by
 refine ⟨?_,?_,?_,?_⟩<;>simp [World.cell?,World.frozen?,h.rb,h.ob,h.nb]
theorem AX.app {B0:Nat} {t:az} {z:Int} (h:AX tb r o n W P N ov nv own qW) (hG:GS tb B0 W P N t) {w8:World} (ho:ax (n+1) 3 w8 Jw (qW.map (Value.int .i64)++[.int .i64 z])) (hg:W.grownBy w8 nv.ownBlock) (dD:∀b,Jw.ownBlock=some b->nv.ownBlock=some b\/W.heap.size<=b) :
  (w8.cell? ⟨n,0,none⟩=some nv/\w8.frozen? ⟨n,0,none⟩=false)/\AX tb r o n (w8.setCell ⟨n,0,none⟩ Jw) P N ov Jw own (qW++[z])/\GS tb B0 (w8.setCell ⟨n,0,none⟩ Jw) P N t/\(∀w0,Up w0 W->w0.heap.size<=tb->Up w0 (w8.setCell ⟨n,0,none⟩ Jw)):=by
 obtain ⟨l1,l2,l3,l4⟩:=h.lt;have hnlt:∀b,nv.ownBlock=some b->n<b:=fun b hb=>(av h.qW hb).1;have h8:∀b,b<W.heap.size->nv.ownBlock≠some b->w8.heap[b]? = W.heap[b]?:=fun b hb hne=>hg.block b hb fun e=>hne e.symm;have hx:∀b,b<W.heap.size->b≠n->nv.ownBlock≠some b->(w8.setCell ⟨n,0,none⟩ Jw).heap[b]? = W.heap[b]?:=fun b hb hn hne=>(blk_setCell_other _ _ _ _ hn).trans (h8 b hb hne);have hn8:w8.heap[n]? = some (Obj.cells #[nv] 26 (0,0)):=(h8 n l4 fun e=>by have:=hnlt n e;omega).trans h.nb
 have hnx:(w8.setCell ⟨n,0,none⟩ Jw).heap[n]? = some (Obj.cells #[Jw] 26 (0,0)):=by simp [World.setCell,Array.getElem?_modify,hn8]
 have hsz:(w8.setCell ⟨n,0,none⟩ Jw).heap.size=w8.heap.size:=mW _ _ _;have hle:=hg.size;have far:∀ {Q:Value},(∀b,Q.ownBlock=some b->b<W.heap.size)->(∀b,Q.ownBlock=some b->b≠r/\b≠o/\b≠n/\nv.ownBlock≠some b)->∀b,Q.ownBlock=some b->b≠r/\b≠o/\b≠n/\Jw.ownBlock≠some b:=fun hq h2 b hb=>by
  obtain ⟨h3,h4,h5,h6⟩:=h2 b hb;refine ⟨h3,h4,h5,fun e=>?_⟩;rcases dD b e with h7 | h7
  ·exact h6 h7
  ·have:=hq b hb;omega
 have ZK:∀b,P.ownBlock=some b->b<W.heap.size:=fun b hb=>(av hG.tl.dJ hb).2;have ZL:∀b,N.ownBlock=some b->b<W.heap.size:=fun b hb=>(av hG.tl.eH hb).2;refine ⟨⟨by simp [World.cell?,hn8],by simp [World.frozen?,hn8]⟩,⟨⟨l1,l2,l3,by omega⟩,far ZK h.Ju,far ZL h.Jv,?_,?_,hnx,?_,?_⟩,⟨?_,⟨?_,?_,hG.tl.apart⟩,hG.lo.1,by have:=hG.lo.2;omega⟩,fun w0 hu hw=>?_⟩
 ·rw [hx r (by omega) (by omega) fun e=>by have:=hnlt r e;omega];exact h.rb
 ·rw [hx o (by omega) (by omega) fun e=>by have:=hnlt o e;omega];exact h.ob
 ·refine ((h.rows.sub (T:=fun b=>(b≠tb/\b≠n/\some b≠P.ownBlock/\some b≠N.ownBlock/\some b≠nv.ownBlock)/\b<W.heap.size) fun b hb hl=>⟨hb,hl⟩).keep fun b hb hl=>hx b hl hb.1.2.1 fun e=>hb.1.2.2.2.2 e.symm).sub fun b hb _=>⟨hb.1.1,hb.1.2.1,hb.1.2.2.1,hb.1.2.2.2.1,fun e=>?_⟩
  rcases dD b e.symm with h7 | h7
  ·exact hb.1.2.2.2.2 h7.symm
  ·have:=hb.2;omega
 ·rw [cg]
  exact ho.kept fun b hb _=>blk_setCell_other _ _ _ _ (show b≠n by omega)
 ·rw [hx tb (by omega) (by omega) fun e=>by have:=hnlt tb e;omega];exact hG.box
 ·exact hG.tl.dJ.fM fun b hb=>hx b (ZK b hb) (h.Ju b hb).2.2.1 (h.Ju b hb).2.2.2
 ·exact hG.tl.eH.fM fun b hb=>hx b (ZL b hb) (h.Jv b hb).2.2.1 (h.Jv b hb).2.2.2
 ·refine ⟨hg.os.trans hu.os,hg.tape.trans hu.tape,hg.output.trans hu.output,by have:=hu.size;omega,fun b hb=>?_⟩
  rw [hx b (by have:=hu.size;omega) (by omega) fun e=>by have:=hnlt b e;omega];exact hu.block b hb
end
theorem GK.ZM {tb:Nat} {w0 W X:World} {P N P' N':Value} {t:az} {B0:Nat} (h:GK tb W X P N P' N') (hG:GS tb B0 W P N t) (hu:Up w0 W) (hw:w0.heap.size<=tb):Up w0 X :=
 ⟨h.os.trans hu.os,h.tape.trans hu.tape,h.output.trans hu.output,aJ hu.size h.size,fun b hb=>by
  have h1:=hG.lo
  rw [h.block b (by omega) (by omega) (fun e=>by have:=(av hG.tl.dJ e.symm).1;omega) (fun e=>by have:=(av hG.tl.eH e.symm).1;omega)]
  exact hu.block b hb⟩
theorem ax.slAtO {base:Nat} {e:TypeId} {w:World} {v:Value} {vs:List Value} (h:ax base e w v vs):ay (fun b=>v.ownBlock=some b) w v vs.length (fun k=>vs.getD k undef):=by
 obtain ⟨q,c,hv,hn,h0 | ⟨b,off,hq,hS,hc⟩⟩:=h.vz
 ·exact ⟨q,c,hv,hn,.inl h0⟩
 ·subst hq;subst hv
  exact ⟨_,c,rfl,hn,.inr ⟨b,off,rfl,rfl,hc⟩⟩
theorem AX.start {tb r o B0 base:Nat} {w6 jh:World} {P N ov v11:Value} {t:az} {own:List (List Int)} {ps:List (List Int×Value)} (hG:GS tb B0 w6 P N t) (hr:r=w6.heap.size) (hb:r<base) (ho:r<o) (hu:Up w6 jh) (hrb:jh.heap[r]? = some (Obj.cells #[.int .i64 2] 3 (0,0))) (Bz:jh.heap[o]? = some (Obj.cells #[ov] 23 (0,0)))
  (hR:uu base jh v11 ps) (hm:ps.map (·.1)=own) (hS:∀p∈ps,ah (fun b=>b<tb) jh p.2 p.1) (hne:v11.ownBlock≠some o) :
  (jh.cell? ⟨o,0,none⟩=some ov/\jh.frozen? ⟨o,0,none⟩=false) /\
  AX tb r o jh.heap.size ((jh.setCell ⟨o,0,none⟩ v11).alloc (.cells #[.slice none 0 0] 26)) P N v11 (.slice none 0 0) own []/\Up w6 ((jh.setCell ⟨o,0,none⟩ v11).alloc (.cells #[.slice none 0 0] 26)):=by
 have l6:=hu.size;have Y5:o<jh.heap.size:=(fR.1 Bz).1;have hsz:(jh.setCell ⟨o,0,none⟩ v11).heap.size=jh.heap.size:=mW _ _ _;have hx:∀b,b<jh.heap.size->b≠o->((jh.setCell ⟨o,0,none⟩ v11).alloc (.cells #[.slice none 0 0] 26)).heap[b]? = jh.heap[b]?:=fun b hb zQ =>
  ((Up.alloc (jh.setCell ⟨o,0,none⟩ v11) (.cells #[.slice none 0 0] 26)).block b (by rw [hsz];exact hb)).trans (blk_setCell_other _ _ _ _ zQ)
 have ZK:∀b,P.ownBlock=some b->tb<b/\b<w6.heap.size:=fun b hb=>by have:=av hG.tl.dJ hb;have:=hG.lo;omega
 have ZL:∀b,N.ownBlock=some b->tb<b/\b<w6.heap.size:=fun b hb=>by have:=av hG.tl.eH hb;have:=hG.lo;omega
 have hvl:∀b,v11.ownBlock=some b->base<=b/\b<jh.heap.size:=fun b hb=>av hR.own hb;have hlo:=hG.lo;have K7:(jh.setCell ⟨o,0,none⟩ v11).heap[o]? = some (Obj.cells #[v11] 23 (0,0)):=by simp [World.setCell,Array.getElem?_modify,Bz]
 refine ⟨⟨by simp [World.cell?,Bz],by simp [World.frozen?,Bz]⟩,⟨⟨by omega,ho,Y5,by rw [aQ,hsz];omega⟩,fun b hb=>?_,fun b hb=>?_,?_,?_,?_,?_,ax.nil _ _ _⟩,?_⟩
 ·have:=ZK b hb;exact ⟨by omega,by omega,by omega,fun e=>by cases e⟩
 ·have:=ZL b hb;exact ⟨by omega,by omega,by omega,fun e=>by cases e⟩
 ·rw [hx r (by omega) (by omega)];exact hrb
 ·exact ((Up.alloc _ _).block o (by rw [hsz];exact Y5)).trans K7
 ·have h:=blk_alloc_new (jh.setCell ⟨o,0,none⟩ v11) (.cells #[.slice none 0 0] 26)
  rw [hsz] at h;exact h
 ·subst hm
  refine ⟨fun k=>(ps.map (·.2)).getD k undef,?_,fun k hk=>?_⟩
  ·have h1:=hR.own.slAtO
   rw [aG] at h1 ⊢;refine ((h1.sub (T:=fun b=>v11.ownBlock=some b/\b<jh.heap.size) fun b hb hl=>⟨hb,hl⟩).keep fun b hb hl=>hx b hl fun e=>hne (e ▸ hb.1)).sub fun b hb _=>?_;obtain ⟨hb1,hb2⟩:=hb;have:=hvl b hb1;exact ⟨by omega,by omega,fun e=>by have:=ZK b e.symm;omega,fun e=>by have:=ZL b e.symm;omega,fun e=>by cases e⟩
  ·have hk':k<ps.length:=by simpa using hk
   have h2:=hS ps[k] (lg hk');(have e:gl (ps.map (·.1)) k=ps[k].1:=by simp [gl,hk']);(have e2:(ps.map (·.2)).getD k undef=ps[k].2:=by simp [hk']);rw [e];show ah _ _ ((ps.map (·.2)).getD k undef) _;rw [e2];refine (h2.keep fun b hb hl=>hx b hl (by omega)).sub fun b hb _=>⟨by omega,by omega,fun e=>by have:=ZK b e.symm;omega,fun e=>by have:=ZL b e.symm;omega,fun e=>by cases e⟩
 ·refine Up.trans (b:=jh.setCell ⟨o,0,none⟩ v11) ?_ (Up.alloc _ _)
  exact yC (p:=⟨o,0,none⟩) hu (show w6.heap.size<=o by omega) _
end Go.Proofs.YthgabkgmkolobaaGreat
namespace Go.Proofs
open Go.Shelf
def Tryz.bsI_ren:Go.Shelf.Ren:=⟨fun | 25=>194 | 31=>178 | 32=>246 | 37=>131 | n=>n,fun | 22=>26 | 3=>3 | 4=>4 | 40=>154 | 0=>0 | n=>n,fun | n=>n⟩
theorem Tryz.bsI:Go.Proofs.Lays2.n25 Tryz.prog Tryz.bsI_ren:={
 mixed:=by kernel_rfl
 f25:=Tryz.func194.trans (congrArg some (by kernel_rfl))
 f31:=Tryz.func178.trans (congrArg some (by kernel_rfl))
 f32:=Tryz.func246.trans (congrArg some (by kernel_rfl))
 f37:=Tryz.func131.trans (congrArg some (by kernel_rfl))
 t0:=Tryz.underlying0
 a0:=Tryz.isAgg0
 z0:=Tryz.sizeOf0
 v0:=Tryz.zeroValue0
 t3:=Tryz.underlying3
 a3:=Tryz.isAgg3
 z3:=Tryz.sizeOf3
 v3:=Tryz.zeroValue3
 t4:=Tryz.underlying4
 a4:=Tryz.isAgg4
 z4:=Tryz.sizeOf4
 v4:=Tryz.zeroValue4
 t22:=Tryz.underlying26
 a22:=Tryz.isAgg26
 z22:=Tryz.sizeOf26
 v22:=Tryz.zeroValue26
 t40:=Tryz.underlying154
 a40:=Tryz.isAgg154
 z40:=Tryz.sizeOf154
 v40:=Tryz.zeroValue154 }
end Go.Proofs
namespace Go.Proofs.YthgabkgmkolobaaGreat
section
open Go.RowKit Go.Deep
theorem AK (S:Nat->Prop) (w:World) (v:Value) (l:List Int) (h:ah S w v l) (hn:l.length<=1000000) :
  Calls Tryz.prog 118 #[v] w fun e w'=>e=.returned (.int .i64 (zu l))/\w=w':=by
 have HF:Hid (zu l=bU (uV l) l.length):=rfl;have HB:Hid (∀i,uV l i=if gi l i<0\/63<gi l i then 2 else if 0<i/\gi l i<=gi l (i - 1) then 10 else 0):=fun _=>rfl;obtain ⟨p,cap,rfl,-,-⟩:=ay.open h;have H:Hid (ah S w (.slice p l.length cap) l):=h;clear h
 go_enter Tryz.func118,Tryz.ntmps118
 go_wp2_with fail
 go_loop [3,4,7] (fun _ _ i=>∃k:Nat,k<=l.length/\i=.int .i64 k/\Hid (∀j,j<k->uV l j=0)) (fun _ _ i=>l.length - (intOf i).toNat)
 case atStart=>exact ⟨0,aL _,rfl,fun j hj=>absurd hj (bG _)⟩
 case round =>
  obtain ⟨k,hk,rfl,hd⟩:=hrel;by_cases hlt:k<l.length
  ·obtain ⟨b,off,rfl,hc⟩:=dG H.out hlt
   have HK:=aa (HB.out k);(have HP:Hid (0<k->w.cell? ⟨b,off+(k - 1),none⟩=some (.int .i64 (gi l (k - 1)))):=fun h0=>by obtain ⟨b2,off2,e,hc2⟩:=dG H.out (k:=k - 1) (by omega);cases e;exact hc2);generalize gi l k=x at *;generalize gi l (k - 1)=y at *;by_cases h1:x<0
   ·go_wp2_with fail
    go_ret;(have hr:uV l k=2:=by rw [HK.out,if_pos (.inl h1)]);exact ⟨aM (by rw [HF.out,gm hlt hd.out (by rw [hr];decide),hr]),rfl⟩
   by_cases h2:63<x
   ·go_wp2_with fail
    go_ret;(have hr:uV l k=2:=by rw [HK.out,if_pos (.inr h2)]);exact ⟨aM (by rw [HF.out,gm hlt hd.out (by rw [hr];decide),hr]),rfl⟩
   (have HX:Hid (¬(x<0\/63<x)):=by unfold Hid;omega);by_cases h0:k=0
   ·subst h0
    rw [jZ] at hc;go_wp2_with fail
    go_round
    case rel=>exact ⟨1,by omega,by go_num,fun j hj=>by
     have:j=0:=by omega
     subst this;rw [HK.out,if_neg HX.out,if_neg (by omega)]⟩
    case measure=>simp [intOf];omega
   ·have qX:=HP.out (by omega)
    (have i1:(0:Int)<=(k:Int) - 1:=by omega);(have i2:(k:Int) - 1<(l.length:Int):=by omega);(have i3:((k:Int) - 1).toNat=k - 1:=by omega);(have i4:wrap64 ((k:Int) - 1)=(k:Int) - 1:=by unfold wrap64;omega);(have i5:(0:Int)<(k:Int):=by omega);(have i6:0<k:=by omega);by_cases h3:x<=y
    ·go_wp2_with fail
     go_ret;(have hr:uV l k=10:=by rw [HK.out,if_neg HX.out,if_pos ⟨by omega,h3⟩]);exact ⟨aM (by rw [HF.out,gm hlt hd.out (by rw [hr];decide),hr]),rfl⟩
    ·have HY:=aa h3
     go_wp2_with fail
     go_round
     case rel=>exact ⟨k+1,by omega,by clear i4;go_num,fun j hj=>by
      by_cases e:j=k
      ·subst e;rw [HK.out,if_neg HX.out,if_neg (fun q=>HY.out q.2)]
      ·exact hd.out j (by omega)⟩
     case measure=>clear i4;simp [intOf];omega
  ·obtain rfl:k=l.length:=by omega
   clear hlt;go_wp2_with fail;go_ret;exact ⟨aM (by rw [HF.out,cR hd.out]),rfl⟩
theorem V5 (S:Nat->Prop) (w:World) (b:Nat) (v:Value) (l:List Int) (k:Int) (hb:w.cell? ⟨b,0,none⟩=some v) (h:ah S w v l) (hn:l.length<=1000000) (ha:l.Pairwise (· < ·)) :
  Calls Tryz.prog 193 #[.int .i64 k,.pointer (some ⟨b,0,none⟩)] w fun e w'=>e=.returned (.bool (l.contains k))/\∃q,w'=w.drewN q:=by
 have HB:Hid (Calls Tryz.prog 194 #[v,.int .i64 k] w fun e w'=>(∃c:Int,e=.returned (.tuple #[.int .i64 c,.bool (l.contains k)]))/\∃q,w'=w.drewN q):=by
  obtain ⟨p,cap,rfl,hcap,hc⟩:=ay.open h;by_cases h0:l=[]
  ·subst h0
   refine (Any.slices_BinarySearch_int_empty Tryz.bsI p cap k w).mono ?_;rintro e w' ⟨rfl,rfl⟩;exact ⟨⟨_,rfl⟩,0,rfl⟩
  ·have hl:0<l.length:=Ak.2 h0
   obtain ⟨g,off,rfl,_⟩:=hc 0 hl;refine (Any.slices_BinarySearch_int Tryz.bsI g off l.length cap l k w (af _) (by omega) (fun j hj=>?_) (by rw [gh];exact ha.imp fun h=>Int.le_of_lt h)).mono ?_
   ·obtain ⟨g',off',e,hc'⟩:=hc j hj
    cases e;exact hc'
   ·rintro e w' ⟨rfl,q,rfl⟩
    rw [gh];exact ⟨⟨_,rfl⟩,q,rfl⟩
 obtain ⟨p,cap,rfl,-,-⟩:=ay.open h;clear h ha
 go_enter Tryz.func193,Tryz.ntmps193
 go_wp2_with fail;refine HB.out.mono ?_;rintro e w' ⟨⟨c,rfl⟩,q,rfl⟩;go_wp2_with fail;go_ret;exact ⟨aV (by simp),q,rfl⟩
theorem S5 (w:World) (p:Option Addr) (n c:Nat):Calls Tryz.prog 134 #[.slice p n c] w fun e w'=>e=.returned (.func (.func 193) #[] #[.pointer (some ⟨w.heap.size,0,none⟩)])/\w'=w.alloc (.cells #[.slice p n c] 26):=by
 go_enter Tryz.func134,Tryz.ntmps134
 go_wp2_with fail
 go_ret
 exact ⟨rfl,rfl⟩
theorem AL (S:Nat->Prop) (w:World) (v:Value) (n:Int) (l:List Int) (h:ah S w v l) (hn:l.length<=1000000) :
  Calls Tryz.prog 65 #[.int .i64 n,v] w fun e w'=>e=.returned (.int .i64 (cM n l))/\w=w':=by
 have HF:Hid (cM n l=if n<1\/32<n then 2 else if zu l≠0 then zu l else if 0<l.length/\(gi l 0=0\/n<=gi l (l.length - 1)) then 2 else if (l.length:Int)<2\/n - 2<l.length then 8 else 0):=rfl;have HC:=aa (AK S w v l h hn);obtain ⟨p,cap,rfl,-,-⟩:=ay.open h;have H:Hid (ah S w (.slice p l.length cap) l):=h;clear h;by_cases h1:n<1
 ·go_enter Tryz.func65,Tryz.ntmps65
  go_wp2_with fail;go_ret;exact ⟨aM (by rw [HF.out,if_pos (.inl h1)]),rfl⟩
 by_cases h2:32<n
 ·go_enter Tryz.func65,Tryz.ntmps65
  go_wp2_with fail;go_ret;exact ⟨aM (by rw [HF.out,if_pos (.inr h2)]),rfl⟩
 have HN:Hid (¬(n<1\/32<n)):=by unfold Hid;omega
 generalize Ho:zu l=se at *;by_cases h3:se=0
 ·have wH:Hid (¬se≠0):=fun e=>e h3
  subst h3;have hm2:wrap64 (n - 2)=n - 2:=by unfold wrap64;omega
  by_cases h0:l.length=0
  ·have Nc:((l.length:Int)<2):=by omega
   (have ZN:¬(0:Int)<(l.length:Int):=by omega);(have h02:¬0<l.length:=by omega);clear h0
   go_enter Tryz.func65,Tryz.ntmps65
   go_wp2_with fail;refine HC.out.mono ?_;rintro e w' ⟨rfl,rfl⟩;go_wp2_with fail;go_ret;exact ⟨aM (by rw [HF.out,if_neg HN.out,if_neg wH.out,if_neg (by omega),if_pos (.inl Nc)]),rfl⟩
  ·obtain ⟨b,off,rfl,hc⟩:=dG H.out (show 0<l.length by omega)
   obtain ⟨b2,off2,e2,hd⟩:=dG H.out (show l.length - 1<l.length by omega);cases e2;rw [jZ] at hc;(have i0:0<l.length:=by omega);(have i00:(0:Int)<(l.length:Int):=by omega);(have i1:(0:Int)<=(l.length:Int) - 1:=by omega);(have i2:(l.length:Int) - 1<(l.length:Int):=by omega);(have i3:((l.length:Int) - 1).toNat=l.length - 1:=by omega);(have i4:wrap64 ((l.length:Int) - 1)=(l.length:Int) - 1:=by unfold wrap64;omega);generalize gi l 0=x at *;generalize gi l (l.length - 1)=y at *;by_cases h4:x=0
   ·subst h4
    go_enter Tryz.func65,Tryz.ntmps65
    go_wp2_with fail;refine HC.out.mono ?_;rintro e w' ⟨rfl,rfl⟩;go_wp2_with fail;go_ret;exact ⟨aM (by rw [HF.out,if_neg HN.out,if_neg wH.out,if_pos ⟨i0,.inl (by simp)⟩]),rfl⟩
   (have h4b:(x==0)=false:=by simpa using h4);by_cases h5:n<=y
   ·go_enter Tryz.func65,Tryz.ntmps65
    go_wp2_with fail;refine HC.out.mono ?_;rintro e w' ⟨rfl,rfl⟩;go_wp2_with fail;go_ret;exact ⟨aM (by rw [HF.out,if_neg HN.out,if_neg wH.out,if_pos ⟨i0,.inr h5⟩]),rfl⟩
   have HQ:Hid (¬(0<l.length/\(x=0\/n<=y))):=fun e=>by
    rcases e.2 with e | e
    ·exact h4 e
    ·exact h5 e
   by_cases h6:(l.length:Int)<2
   ·go_enter Tryz.func65,Tryz.ntmps65
    go_wp2_with fail;refine HC.out.mono ?_;rintro e w' ⟨rfl,rfl⟩;go_wp2_with fail;go_ret;exact ⟨aM (by rw [HF.out,if_neg HN.out,if_neg wH.out,if_neg HQ.out,if_pos (.inl h6)]),rfl⟩
   by_cases h7:n - 2<(l.length:Int)
   ·go_enter Tryz.func65,Tryz.ntmps65
    go_wp2_with fail;refine HC.out.mono ?_;rintro e w' ⟨rfl,rfl⟩;go_wp2_with fail;go_ret;exact ⟨aM (by rw [HF.out,if_neg HN.out,if_neg wH.out,if_neg HQ.out,if_pos (.inr h7)]),rfl⟩
   ·go_enter Tryz.func65,Tryz.ntmps65
    go_wp2_with fail;refine HC.out.mono ?_;rintro e w' ⟨rfl,rfl⟩;go_wp2_with fail;go_ret;exact ⟨aM (by rw [HF.out,if_neg HN.out,if_neg wH.out,if_neg HQ.out,if_neg (by omega)]),rfl⟩
 ·have mz:(se==0)=false:=by simpa using h3
  have hsc:(se != 0)=true:=by simpa using h3
  go_enter Tryz.func65,Tryz.ntmps65
  go_wp2_with fail;refine HC.out.mono ?_;rintro e w' ⟨rfl,rfl⟩;go_wp2_with fail;go_ret;exact ⟨aM (by rw [HF.out,if_neg HN.out,if_pos h3]),rfl⟩
end
section
open Go.RowKit Go.Shelf Go.Deep
attribute [local go_sem] y5
theorem Mm (p:Int->Bool) (k:Nat):∀ {N:Nat},k<=N->iG p k <+: iG p N
 | 0,h=>by rw [show k=0 by omega];exact List.prefix_refl _
 | N+1,h=>by
  by_cases e:k=N+1
  ·rw [e];exact List.prefix_refl _
  ·refine (Mm p k (N:=N) (by omega)).trans ?_
   rw [Dq];exact List.prefix_append _ _
theorem X6 (n l B1 B2:Nat) (T:Nat->Prop) (N:Nat) (hN:N<=64) (p:Int->Bool) (gf:Nat) (ZO:Array Value) (eg:∀args w,(callFunc gf args).run Tryz.prog w=.ok (.enter gf args) w) (J Jx:List Int->World->Prop)
  (hY:∀pre x W,J pre W->pre.length<(iG p N).length->YieldAt Fence.wide (n - 1) Tryz.prog l #[.int .i64 x] W fun e W' =>
   (e=.returned (.bool true)/\J (pre++[x]) W'/\KS T W W')\/(e=.returned (.bool false)/\Jx (pre++[x]) W'))
  (W:World) (Qi:AbidesFrom W.heap.size J) (hc1:W.cell? ⟨B1,0,none⟩=some (.int .i64 (N:Int))) (hc2:W.cell? ⟨B2,0,none⟩=some (.func (.func gf) #[] ZO)) (_:T B1) (V6:T B2)
  (hIs:∀k:Nat,k<N->∀W',KS T W W'->CallsIn Fence.wide (n - 1) Tryz.prog gf (#[.int .i64 k]++ZO) W' fun e w'=>e=.returned (.bool (p k))/\∃q,w'=W'.drewN q) (h0:J [] W) :
  CallsIn Fence.wide n Tryz.prog 196 #[.func (.yield l) #[] #[],.pointer (some ⟨B1,0,none⟩),.pointer (some ⟨B2,0,none⟩)] W fun e W'=>(∃v,e=.returned v)/\(J (iG p N) W'\/∃pre,pre <+: iG p N/\Jx pre W'):=by
 have HJA:=aa Qi;have HY:=aa hY;have HIS:=aa hIs;have uT:=aa hc2;clear Qi hY hIs;refine callsIn_of_wp Tryz.func196 rfl trivial ?_ rfl;simp only [Tryz.ntmps196,eW,aT,dO,Nat.reduceAdd,Nat.reduceSub,ji,jk,eV,ve,cH,cr];gi_wp2;clear hc1 hc2
 gi_loopw [4,6] (fun _ i wr=>∃(k:Nat),k<=N/\i=.int .i64 k/\Hid (J (iG p k) wr)/\Hid (KS T W wr)) (fun _ i _=>N - (intOf i).toNat)
 case atStart=>exact ⟨0,aL _,rfl,h0,KS.refl _ _⟩
 case round =>
  obtain ⟨k,hk,rfl,hJ,hbr⟩:=hrel;by_cases hlt:k<N
  ·have hc2:=(hbr.out.cell (p:=⟨B2,0,none⟩) V6).trans uT.out
   have jq:=aa (HIS.out k hlt wr hbr.out);have HS:=aa (Dq p k);(have fN:Hid (p k=true->(iG p k).length<(iG p N).length):=fun e=>by have h1:=(Mm p (k+1) (N:=N) (by omega)).length_le;rw [Dq,if_pos e,aZ] at h1;simp at h1;omega);have hfn:Fence.wide.fn gf:=trivial;(have k1:(k:Int)<64:=by omega);gi_wp2;refine ⟨fun h=>(by cases h),?_⟩;refine jq.out.mono ?_;rintro e W2 ⟨rfl,q,rfl⟩;have hJ2:Hid (J (iG p k) (wr.drewN q)):=HJA.out _ wr _ none hJ.out ⟨rfl,rfl,rfl,af _,fun _ _ _=>rfl⟩ (fun r e=>by cases e)
   have hb2:Hid (KS T W (wr.drewN q)):=hbr.out.drewN q;clear hc2 jq;cases hp:p k
   ·have oQ:Hid (iG p (k+1)=iG p k):=by unfold Hid;rw [HS.out,hp];simp
    clear hp;gi_wp2;rename_i hkk _ _ _ _;refine ⟨fun f h=>(by cases h),hkk _ _ ?_⟩;gi_wp2
    go_roundw
    case rel=>exact ⟨k+1,hlt,by go_num,by rw [oQ.out];exact hJ2,hb2⟩
    case measure=>simp [intOf];omega
   ·have oQ:Hid (iG p (k+1)=iG p k++[(k:Int)]):=by unfold Hid;rw [HS.out,hp];simp
    obtain ⟨fn,tmps,assign,body,hy,hR⟩:=HY.out (iG p k) k (wr.drewN q) hJ2.out (fN.out hp);clear hp;gi_wp2;refine ⟨fun h=>(by cases h),?_⟩;refine hR.mono ?_;rintro e W3 dD;obtain ⟨bb,rfl,hq⟩:=Tl dD;cases bb
    ·have y6:Jx (iG p k++[(k:Int)]) W3:=by
      rcases hq.out with ⟨h1,_⟩ | h2
      ·cases h1
      ·exact h2.2
     gi_wp2
     refine bodyPost_ret (results_none rfl _ _ _) rfl ?_
     exact ⟨⟨_,rfl⟩,.inr ⟨_,by rw [<- oQ.out];exact Mm p (k+1) (by omega),y6⟩⟩
    ·have y6:J (iG p k++[(k:Int)]) W3/\KS T (wr.drewN q) W3:=by
      rcases hq.out with h2 | ⟨h1,_⟩
      ·exact h2.2
      ·cases h1
     gi_wp2
     go_roundw
     case rel=>exact ⟨k+1,hlt,by go_num,by rw [oQ.out];exact y6.1,hb2.out.trans y6.2⟩
     case measure=>simp [intOf];omega
  ·gi_wp2
   go_end0
   (obtain rfl:k=N:=by omega);exact ⟨⟨_,rfl⟩,.inl hJ.out⟩
end
section
open Go.RowKit Go.Shelf Go.Deep
theorem V7 (w : World) (g : Nat) (lb : Array Value) (eg : ∀ args w, (callFunc g args).run Tryz.prog w = .ok (.enter g args) w) (xs : List Int)
    (hseq : ∀ w6, Up w w6 -> SeqStopsK Fence.wide 8 Tryz.prog g lb (fun x : Int => #[Value.int .i64 x]) (KS (· < w.heap.size)) (fun l => l = xs) (fun pre => pre <+: xs) xs.length w6) (hlen : xs.length <= 1000000) :
    Calls Tryz.prog 195 #[.slice none 0 0, .func (.func g) #[] lb] w (E9 w xs) := by
  refine (callsIn_wide (n := 9)).1 ?_
  refine callsIn_of_wp_marks Tryz.func195 rfl trivial ?_
  simp only [Tryz.ntmps195, eW, aT, dO, Nat.reduceAdd, Nat.reduceSub, ji, jk, eV, ve, cH, cr]
  gi_wp2_with fail
  have dL : Up w (w.alloc (.cells #[.slice none 0 0] 26)) := Up.alloc _ _
  have hz6 : (w.alloc (.cells #[.slice none 0 0] 26)).heap.size = w.heap.size + 1 := by simp
  have hx6 := mV w (.cells #[.slice none 0 0] 26)
  generalize w.alloc (.cells #[.slice none 0 0] 26) = w6 at *
  apply wpIn_rangeFunc_ownG (F := Fence.wide) (n := 9) (P := Tryz.prog) (ps := #[7]) (w := w6) rfl (by omega) (gf := g) (lb := lb) rfl trivial eg
    (hseq w6 dL)
    (fun h k => KS.trans h k) (fun W l o o' hl ho hc _ => fun b (hb : b < w.heap.size) => nT (by omega)) (dM _ _) (fun _ => (rfl : (1 : Nat) = 1))
    (RR w) (fun _ _ _ => False)
  · exact RR.own w (by omega)
  · exact fun _ _ _ _ _ h _ _ => h
  · exact ⟨dL, by omega, _, hx6, ax.nil _ _ _⟩
  · intro l x W K hK
    gi_wp2_with (rw [iJ _ _ _ (fun c h => by cases h)]; go_simp; try go_bits)
    exact hK
  · rintro l pre x W ⟨kJ, hsz, v, jF, hown⟩ hpl
    have hb0 : W.cell? ⟨w.heap.size, 0, none⟩ = some v := by simp [World.cell?, jF]
    have KI : ∀ w', KS (· < w.heap.size + 1) W w' -> w'.cell? ⟨w.heap.size, 0, none⟩ = some v /\ ∀ o, w'.frozen? ⟨w.heap.size, o, none⟩ = false := fun w' hS => by
      have h1 := (hS w.heap.size (pI _)).trans jF
      exact ⟨by simp [World.cell?, h1], fun o => by simp [World.frozen?, h1]⟩
    have hpl2 : pre.length <= 1000000 := by omega
    clear hx6
    have HF0 := aa KI
    have r4 : Hid (∀ We v', ax (w.heap.size + 1) 3 We v' (pre.map (Value.int .i64) ++ [.int .i64 x]) -> (W.alloc (.cells #[.int .i64 x] 3)).grownBy We v.ownBlock -> KeepsFrom (w.heap.size + 1) W (We.setCell ⟨w.heap.size, 0, none⟩ v') /\ KS (· < w.heap.size) W (We.setCell ⟨w.heap.size, 0, none⟩ v') /\ RR w (pre ++ [x]) (We.setCell ⟨w.heap.size, 0, none⟩ v')) :=
      fun We v' => RR.next kJ hsz jF hown
    have HLO : Hid (∀ We, (W.alloc (.cells #[.int .i64 x] 3)).grownBy We v.ownBlock -> KS (· < w.heap.size + 1) W We) := fun We hg b (hb : b < w.heap.size + 1) => (hg.block b (by rw [aQ]; show b < W.heap.size + 1; omega) (fun e => by have := (av hown e.symm).1; omega)).trans (Hr W _ b (by show b < W.heap.size; omega))
    obtain ⟨i0, hi, hz0, hz1, hz2⟩ := info_parts Tryz.kE
    have Cr : W.ownsRow (w.heap.size + 1) 3 1 v pre.length (pre.map (Value.int .i64)) := by have h := hown; unfold ax at h; rwa [aG] at h
    obtain ⟨q1, q2⟩ := KI W (KS.refl _ _)
    clear KI kJ jF hown hb0
    gi_wp2_with (first
      | (gi_at_builtin; refine wpListIn_append_own _ rfl _ _ 26 rfl (w.heap.size + 1) 3 i0 (.int .i64 0) 1 8 Tryz.underlying26 hi hz0 hz1 hz2 rfl (by decide) _ _ _ rfl (Cr.alloc _) ⟨W.heap.size, 0, none⟩ 1 1 [.int .i64 x] rfl rfl (cell_one_new _ _ _) (by simp [Value.oneCell']) (by unfold maxLen; omega) (by omega) (by rw [aQ]; omega) ?_; intro v' w3 hown' hg3 hnil3
         have how3 : ax (w.heap.size + 1) 3 w3 v' (pre.map (Value.int .i64) ++ [.int .i64 x]) := by unfold ax; rw [aZ, aG]; exact hown'
         obtain ⟨vp, vc, rfl, _⟩ := how3.form (n := pre.length + 1) (by simp)
         have jr := aa (r4.out w3 _ how3 hg3)
         obtain ⟨q3, q4⟩ := HF0.out w3 (HLO.out w3 hg3)
         clear hown' hg3 hnil3 how3 q1 q2 r4 HLO HF0 Cr)
      | (rw [iJ _ _ _ (fun c h => by cases h)]; go_simp; try go_bits))
    have eU := jr.out
    rw [hz6]
    exact eU
  · rintro D ys W hD rfl ⟨kJ, hsz, v, jF, hown⟩ hK
    have hb0 : W.cell? ⟨w.heap.size, 0, none⟩ = some v := by simp [World.cell?, jF]
    gi_wp2_with fail
    have hq : ∀ b, b ≠ D -> (W.putObj D (.deferred none)).heap[b]? = W.heap[b]? := fun b hb => nT hb
    refine ⟨by simp, .inl ⟨_, _, rfl, run_takeDeferred hK, ?_⟩⟩
    refine ⟨v, by simp [results, Tryz.results195, go_sem], ⟨kJ.os, kJ.tape, kJ.output, by have h := kJ.size; simpa using h, fun b hb => (hq b (by omega)).trans (kJ.block b hb)⟩, v, rfl, ?_⟩
    refine ax.mono_baseZ (hown.AA fun b hb => hq b (fun e => ?_)) (lz _)
    obtain ⟨c, hc⟩ := hown.mC hb
    subst e; rw [hK] at hc; cases hc
  · rintro D c pre W _ _ h _
    exact h.elim
theorem Jy (w:World) (n:Int) (g:Nat) (lb:Array Value) :
  Calls Tryz.prog 136 #[.int .i64 n,.func (.func g) #[] lb] w fun e w'=>e=.returned (.func (.func 196) #[] #[.pointer (some ⟨w.heap.size,0,none⟩),.pointer (some ⟨w.heap.size+1,0,none⟩)])/\w'=(w.alloc (.cells #[.int .i64 n] 3)).alloc (.cells #[.func (.func g) #[] lb] 85):=by
 go_enter Tryz.func136,Tryz.ntmps136
 go_wp2_with fail
 go_ret
 exact ⟨by simp,rfl⟩
theorem OC (w:World) (B1 B2 N:Nat) (hN:N<=64) (p:Int->Bool) (gf:Nat) (ZO:Array Value) (eg:∀args w,(callFunc gf args).run Tryz.prog w=.ok (.enter gf args) w)
  (hc1:w.cell? ⟨B1,0,none⟩=some (.int .i64 (N:Int))) (hc2:w.cell? ⟨B2,0,none⟩=some (.func (.func gf) #[] ZO))
  (hIs:∀k:Nat,k<N->∀W',KS (· < w.heap.size) w W'->Calls Tryz.prog gf (#[.int .i64 k]++ZO) W' fun e w'=>e=.returned (.bool (p k))/\∃q,w'=W'.drewN q) :
  Calls Tryz.prog 135 #[.func (.func 196) #[] #[.pointer (some ⟨B1,0,none⟩),.pointer (some ⟨B2,0,none⟩)]] w (E9 w (iG p N)):=by
 have hB1:B1<w.heap.size:=eG w _ hc1;have Yw:B2<w.heap.size:=eG w _ hc2
 have HA:=aa (V7 w 196 #[.pointer (some ⟨B1,0,none⟩),.pointer (some ⟨B2,0,none⟩)] (enters_of Tryz.func196 (by kernel_rfl) rfl) (iG p N) (fun w6 dL l J Jx W hW hJ _ hY h0=>by
  have hks:KS (· < w.heap.size) w W:=fun b hb=>(hW.block b (by have:=dL.size;have:b<w.heap.size:=hb;omega)).trans (bI dL b hb)
  exact (X6 8 l B1 B2 (· < w.heap.size) N hN p gf ZO eg J Jx hY W hJ ((hks.cell (p:=⟨B1,0,none⟩) hB1).trans hc1) ((hks.cell (p:=⟨B2,0,none⟩) Yw).trans hc2) hB1 Yw (fun k hk W' pM=>callsIn_wide.2 (hIs k hk W' (hks.trans pM))) h0).mono fun _ _ ⟨h1,h2⟩=>⟨h1,h2.imp (fun h=>⟨_,rfl,h⟩) id⟩) (by have:=rS p N;omega))
 go_enter Tryz.func135,Tryz.ntmps135
 go_wp2_with fail;refine HA.out.mono ?_;rintro e w1 ⟨hu,v,rfl,ho⟩;go_wp2_with fail;go_ret;exact ⟨hu,v,rfl,ho⟩
theorem compl1_t (S:Nat->Prop) (w:World) (b6 b1:Nat) (v:Value) (l:List Int) (k:Int) (h6:w.cell? ⟨b6,0,none⟩=some (.func (.func 193) #[] #[.pointer (some ⟨b1,0,none⟩)])) (hb:w.cell? ⟨b1,0,none⟩=some v) (h:ah S w v l) (hn:l.length<=1000000) (ha:l.Pairwise (· < ·)) :
  Calls Tryz.prog 137 #[.int .i64 k,.pointer (some ⟨b6,0,none⟩)] w fun e w'=>e=.returned (.bool (!l.contains k))/\∃q,w'=w.drewN q:=by
 have HC:=aa (V5 S w b1 v l k hb h hn ha);clear hb h ha
 go_enter Tryz.func137,Tryz.ntmps137
 go_wp2_with fail;refine HC.out.mono ?_;rintro e w' ⟨rfl,q,rfl⟩;go_wp2_with fail;go_ret;exact ⟨aV (by simp),q,rfl⟩
theorem inter1_t (S:Nat->Prop) (w:World) (b5 b8 b9 c1 c2:Nat) (v u:Value) (l m:List Int) (k:Int) (h5:w.cell? ⟨b5,0,none⟩=some (.func (.func 214) #[] #[])) (h8:w.cell? ⟨b8,0,none⟩=some (.func (.func 193) #[] #[.pointer (some ⟨c1,0,none⟩)])) (h9:w.cell? ⟨b9,0,none⟩=some (.func (.func 193) #[] #[.pointer (some ⟨c2,0,none⟩)]))
  (hb:w.cell? ⟨c1,0,none⟩=some v) (h:ah S w v l) (hn:l.length<=1000000) (ha:l.Pairwise (· < ·)) (hb2:w.cell? ⟨c2,0,none⟩=some u) (h2:ah S w u m) (hn2:m.length<=1000000) (ha2:m.Pairwise (· < ·)) :
  Calls Tryz.prog 258 #[.int .i64 k,.pointer (some ⟨b5,0,none⟩),.pointer (some ⟨b8,0,none⟩),.pointer (some ⟨b9,0,none⟩)] w fun e w'=>e=.returned (.bool (l.contains k&&m.contains k))/\∃q,w'=w.drewN q:=by
 have HC:Hid (∀n,Calls Tryz.prog 193 #[.int .i64 k,.pointer (some ⟨c1,0,none⟩)] (w.drewN n) fun e w'=>e=.returned (.bool (l.contains k))/\∃q,w'=w.drewN q):=fun n=>by have hu:=Up.drewN w n;refine (V5 S _ c1 v l k (hu.cell hb) (ah.keep h (hu.kept _)) hn ha).mono ?_;rintro e w' ⟨rfl,q,rfl⟩;exact ⟨rfl,n+q,by rw [wS]⟩
 have HD:Hid (∀n,Calls Tryz.prog 193 #[.int .i64 k,.pointer (some ⟨c2,0,none⟩)] (w.drewN n) fun e w'=>e=.returned (.bool (m.contains k))/\∃q,w'=w.drewN q):=fun n=>by have hu:=Up.drewN w n;refine (V5 S _ c2 u m k (hu.cell hb2) (ah.keep h2 (hu.kept _)) hn2 ha2).mono ?_;rintro e w' ⟨rfl,q,rfl⟩;exact ⟨rfl,n+q,by rw [wS]⟩
 have HE:Hid (∀x y n,Calls Tryz.prog 214 #[.bool x,.bool y] (w.drewN n) fun e w'=>e=.returned (.bool (x&&y))/\∃q,w'=w.drewN q):=fun x y n=>by
  cases x
  ·go_enter Tryz.func214,Tryz.ntmps214
   go_wp2_with fail;go_ret;exact ⟨rfl,n,rfl⟩
  ·go_enter Tryz.func214,Tryz.ntmps214
   go_wp2_with fail;go_ret;exact ⟨rfl,n,rfl⟩
 clear hb h ha hb2 h2 ha2;generalize l.contains k=x at *;generalize m.contains k=y at *
 go_enter Tryz.func258,Tryz.ntmps258
 go_wp2_with fail;go_big_quiet (first | with_reducible exact HC.out _ | with_reducible exact HD.out _ | with_reducible exact HE.out _ _ _)
 go_wp2_with fail;go_ret;exact ⟨rfl,_,rfl⟩
theorem wI (w:World) (x y:Value) (T U:TypeId):Up w ((w.alloc (.cells #[x] T)).alloc (.cells #[y] U))/\((w.alloc (.cells #[x] T)).alloc (.cells #[y] U)).cell? ⟨w.heap.size,0,none⟩=some x/\((w.alloc (.cells #[x] T)).alloc (.cells #[y] U)).cell? ⟨w.heap.size+1,0,none⟩=some y:=by
 have bA:=Up.alloc w (.cells #[x] T);have h1:=nW w x T;have hs:(w.alloc (.cells #[x] T)).heap.size=w.heap.size+1:=by simp
 have aK:=Up.alloc (w.alloc (.cells #[x] T)) (.cells #[y] U);have h2:=nW (w.alloc (.cells #[x] T)) y U;rw [hs] at h2;exact ⟨bA.trans aK,aK.cell h1,h2⟩
theorem V8 (S:Nat->Prop) (w:World) (v:Value) (N:Nat) (a:List Int) (hN:N<=64) (h:ah S w v a) (ha:qc a) (hb:∀x∈a,x<(N:Int)) (hl:a.length<=1000000) :
  Calls Tryz.prog 86 #[.int .i64 (N:Int),v] w fun e w'=>Up w w'/\∃u,e=.returned (.tuple #[u,.int .i64 0])/\ax w.heap.size 3 w' u ((dZ N a).map (Value.int .i64)):=by
 have HC:=aa (AK S w v a h hl);rw [uW.2 ha] at HC;have qT:Hid (dZ N a=iG (fun x=>!a.contains x) N):=by unfold Hid dZ;rw [cZ]
 obtain ⟨p,cap,rfl,-,-⟩:=ay.open h;have H:Hid (ah S w (.slice p a.length cap) a):=h;have HA:=aa ha;have n0:¬(N:Int)<0:=by omega
 have n1:¬(64:Int)<(N:Int):=by omega
 have bA:=Up.alloc w (.cells #[.slice p a.length cap] 26);have hb1:=nW w (.slice p a.length cap) 26;have hw1:(w.alloc (.cells #[.slice p a.length cap] 26)).heap.size=w.heap.size+1:=by simp
 have VT:=aa (⟨bA,hb1,hw1⟩:Up w (w.alloc (.cells #[.slice p a.length cap] 26))/\(w.alloc (.cells #[.slice p a.length cap] 26)).cell? ⟨w.heap.size,0,none⟩=some (.slice p a.length cap)/\(w.alloc (.cells #[.slice p a.length cap] 26)).heap.size=w.heap.size+1);clear h ha bA hb1 hw1;have HB:Hid (a.length=0\/0<a.length/\∃b off,p=some ⟨b,off,none⟩/\w.cell? ⟨b,off+(a.length - 1),none⟩=some (.int .i64 (gi a (a.length - 1)))/\gi a (a.length - 1)<N):=by
  by_cases h0:a.length=0
  ·exact .inl h0
  ·obtain ⟨b,off,e,hc⟩:=dG H.out (show a.length - 1<a.length by omega)
   exact .inr ⟨by omega,b,off,e,hc,hb _ (gi_in (by omega))⟩
 clear hb
 have REST:Hid (∀w3 B1 B2 b6,Up w w3->w3.cell? ⟨B1,0,none⟩=some (.int .i64 (N:Int))->w3.cell? ⟨B2,0,none⟩=some (.func (.func 137) #[] #[.pointer (some ⟨b6,0,none⟩)])->w3.cell? ⟨b6,0,none⟩=some (.func (.func 193) #[] #[.pointer (some ⟨w.heap.size,0,none⟩)])->w3.cell? ⟨w.heap.size,0,none⟩=some (.slice p a.length cap) ->
   Calls Tryz.prog 135 #[.func (.func 196) #[] #[.pointer (some ⟨B1,0,none⟩),.pointer (some ⟨B2,0,none⟩)]] w3 (E9 w3 (dZ N a))):=fun w3 B1 B2 b6 hu c1 c2 c6 cw=>by
  rw [qT.out]
  have hks:∀W',KS (· < w3.heap.size) w3 W'->∀b o x,w3.cell? ⟨b,o,none⟩=some x->W'.cell? ⟨b,o,none⟩=some x:=fun W' hW b o x hc=>(hW.cell (p:=⟨b,o,none⟩) (eG w3 _ hc)).trans hc
  refine OC w3 B1 B2 N hN (fun x=>!a.contains x) 137 _ (enters_of Tryz.func137 (by kernel_rfl) rfl) c1 c2 fun k hk W' pM=>?_
  refine compl1_t (· < w3.heap.size) W' b6 w.heap.size _ a k (hks W' pM _ _ _ c6) (hks W' pM _ _ _ cw) ?_ hl HA.out.xD
  exact ay.keep (ah.sub (ah.keep H.out (hu.kept _)) fun b _ hb=>hb) fun b hb _=>pM b hb
 have FIN:Hid (∀w3 e w',Up w w3->E9 w3 (dZ N a) e w'->∃u,e=.returned u/\Up w w'/\ax w.heap.size 3 w' u ((dZ N a).map (Value.int .i64))):=fun w3 e w' hu ⟨h1,u,he,h2⟩=>⟨u,he,hu.trans h1,by
  obtain ⟨hl,h | ⟨g,cap,cur,hv,hg,hc,hr⟩⟩:=h2
  ·exact ⟨hl,.inl h⟩
  ·exact ⟨hl,.inr ⟨g,cap,cur,hv,aJ hu.size hg,hc,hr⟩⟩⟩
 have K:Hid (∀w1 b1,b1=w.heap.size->w1=w.alloc (.cells #[.slice p a.length cap] 26)->Up w (w1.alloc (.cells #[.func (.func 193) #[] #[.pointer (some ⟨b1,0,none⟩)]] 85)) /\
   (w1.alloc (.cells #[.func (.func 193) #[] #[.pointer (some ⟨b1,0,none⟩)]] 85)).cell? ⟨w1.heap.size,0,none⟩=some (.func (.func 193) #[] #[.pointer (some ⟨w.heap.size,0,none⟩)]) /\
   (w1.alloc (.cells #[.func (.func 193) #[] #[.pointer (some ⟨b1,0,none⟩)]] 85)).cell? ⟨w.heap.size,0,none⟩=some (.slice p a.length cap)):=fun w1 b1 e1 e2=>by
  subst e1
  subst e2
  obtain ⟨k1,k2,k3⟩:=VT.out
  have q1:=Up.alloc (w.alloc (.cells #[.slice p a.length cap] 26)) (.cells #[.func (.func 193) #[] #[.pointer (some ⟨w.heap.size,0,none⟩)]] 85)
  have q2:=nW (w.alloc (.cells #[.slice p a.length cap] 26)) (.func (.func 193) #[] #[.pointer (some ⟨w.heap.size,0,none⟩)]) 85
  exact ⟨k1.trans q1,q2,q1.cell k2⟩
 rcases HB.out with h0 | ⟨i01,b,off,rfl,hc,hlt⟩
 ·have ZN:¬(0:Int)<(a.length:Int):=by omega
  have h02:¬0<a.length:=by omega
  clear h0
  go_enter Tryz.func86,Tryz.ntmps86
  go_wp2_with fail;refine HC.out.mono ?_;rintro e w' ⟨rfl,rfl⟩;go_wp2_with fail;refine (S5 _ _ _ _).mono ?_;rintro e w1 ⟨rfl,hw1⟩;obtain ⟨k1,k2,k3⟩:=K.out w1 _ rfl hw1;have Nr:=aa k1;have xz:=aa k2;have TI:=aa k3;clear hw1 k1 k2 k3 K;go_wp2_with fail;generalize w1.alloc (.cells #[.func (.func 193) #[] #[.pointer (some ⟨w.heap.size,0,none⟩)]] 85)=w2 at *;refine (Jy _ _ _ _).mono ?_;rintro e w3 ⟨rfl,hw3⟩;obtain ⟨m1,m2,m3⟩:=wI w2 (.int .i64 (N:Int)) (.func (.func 137) #[] #[.pointer (some ⟨w1.heap.size,0,none⟩)]) 3 85;rw [<- hw3] at m1 m2 m3
  have eo:Hid (Up w w3):=Nr.out.trans m1;have HR:=aa (REST.out w3 _ _ _ eo.out m2 m3 (m1.cell xz.out) (m1.cell TI.out));clear hw3 m1 m2 m3 Nr xz TI;go_wp2_with fail;refine HR.out.mono ?_;rintro e w4 hp;obtain ⟨u,rfl,h4,h5⟩:=FIN.out w3 e w4 eo.out hp;have H4:=aa h4;have H5:=aa h5;clear hp h4 h5;go_wp2_with fail;exact ⟨rfl,.tuple #[_,_],by simp [results,Tryz.results86,go_sem],H4.out,_,rfl,H5.out⟩
 ·have i0:(0:Int)<(a.length:Int):=by omega
  have i1:(0:Int)<=(a.length:Int) - 1:=by omega
  have i2:(a.length:Int) - 1<(a.length:Int):=by omega
  have i3:((a.length:Int) - 1).toNat=a.length - 1:=by omega
  have i4:wrap64 ((a.length:Int) - 1)=(a.length:Int) - 1:=by unfold wrap64;omega
  have i5:¬(N:Int)<=gi a (a.length - 1):=by omega
  clear hlt;generalize gi a (a.length - 1)=y at *
  go_enter Tryz.func86,Tryz.ntmps86
  go_wp2_with fail;refine HC.out.mono ?_;rintro e w' ⟨rfl,rfl⟩;go_wp2_with fail;refine (S5 _ _ _ _).mono ?_;rintro e w1 ⟨rfl,hw1⟩;obtain ⟨k1,k2,k3⟩:=K.out w1 _ rfl hw1;have Nr:=aa k1;have xz:=aa k2;have TI:=aa k3;clear hw1 k1 k2 k3 K;go_wp2_with fail;generalize w1.alloc (.cells #[.func (.func 193) #[] #[.pointer (some ⟨w.heap.size,0,none⟩)]] 85)=w2 at *;refine (Jy _ _ _ _).mono ?_;rintro e w3 ⟨rfl,hw3⟩;obtain ⟨m1,m2,m3⟩:=wI w2 (.int .i64 (N:Int)) (.func (.func 137) #[] #[.pointer (some ⟨w1.heap.size,0,none⟩)]) 3 85;rw [<- hw3] at m1 m2 m3
  have eo:Hid (Up w w3):=Nr.out.trans m1;have HR:=aa (REST.out w3 _ _ _ eo.out m2 m3 (m1.cell xz.out) (m1.cell TI.out));clear hw3 m1 m2 m3 Nr xz TI;go_wp2_with fail;refine HR.out.mono ?_;rintro e w4 hp;obtain ⟨u,rfl,h4,h5⟩:=FIN.out w3 e w4 eo.out hp;have H4:=aa h4;have H5:=aa h5;clear hp h4 h5;go_wp2_with fail;exact ⟨rfl,.tuple #[_,_],by simp [results,Tryz.results86,go_sem],H4.out,_,rfl,H5.out⟩
end
end Go.Proofs.YthgabkgmkolobaaGreat
