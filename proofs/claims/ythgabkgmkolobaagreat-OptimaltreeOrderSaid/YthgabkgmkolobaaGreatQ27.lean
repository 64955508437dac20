/- The contract of layer 31's reference's SameTree, at trees that are the same. The example .. -/
import Derived.Shelf.Strings.IndexAnyAll
import Derived.Test.YthgabkgmkolobaaGreatQ26
set_option maxRecDepth 100000
set_option maxHeartbeats 2000000
namespace Go.Proofs.YthgabkgmkolobaaGreat
section
open Go.RowKit Go.Deep
theorem Hl (S T:Nat->Prop) (w:World) (v u:Value) (t:aF) (h:aC S w v t) (h2:aC T w u t) (hp:t.ps.length<=1000000) (hn:t.ns.length<=1000000) :
  Calls Tryz.prog 37 #[v,u] w fun e w'=>e=.returned (.bool true)/\Up w w':=by
 obtain ⟨P,N,rfl,hP,hN⟩:=h;obtain ⟨P2,N2,rfl,jw,jx⟩:=h2;obtain ⟨pp,pc,rfl,_,_⟩:=aA.open hP;obtain ⟨np,nc,rfl,_,_⟩:=aA.open hN;obtain ⟨th,tj,rfl,_,_⟩:=aA.open jw;obtain ⟨tq,tr,rfl,_,_⟩:=aA.open jx;have hP:ay S w (.slice pp t.ps.length pc) t.ps:=hP;have hN:av S w (.slice np t.ns.length nc) t.ns:=hN;have jw:ay T w (.slice th t.ps.length tj) t.ps:=jw;have jx:av T w (.slice tq t.ns.length tr) t.ns:=jx;have bw:=Up.alloc w (.cells #[.slice pp t.ps.length pc,.slice np t.ns.length nc] 39)
 have aJ:=Up.alloc (w.alloc (.cells #[.slice pp t.ps.length pc,.slice np t.ns.length nc] 39)) (.cells #[.slice th t.ps.length tj,.slice tq t.ns.length tr] 39);have hu:=bw.trans aJ;have a0:=aJ.cell (fO w (.slice pp t.ps.length pc) (.slice np t.ns.length nc) 39);have a1:=aJ.cell (fP w (.slice pp t.ps.length pc) (.slice np t.ns.length nc) 39);have b0:=fO (w.alloc (.cells #[.slice pp t.ps.length pc,.slice np t.ns.length nc] 39)) (.slice th t.ps.length tj) (.slice tq t.ns.length tr) 39
 have b1:=fP (w.alloc (.cells #[.slice pp t.ps.length pc,.slice np t.ns.length nc] 39)) (.slice th t.ps.length tj) (.slice tq t.ns.length tr) 39;rw [aL] at b0 b1;have HP:=aa (ay.keep hP (hu.kept S));have HN:=aa (av.keep hN (hu.kept S));have WU:=aa (ay.keep jw (hu.kept T));have Ho:=aa (av.keep jx (hu.kept T));have HU:=aa hu;have A0:=aa a0;have A1:=aa a1;have WV:=aa b0;have WW:=aa b1;have d0:((t.ps.length:Int) != (t.ps.length:Int))=false:=by simp
 have d1:((t.ns.length:Int) != (t.ns.length:Int))=false:=by simp
 clear hP hN jw jx hu bw aJ
 go_enter Tryz.func37,Tryz.ntmps37
 go_wp2_with fail;clear a0 a1 b0 b1;generalize (w.alloc (.cells #[.slice pp t.ps.length pc,.slice np t.ns.length nc] 39)).alloc (.cells #[.slice th t.ps.length tj,.slice tq t.ns.length tr] 39)=w1 at *
 go_loopw [5] (fun i wr=>∃k:Nat,k<=t.ps.length/\i=.int .i64 k/\Hid (QD w1 wr)) (fun i _=>t.ps.length - (intOf i).toNat)
 case atStart=>exact ⟨0,aI _,rfl,QD.refl _⟩
 case round =>
  obtain ⟨k,hk,rfl,hQ⟩:=hrel;have a0:=hQ.out.up.cell A0.out;have b0:=hQ.out.up.cell WV.out;by_cases hlt:k<t.ps.length
  ·obtain ⟨b,off,rfl,hc⟩:=gp (ay.keep HP.out (hQ.out.kept S)) hlt
   obtain ⟨b2,off2,rfl,hc2⟩:=gp (ay.keep WU.out (hQ.out.kept T)) hlt;(have i1:(0:Int)<=(k:Int):=by omega);(have i2:(k:Int)<(t.ps.length:Int):=by omega);generalize gi t.ps k=x at *;(have j1:(x != x)=false:=by simp);go_wp2_with fail;(go_quiet (fail));go_wp2_with fail
   go_roundw
   case rel=>exact ⟨k+1,by omega,by go_num,hQ.out.drewN nq⟩
   case measure=>simp [intOf];omega
  ·obtain rfl:k=t.ps.length:=by omega
   have WX:=aa hQ.out;clear hlt hk;go_wp2_with fail
   go_loopw [6] (fun i wr=>∃k:Nat,k<=t.ns.length/\i=.int .i64 k/\Hid (QD w1 wr)) (fun i _=>t.ns.length - (intOf i).toNat)
   case atStart=>exact ⟨0,aI _,rfl,WX.out⟩
   case round =>
    obtain ⟨k,hk,rfl,hQ⟩:=hrel;have a1:=hQ.out.up.cell A1.out;have b1:=hQ.out.up.cell WW.out;by_cases hlt:k<t.ns.length
    ·obtain ⟨b,off,rfl,hc⟩:=cA (av.keep HN.out (hQ.out.kept S)) hlt
     obtain ⟨b2,off2,rfl,hc2⟩:=cA (av.keep Ho.out (hQ.out.kept T)) hlt;(have i1:(0:Int)<=(k:Int):=by omega);(have i2:(k:Int)<(t.ns.length:Int):=by omega);generalize gs t.ns k=x at *;(have j1:(x.toList==x.toList)=true:=by simp);go_wp2_with fail;(go_quiet (fail));go_wp2_with fail
     go_roundw
     case rel=>exact ⟨k+1,by omega,by go_num,hQ.out.drewN nq⟩
     case measure=>simp [intOf];omega
    ·obtain rfl:k=t.ns.length:=by omega
     clear hlt hk;go_wp2_with fail;go_ret;exact ⟨rfl,HU.out.trans hQ.out.up⟩
theorem tu (w:World) (cs:Array Value) (T:TypeId) (xs:List Int) (hcs:cs.toList=xs.map (Value.int .i64)) (n:Nat) (hn:n=xs.length):ay Any (w.alloc (.cells cs T)) (.slice (some ⟨w.heap.size,0,none⟩) n n) xs:=by
 subst hn;refine ⟨_,_,rfl,ah _,.inr ⟨_,0,rfl,trivial,fun k hk=>?_⟩⟩;rw [ij,aH,<- kH,hcs];simp [gi,hk]
theorem Hp (w:World) (cs:Array Value) (T:TypeId) (xs:List ByteArray) (hcs:cs.toList=xs.map Value.string) (n:Nat) (hn:n=xs.length):av Any (w.alloc (.cells cs T)) (.slice (some ⟨w.heap.size,0,none⟩) n n) xs:=by
 subst hn;refine ⟨_,_,rfl,ah _,.inr ⟨_,0,rfl,trivial,fun k hk=>?_⟩⟩;rw [ij,aH,<- kH,hcs];simp [gs,hk]
deriving instance DecidableEq for SK
section
variable {P:Program} {ops:Array Oper} {rest:List Oper} {o:Oper} {a:Act} {Q:Exit->Act->World->Prop}
theorem yY (W:World) (hgd:o.guard=none) (s x:Operand) (t:TypeId) (ho:o.op=.call { callee:=.builtin .append,args:=#[s,x],argTypes:=#[t,t] })
  (base:Nat) (e:TypeId) (z:Value) (bytes:Nat) (ht:P.underlying t=some (.slice e)) (hinfo:(P.info? e).map (fun i=>(i.zero,i.size,i.bytes))=some (some z,1,bytes))
  (hz1:z.cells.size=1) (gL:bytes<=64) {v:Value} {vs:List Value} (hown:ax base e W v vs) (hs:a.eval s=v) (u:Value) (m:Nat) (hm:W.heap.size=m)
  (hx:a.eval x=.slice (some ⟨m,0,none⟩) 1 1) (h1:u.oneCell'=true) (k:Nat) (xI:vs.length=k) (hn:k<=1000000) (hbase:base<=W.heap.size)
  (h:∀g cap w',ax base e w' (.slice (some ⟨g,0,none⟩) (k+1) cap) (vs++[u])->W.grownBy w' v.ownBlock->(v.ownBlock=some g\/W.heap.size<=g)->wpList P ops Q rest (a.put o.dst (.slice (some ⟨g,0,none⟩) (k+1) cap)) w') :
  wpList P ops Q (o::rest) a (W.alloc (.cells #[u] e)):=by
 subst hm;exact jH W hgd s x t ho base e z bytes ht hinfo hz1 gL hown hs u hx h1 k xI hn hbase h
end
end
section
def ux (s:ByteArray):Int:=match jM s.data.toList with
 | none=>3
 | some r=>aB (flat r)
def rE (s:ByteArray):aF:=match jM s.data.toList with
 | none=>⟨[],[]⟩
 | some r=>if aB (flat r)≠0 then ⟨[],[]⟩ else flat r
end
section
open Go.RowKit Go.Deep
@[go_sem high] theorem Zk (w:World) (ts:Array TypeId) (t:TypeId) (k:IntKind):(Builtin.max_ ts t #[.int k 0,.int k 0,.int k 0,.int k 0]).run Tryz.prog w=.ok (.int k 0) w:=by
 simp [Builtin.max_,Builtin.max2]
@[go_sem high] theorem Zl (w:World) (ts:Array TypeId) (t:TypeId) (k:IntKind):(Builtin.max_ ts t #[.int k 0,.int k 0,.int k 0,.int k 0,.int k 0]).run Tryz.prog w=.ok (.int k 0) w:=by
 simp [Builtin.max_,Builtin.max2]
@[go_sem high] theorem Zm (w:World) (ts:Array TypeId) (t:TypeId) (k:IntKind):(Builtin.max_ ts t #[.int k 0,.int k 0,.int k 0,.int k 0,.int k 0,.int k 0]).run Tryz.prog w=.ok (.int k 0) w:=by
 simp [Builtin.max_,Builtin.max2]
@[go_sem high] theorem Zn (w:World) (ts:Array TypeId) (t:TypeId) (k:IntKind):(Builtin.max_ ts t #[.int k 0,.int k 0,.int k 0,.int k 0,.int k 0,.int k 0,.int k 0]).run Tryz.prog w=.ok (.int k 0) w:=by
 simp [Builtin.max_,Builtin.max2]
end
end Go.Proofs.YthgabkgmkolobaaGreat
namespace Go.Proofs
open Go.Shelf
def Tryz.idxA_ren:Go.Shelf.Ren:=⟨fun | 153=>166 | 152=>217 | 226=>218 | 227=>219 | 228=>220 | 137=>261 | 119=>262 | 224=>263 | 225=>264 | 217=>277 | 266=>290 | n=>n,fun | 9=>9 | 3=>3 | 4=>4 | 5=>5 | 21=>21 | 117=>226 | 116=>225 | 0=>0 | 46=>154 | 124=>262 | n=>n,fun | n=>n⟩
theorem Tryz.idxA:Go.Proofs.Lays.n153 Tryz.prog Tryz.idxA_ren:={
 mixed:=by kernel_rfl
 f119:=Tryz.func262.trans (congrArg some (by kernel_rfl))
 f137:=Tryz.func261.trans (congrArg some (by kernel_rfl))
 f152:=Tryz.func217.trans (congrArg some (by kernel_rfl))
 f153:=Tryz.func166.trans (congrArg some (by kernel_rfl))
 f217:=Tryz.func277.trans (congrArg some (by kernel_rfl))
 f224:=Tryz.func263.trans (congrArg some (by kernel_rfl))
 f225:=Tryz.func264.trans (congrArg some (by kernel_rfl))
 f226:=Tryz.func218.trans (congrArg some (by kernel_rfl))
 f227:=Tryz.func219.trans (congrArg some (by kernel_rfl))
 f228:=Tryz.func220.trans (congrArg some (by kernel_rfl))
 f266:=Tryz.func290.trans (congrArg some (by kernel_rfl))
 t0:=Tryz.underlying0
 a0:=Tryz.isAgg0
 z0:=Tryz.sizeOf0
 v0:=Tryz.zeroValue0
 t3:=Tryz.underlying3
 a3:=Tryz.isAgg3
 z3:=Tryz.sizeOf3
 v3:=Tryz.zeroValue3
 t4:=Tryz.underlying4
 a4:=Tryz.isAgg4
 z4:=Tryz.sizeOf4
 v4:=Tryz.zeroValue4
 t5:=Tryz.underlying5
 a5:=Tryz.isAgg5
 z5:=Tryz.sizeOf5
 v5:=Tryz.zeroValue5
 t9:=Tryz.underlying9
 a9:=Tryz.isAgg9
 z9:=Tryz.sizeOf9
 v9:=Tryz.zeroValue9
 t21:=Tryz.underlying21
 a21:=Tryz.isAgg21
 z21:=Tryz.sizeOf21
 v21:=Tryz.zeroValue21
 t46:=Tryz.underlying154
 a46:=Tryz.isAgg154
 z46:=Tryz.sizeOf154
 v46:=Tryz.zeroValue154
 t116:=Tryz.underlying225
 a116:=Tryz.isAgg225
 z116:=Tryz.sizeOf225
 t117:=Tryz.underlying226
 a117:=Tryz.isAgg226
 z117:=Tryz.sizeOf226
 v117:=Tryz.zeroValue226
 t124:=Tryz.underlying262
 a124:=Tryz.isAgg262
 z124:=Tryz.sizeOf262
 v124:=Tryz.zeroValue262 }
end Go.Proofs
namespace Go.Proofs.YthgabkgmkolobaaGreat
open Go.RowKit Go.Deep
structure ku (base:Nat) (s:ByteArray) (R:Option RT) (w0:World) (top k:Nat) (b:Bool) (ov:Value) (wr:World) (n:Nat) (A:Nat->Nat) (kv:Nat->Value) (F:aX) (o:Nat) (os:List Nat) (Z:List RT) (st:List (List RT)) (f:Nat):Prop where
 fr:bB base n A kv F wr
 a0:A 0=top
 zf:lN F n (o::os) (Z::st)
 own:ax base 119 wr ov ((o::os).reverse.map (bD A))
 uX:∀g,ov.ownBlock=some g->∀j,j<n->g≠A j
 tA:∀g,ov.ownBlock=some g->∀j,j<n->(kv j).ownBlock≠some g
 last:(o::os).getLast? = some 0
 nk:n<=k+1
 ol:os.length<=k
 WY:b=true->Z≠[]
 run:pz f (s.data.toList.drop k) (Z::st) b=R
 fuel:s.size<f+k
 up:Below base w0 wr
def Cq (base:Nat) (s:ByteArray) (R:Option RT) (w0:World) (top k:Nat) (b:Bool) (ov:Value) (wr:World):Prop :=
 ∃n A kv F o os Z st f,ku base s R w0 top k b ov wr n A kv F o os Z st f
section
variable {base:Nat} {s:ByteArray} {R:Option RT} {w0 wr w':World} {top k n f o:Nat} {b:Bool} {ov:Value} {A:Nat->Nat} {kv:Nat->Value} {F:aX} {os:List Nat} {Z:List RT} {st:List (List RT)}
theorem ku.S6 (h:ku base s R w0 top k b ov wr n A kv F o os Z st f) {g:Nat} (hg:ov.ownBlock=some g):base<=g/\g<wr.heap.size:=aG h.own hg
theorem ku.row (h:ku base s R w0 top k b ov wr n A kv F o os Z st f):∃g cap,ov=.slice (some ⟨g,0,none⟩) (os.length+1) cap/\os.length+1<=cap/\wr.cell? ⟨g,os.length,none⟩=some (.pointer (some ⟨A o,0,none⟩)):=by
 obtain ⟨q,cap,hv,hq⟩:=h.own.form (n:=os.length+1) (by simp);obtain ⟨g,rfl⟩:∃g,q=some ⟨g,0,none⟩:=by
  rcases hq with rfl | h2
  ·obtain ⟨_,h3 | ⟨g,_,_,h3,_⟩⟩:=h.own
   ·have:=h3.2;simp at this
   ·rw [hv] at h3;cases h3
  ·exact h2
 have ho:=h.own;rw [hv] at ho;have hcm:os.length+1<=cap:=by
  rcases ho.2 with ⟨e,_⟩ | ⟨g2,eR,cur,e,_,_,hn,_⟩
  ·cases e
  ·have e3:cap=eR:=(Value.slice.inj e).2.2
   rw [e3];simpa using hn
 refine ⟨g,cap,hv,hcm,(EJ ho ?_).1⟩;rw [jQ,List.reverse_cons,zx (by simp)];simp [bD]
structure S7 (base:Nat) (w0:World) (top:Nat) (ov:Value) (n:Nat) (A':Nat->Nat) (kv':Nat->Value) (G:aX) (ol:List Nat) (W:World):Prop where
 fr:bB base (n+1) A' kv' G W
 a0:A' 0=top
 own:ax base 119 W ov (ol.reverse.map (bD A'))
 uX:∀g,ov.ownBlock=some g->∀j,j<n+1->g≠A' j
 tA:∀g,ov.ownBlock=some g->∀j,j<n+1->(kv' j).ownBlock≠some g
 up:Below base w0 W
theorem ku.node (h:ku base s R w0 top k b ov wr n A kv F o os Z st f) (nm:ByteArray) {g m cap:Nat} (sH:base<=wr.heap.size)
  (hv:ax base 119 w' (.slice (some ⟨g,0,none⟩) m cap) ((F.kids o).map (bD A)++[.pointer (some ⟨wr.heap.size,0,none⟩)]))
  (hg:(wr.alloc (.cells #[.string nm,.slice none 0 0,.int .i64 0] 122)).grownBy w' (kv o).ownBlock) (hr:(kv o).ownBlock=some g\/wr.heap.size+1<=g) :
  ∃A' kv',A' n=wr.heap.size/\S7 base w0 top ov n A' kv' (jI F n o nm) (o::os) (w'.setCell ⟨A o,1,none⟩ (.slice (some ⟨g,0,none⟩) m cap)):=by
 have ho:=h.zf.on;have hon:o≠n:=by omega
 have h1:=h.fr.AR sH nm 0;have hAo:upd A n wr.heap.size o=A o:=upd_ne _ _ hon;have WZ:upd kv n (.slice none 0 0) o=kv o:=upd_ne _ _ hon;have hmap:∀l:List Nat,(∀k∈l,k<n)->l.map (bD (upd A n wr.heap.size))=l.map (bD A):=fun l hl=>by refine jR fun k hk=>?_;have:=hl k hk;unfold bD;rw [upd_ne _ _ (by omega)]
 have hsz:(wr.alloc (.cells #[.string nm,.slice none 0 0,.int .i64 0] 122)).heap.size=wr.heap.size+1:=aL _ _;have h2:=h1.push (k:=o) (c:=n) (v:=.slice (some ⟨g,0,none⟩) m cap) (by omega) (by omega)
  (by
   show ax _ _ _ _ ((upd F.kids n [] o++[n]).map _);rw [upd_ne _ _ hon,cm,hmap _ (h.fr.kid o ho)];show ax _ _ _ _ (_++[bD (upd A n wr.heap.size) n])
   unfold bD;rw [upd_same];exact hv) (by rw [WZ];exact hg) (fun b2 hb2=>by cases hb2;rw [WZ,hsz];exact hr)
 rw [hAo] at h2;have h0n:0<n:=by omega
 have aaF:∀g2,ov.ownBlock=some g2->w'.heap[g2]? = wr.heap[g2]?:=fun g2 hg2=>by have hl:=(h.S6 hg2).2;rw [hg.block g2 (by rw [hsz];omega) (fun e=>h.tA g2 hg2 o ho e.symm)];exact blk_alloc_lt _ _ _ hl
 refine ⟨_,_,upd_same _ _ _,h2.WC fun j hj=>⟨rfl,rfl,?_⟩,by rw [upd_ne _ _ (by omega)];exact h.a0,?_,fun g2 hg2 j hj=>?_,fun g2 hg2 j hj=>?_,?_⟩
 ·show upd (upd F.kids n []) o (F.kids o++[n]) j=upd (upd F.kids n []) o (upd F.kids n [] o++[n]) j
  rw [upd_ne F.kids _ hon]
 ·rw [hmap _ (fun k hk=>h.zf.opn k (List.mem_reverse.1 hk))]
  refine h.own.same fun g2 hg2=>?_;rw [blk_setCell_other _ _ _ _ (h.uX g2 hg2 o ho)];exact aaF g2 hg2
 ·by_cases e:j=n
  ·subst e;rw [upd_same];have:=(h.S6 hg2).2;omega
  ·rw [upd_ne _ _ e];exact h.uX g2 hg2 j (by omega)
 ·by_cases e:j=o
  ·subst e;rw [upd_same]
   intro e2;(have e2:g=g2:=by cases e2;rfl);rcases hr with h3 | h3
   ·exact h.tA g2 hg2 j ho (by rw [h3,e2])
   ·have:=(h.S6 hg2).2;omega
  ·rw [upd_ne _ _ e]
   by_cases e2:j=n
   ·subst e2;rw [upd_same];intro e3;cases e3
   ·rw [upd_ne _ _ e2];exact h.tA g2 hg2 j (by omega)
 ·have ha:Below base wr (wr.alloc (.cells #[.string nm,.slice none 0 0,.int .i64 0] 122)):=(cN _ _).alloc sH _
  have hb2:Below base (wr.alloc (.cells #[.string nm,.slice none 0 0,.int .i64 0] 122)) w':=((h.fr.own o ho).alloc _).dX hg (by rw [hsz];omega);exact ((h.up.trans ha).trans hb2).setCell (p:=⟨A o,1,none⟩) (h.fr.lo o ho) _
theorem ku.store (h:ku base s R w0 top k b ov wr n A kv F o os Z st f) {ob:Obj} (hg:(wr.alloc ob).grownBy w' (kv o).ownBlock) :
  w'.cell? ⟨A o,1,none⟩=some (kv o)/\w'.frozen? ⟨A o,1,none⟩=false:=by
 have ho:=h.zf.on;have hlt:=h.fr.lt ho;have h1:w'.heap[A o]? = wr.heap[A o]?:=by rw [hg.block _ (by rw [aL];omega) (fun e=>h.fr.apart o o ho ho e.symm)];exact blk_alloc_lt _ _ _ hlt
 constructor
 ·simp only [World.cell?,h1];exact h.fr.qV ho
 ·simp only [World.frozen?,h1];exact h.fr.thaw ho 1
theorem ku.W5 (h:ku base s R w0 top k b ov wr n A kv F o os Z st f):((F.kids o).map (bD A)).length=(F.kids o).length/\(F.kids o).length<=1000000:=by
 refine ⟨aD _,?_⟩;have:=pU (h.zf.nd o h.zf.on) (fun x hx=>(h.zf.kid o h.zf.on x hx).2);have:=h.zf.big;omega
theorem ku.leaf (h:ku base s R w0 top k b ov wr n A kv F o os Z st f) (hb:n<2000) {W:World} {A':Nat->Nat} {kv':Nat->Value} {nm:ByteArray} {k' f':Nat} (hk:k+1<=k') (hN:S7 base w0 top ov n A' kv' (jI F n o nm) (o::os) W)
  (hrun:pz f' (s.data.toList.drop k') ((Z++[.node nm []])::st) true=R) (hf:s.size<f'+k'):Cq base s R w0 top k' true ov W :=
 ⟨_,_,_,_,_,_,_,_,_,⟨hN.fr,hN.a0,h.zf.leaf nm hb,hN.own,hN.uX,hN.tA,h.last,(by have:=h.nk;omega),(by have:=h.ol;omega),(fun _=>by simp),hrun,hf,hN.up⟩⟩
theorem ku.opened (h:ku base s R w0 top k b ov wr n A kv F o os Z st f) (hb:n<2000) {W:World} {A':Nat->Nat} {kv':Nat->Value} {f' g m cap:Nat} (hN:S7 base w0 top ov n A' kv' (jI F n o ByteArray.empty) (o::os) W) (sH:base<=W.heap.size)
  (hv:ax base 119 w' (.slice (some ⟨g,0,none⟩) m cap) ((o::os).reverse.map (bD A')++[bD A' n])) (hg:W.grownBy w' ov.ownBlock) (hr:ov.ownBlock=some g\/W.heap.size<=g)
  (hrun:pz f' (s.data.toList.drop (k+1)) ([]::Z::st) false=R) (hf:s.size<f'+(k+1)):Cq base s R w0 top (k+1) false (.slice (some ⟨g,0,none⟩) m cap) w':=by
 have hold:∀b2,b2<W.heap.size->(∀g2,ov.ownBlock=some g2->b2≠g2)->w'.heap[b2]? = W.heap[b2]?:=fun b2 hb2 hne=>hg.block b2 hb2 fun e=>hne b2 e.symm rfl;refine ⟨_,_,_,_,_,_,_,_,_,⟨hN.fr.same (fun i hi=>hold _ (hN.fr.lt hi) fun g2 hg2 e=>hN.uX g2 hg2 i hi e.symm) (fun i b2 hi hb2=>hold _ (hN.fr.iA hi hb2).2 fun g2 hg2 e=>hN.tA g2 hg2 i hi (by rw [hb2,e])),hN.a0,h.zf.open hb,?_,fun g2 hg2 j hj=>?_,fun g2 hg2 j hj=>?_,?_,(by have:=h.nk;omega),(by have:=h.ol;simp;omega),(fun e=>by cases e),hrun,hf,hN.up.trans (hN.own.dX hg sH)⟩⟩
 ·rw [List.reverse_cons,cm];exact hv
 ·have hg2:some g=some g2:=hg2
  injection hg2 with hg2;subst hg2;rcases hr with h1 | h1
  ·exact hN.uX g h1 j hj
  ·have:=hN.fr.lt hj;omega
 ·have hg2:some g=some g2:=hg2
  injection hg2 with hg2;subst hg2;intro e;rcases hr with h1 | h1
  ·exact hN.tA g h1 j hj e
  ·have:=(hN.fr.iA hj e).2;omega
 ·rw [tV];exact h.last
theorem ku.W6 {q:Nat} {Y:List RT} {st2:List (List RT)} {os2:List Nat} (h:ku base s R w0 top k b ov wr n A kv F o (q::os2) Z (Y::st2) f) {g cap f':Nat} (S8:ov=.slice (some ⟨g,0,none⟩) (os2.length+2) cap)
  (hrun:pz f' (s.data.toList.drop (k+1)) ((Y++[.node ByteArray.empty Z])::st2) true=R) (hf:s.size<f'+(k+1)):Cq base s R w0 top (k+1) true (.slice (some ⟨g,0,none⟩) (os2.length+1) cap) wr:=by
 subst S8;refine ⟨_,_,_,_,_,_,_,_,_,⟨h.fr,h.a0,h.zf.pop,?_,h.uX,h.tA,?_,(by have:=h.nk;omega),(by have:=h.ol;simp at this;omega),(fun _=>by simp),hrun,hf,h.up⟩⟩
 ·have h1:=Oq h.own (m:=os2.length+1) (by omega)
  have e:((o::q::os2).reverse.map (bD A)).take (os2.length+1)=(q::os2).reverse.map (bD A):=by rw [List.reverse_cons,cm,List.take_append_of_le_length (by simp)];rw [zD (by simp)]
  rw [e] at h1;exact h1
 ·have:=h.last
  rw [tV] at this;exact this
theorem ku.comma (h:ku base s R w0 top k b ov wr n A kv F o os Z st f) {f':Nat} (hrun:pz f' (s.data.toList.drop (k+1)) (Z::st) false=R) (hf:s.size<f'+(k+1)):Cq base s R w0 top (k+1) false ov wr :=
 ⟨_,_,_,_,_,_,_,_,_,⟨h.fr,h.a0,h.zf,h.own,h.uX,h.tA,h.last,(by have:=h.nk;omega),(by have:=h.ol;omega),(fun e=>by cases e),hrun,hf,h.up⟩⟩
theorem ku.drew (h:ku base s R w0 top k b ov wr n A kv F o os Z st f):ku base s R w0 top k b ov wr.drew n A kv F o os Z st f :=
 ⟨h.fr.up (Up.drewN wr 1),h.a0,h.zf,h.own.same fun _ _=>rfl,h.uX,h.tA,h.last,h.nk,h.ol,h.WY,h.run,h.fuel,h.up.drew⟩
theorem ku.W8 (h:ku base s R w0 top k b ov wr n A kv F o os Z st f) (hu:Up wr w'):ku base s R w0 top k b ov w' n A kv F o os Z st f :=
 ⟨h.fr.up hu,h.a0,h.zf,h.own.same fun _ hg=>bH hu _ (h.S6 hg).2,h.uX,h.tA,h.last,h.nk,h.ol,h.WY,h.run,h.fuel,h.up.trans (hu.mono (aR (h.fr.lo 0 (by have:=h.zf.on;omega)) (Nat.le_of_lt (h.fr.lt (i:=0) (by have:=h.zf.on;omega)))))⟩
theorem ku.step (h:ku base s R w0 top k b ov wr n A kv F o os Z st f) (hk:k<s.size):∃f' ch,f=f'+1/\s.size<f'+(k+1)/\s.data.toList.drop k=ch::s.data.toList.drop (k+1)/\s[k]=ch:=by
 have hf:=h.fuel;refine ⟨f - 1,s[k],by omega,by omega,?_,rfl⟩;have hl:k<s.data.toList.length:=by rw [sj];exact hk
 rw [List.drop_eq_getElem_cons hl];congr 1
end
theorem Ru (w1:World) (s:ByteArray):Cq w1.heap.size s (jM s.data.toList) w1 w1.heap.size 0 false (.slice (some ⟨w1.heap.size+1,0,none⟩) 1 1)
  ((w1.alloc (.cells #[.string ⟨#[]⟩,.slice none 0 0,.int .i64 0] 122)).alloc (.cells #[.pointer (some ⟨w1.heap.size,0,none⟩)] 119)):=by
 have hs1:(w1.alloc (.cells #[.string ⟨#[]⟩,.slice none 0 0,.int .i64 0] 122)).heap.size=w1.heap.size+1:=aL _ _;have h1:=((bB.empty w1.heap.size (fun _=>w1.heap.size) (fun _=>.slice none 0 0) ⟨fun _=>⟨#[]⟩,fun _=>0,fun _=>[]⟩ w1).AR (ah _) ⟨#[]⟩ 0).up (Up.alloc _ (.cells #[.pointer (some ⟨w1.heap.size,0,none⟩)] 119));have h0:∀j,j<1->j=0:=fun j hj=>by omega
 have hA:∀j,j<0+1->upd (fun _=>w1.heap.size) 0 w1.heap.size j=w1.heap.size:=fun j hj=>by rw [h0 j hj,upd_same]
 have hown:ax w1.heap.size 119 ((w1.alloc (.cells #[.string ⟨#[]⟩,.slice none 0 0,.int .i64 0] 122)).alloc (.cells #[.pointer (some ⟨w1.heap.size,0,none⟩)] 119)) (.slice (some ⟨w1.heap.size+1,0,none⟩) 1 1) (([0]:List Nat).reverse.map (bD (upd (fun _=>w1.heap.size) 0 w1.heap.size))):=by have hb:=blk_alloc_new (w1.alloc (.cells #[.string ⟨#[]⟩,.slice none 0 0,.int .i64 0] 122)) (.cells #[.pointer (some ⟨w1.heap.size,0,none⟩)] 119);rw [hs1] at hb;exact ⟨rfl,.inr ⟨w1.heap.size+1,1,_,rfl,by omega,hb,⟨by simp,by unfold maxLen;omega,rfl,by simp [bD,upd_same]⟩⟩⟩
 refine ⟨0+1,_,_,_,0,[],[],[],s.data.toList.length+1,⟨h1,upd_same _ _ _,?_,hown,fun g hg j hj=>?_,fun g hg j hj=>?_,rfl,ah _,aI _,(fun e=>by cases e),rfl,?_,((Up.alloc w1 _).trans (Up.alloc _ _))⟩⟩
 ·refine ⟨by omega,fun i hi k hk=>?_,fun p q k hp hq _ _=>by omega,fun i hi=>?_,⟨?_,⟨[],?_,rfl⟩,trivial⟩,fun o ho=>by simp at ho;omega,by simp⟩
  ·rw [h0 i hi] at hk
   have hk:k∈upd (fun _=>([]:List Nat)) 0 [] 0:=hk;rw [upd_same] at hk;cases hk
  ·rw [h0 i hi]
   show (upd (fun _=>([]:List Nat)) 0 [] 0).Nodup;rw [upd_same];exact List.nodup_nil
  ·show (upd (fun _=>(⟨#[]⟩:ByteArray)) 0 ⟨#[]⟩ 0).size=0
   rw [upd_same];rfl
  ·show upd (fun _=>([]:List Nat)) 0 [] 0=_
   rw [upd_same];rfl
 ·have hg:some (w1.heap.size+1)=some g:=hg
  injection hg with hg;rw [hA j hj];omega
 ·rw [h0 j hj,upd_same];intro e;cases e
 ·rw [sj]
  show s.data.size<_;omega
end Go.Proofs.YthgabkgmkolobaaGreat
