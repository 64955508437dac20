/- Plain: binary trees as rose trees, and their list, sorted by text. The helpers of the .. -/
import Derived.Test.YtfomhlbhcifgbaaGreatDoorQ30
set_option maxRecDepth 100000
namespace Go.Proofs.YtfomhlbhcifgbaaGreatDoor
section
def iW:BT ByteArray->RT
 | .leaf x=>.node x []
 | .node a b=>.node ByteArray.empty [iW a,iW b]
theorem y9:∀r:BT ByteArray,aX (iW r)+1=2*r.gN.length
 | .leaf x=>by simp [iW,BT.gN,aX,cM]
 | .node a b=>by
  have h1:=y9 a
  have h2:=y9 b
  simp only [iW,BT.gN,aX,cM,bG]
  omega
theorem C7:∀r:BT ByteArray,(∀x∈r.gN,x.size≠0)->gM (iW r)=r.gN
 | .leaf x,h=>LK (h x (by simp [BT.gN]))
 | .node a b,h=>by
  rw [iW,BR rfl,iI,iI,List.flatMap_nil,gm,BT.gN]
  rw [C7 a fun x hx=>h x (by rw [BT.gN];exact List.mem_append_left _ hx),C7 b fun x hx=>h x (by rw [BT.gN];exact List.mem_append_right _ hx)]
theorem C8:∀r:BT ByteArray,(∀x∈r.gN,bD x.data.toList=true)->∀s∈cn (iW r),Hg s
 | .leaf x,h,s,hs=>by
  rw [iW,cn,dL,eN] at hs
  subst hs
  exact ⟨fun e=>absurd rfl e,fun _=>h x (by simp [BT.gN]),by simp [RT.kids]⟩
 | .node a b,h,s,hs=>by
  rw [iW,cn,dL,dL,dL,gm,bQ,eD] at hs
  rcases hs with rfl | hs | hs
  ·exact ⟨fun _=>rfl,(fun e=>by cases e),by simp [RT.kids]⟩
  ·exact C8 a (fun x hx=>h x (by rw [BT.gN];exact List.mem_append_left _ hx)) s hs
  ·exact C8 b (fun x hx=>h x (by rw [BT.gN];exact List.mem_append_right _ hx)) s hs
structure AP (r:BT ByteArray):Prop where
 nd:r.gN.Nodup
 nm:∀x∈r.gN,bD x.data.toList=true
theorem AP.sz {r:BT ByteArray} (h:AP r):∀x∈r.gN,x.size≠0:=fun x hx=>vU (h.nm x hx)
theorem AP.leaf {r:BT ByteArray} (h:AP r):gM (iW r)=r.gN:=C7 r h.sz
theorem AP.Tr {r:BT ByteArray} (h:AP r):Tl (iW r):=⟨by rw [h.leaf];exact h.nd,C8 r h.nm⟩
theorem Ts (a b:BT ByteArray):dO (iW (.node a b))=40::(dO (iW a)++(44::dO (iW b))++[41]):=by
 rw [iW,dO,eL,eL,gm]
def dc (r:RT):List UInt8:=dO r++[59]
def AQ (a:RT):List RT->List RT
 | []=>[a]
 | b::l=>if Lib.compareBytes (dc b) (dc a)<=0 then b::AQ a l else a::b::l
def LL:List RT->List RT
 | []=>[]
 | a::l=>AQ a (LL l)
theorem yE (a:RT):∀l,(AQ a l).Perm (a::l)
 | []=>qH _
 | b::l=>by
  rw [AQ]
  split
  ·exact ((yE a l).cons b).trans (List.Perm.swap a b l)
  ·exact qH _
theorem qb:∀l,(LL l).Perm l
 | []=>qH _
 | a::l=>(yE a _).trans ((qb l).cons a)
def mg (a b:RT):Prop:=Lib.compareBytes (dc a) (dc b)<=0
theorem mg.trans {a b c:RT} (h1:mg a b) (h2:mg b c):mg a c:=by
 unfold mg at *;rw [Kl] at *;exact Std.le_trans h1 h2
theorem mg.total {a b:RT} (h:¬mg a b):mg b a:=by
 unfold mg at *;rw [mX];omega
theorem zP (a:RT):∀l:List RT,l.Pairwise mg->(AQ a l).Pairwise mg
 | [],_=>by simp [AQ]
 | b::l,h=>by
  rw [AQ]
  obtain ⟨h1,h2⟩:=yS.1 h
  split
  ·rename_i hb
   refine yS.2 ⟨fun c hc=>?_,zP a l h2⟩
   rcases bQ.1 ((yE a l).mem_iff.1 hc) with rfl | hc
   ·exact hb
   ·exact h1 c hc
  ·rename_i hb
   have hab:mg a b:=mg.total hb
   refine yS.2 ⟨fun c hc=>?_,h⟩
   rcases bQ.1 hc with rfl | hc
   ·exact hab
   ·exact hab.trans (h1 c hc)
theorem zQ:∀l:List RT,(LL l).Pairwise mg
 | []=>List.Pairwise.nil
 | a::l=>zP a _ (zQ l)
theorem mg.anti {a b:RT} (ha:oy a) (hb:oy b) (h1:mg a b) (h2:mg b a):a=b:=by
 unfold mg at *;have h3:=mX (dc a) (dc b);have h4:dc a=dc b:=rQ (by omega);exact N5 ha hb (List.append_cancel_right h4)
theorem BX:∀ {l m:List RT},l.Perm m->l.Pairwise mg->m.Pairwise mg->(∀r∈l,oy r)->l=m
 | [],m,h,_,_,_=>(List.nil_perm.1 h).symm
 | a::l,[],h,_,_,_=>absurd (List.perm_nil.1 h) (by simp)
 | a::l,b::m,h,h1,h2,ho=>by
  obtain ⟨a1,a2⟩:=yS.1 h1
  obtain ⟨b1,b2⟩:=yS.1 h2
  have e:a=b:=by
   have hb:b∈a::l:=h.mem_iff.2 (by simp)
   have ha:a∈b::m:=h.mem_iff.1 (by simp)
   rcases bQ.1 hb with hb' | hb'
   ·exact hb'.symm
   rcases bQ.1 ha with ha' | ha'
   ·exact ha'
   exact mg.anti (ho a (by simp)) (ho b hb) (a1 b hb') (b1 a ha')
  subst e
  rw [BX ((List.perm_cons a).1 h) a2 b2 fun r hr=>ho r (by simp [hr])]
def uB (acF:List ByteArray) (r:BT ByteArray):BT ByteArray:=.node (.leaf (gs acF 0)) r
def uR (acF:List ByteArray) (r:BT ByteArray):RT:=cE (iW (uB acF r))
def dN (acF:List ByteArray):List RT:=LL ((rt acF.length acF.tail).map (uR acF))
def allT (acF:List ByteArray):List aA:=(dN acF).map flat
structure iE (acF:List ByteArray):Prop where
 lo:2<=acF.length
 hi:acF.length<=5
 nm:∀x∈acF,bD x.data.toList=true
 nd:acF.Nodup
theorem iE.cons {acF:List ByteArray} (h:iE acF):gs acF 0::acF.tail=acF:=by
 have:=h.lo;cases acF with
 | nil=>simp at this
 | cons a l=>rfl
theorem uQ {acF:List ByteArray} (h:iE acF) {r:BT ByteArray} (hr:r.gN.Perm acF.tail):(uB acF r).gN.Perm acF:=by
 have h1:(uB acF r).gN=gs acF 0::r.gN:=rfl;rw [h1];exact (hr.cons _).trans (List.Perm.of_eq h.cons)
theorem Tt {acF:List ByteArray} (h:iE acF) {r:BT ByteArray} (hr:r.gN.Perm acF.tail):AP (uB acF r) :=
 ⟨(uQ h hr).symm.nodup h.nd,fun x hx=>h.nm x ((uQ h hr).mem_iff.1 hx)⟩
theorem Hy {acF:List ByteArray} {q:RT}:q∈dN acF↔∃r∈rt acF.length acF.tail,uR acF r=q:=by
 unfold dN;rw [(qb _).mem_iff,ek]
theorem Rm (acF:List ByteArray):(dN acF).length=(rt acF.length acF.tail).length:=by
 unfold dN;rw [(qb _).length_eq,aD]
theorem iX {acF:List ByteArray} (h:iE acF) {q:RT} (hq:q∈dN acF):Tl q/\(gM q).Perm acF/\aX q+1=2*acF.length/\cE q=q/\aF (flat q)=0/\r7 (flat q)=flat q:=by
 obtain ⟨r,hr,rfl⟩:=Hy.1 hq;have hl:=xu _ _ _ hr;have ho:=Tt h hl;have hs:=y9 (uB acF r);have hpl:=(uQ h hl).length_eq;have hhi:=h.hi;have hz:aX (uR acF r)+1=2*acF.length:=by unfold uR;rw [LA];omega
 have hg:lX (uR acF r):=ho.Tr.good.sort;have h2:cE (uR acF r)=uR acF r:=BQ _;have ht:=yx hg (by omega);refine ⟨⟨(vX _).symm.nodup ho.Tr.nd,fun s hs=>?_⟩,?_,hz,h2,ht,by rw [Ec ht,vT,h2]⟩
 ·obtain ⟨u,hu,rfl⟩:=ek.1 ((nG _).mem_iff.1 hs)
  obtain ⟨p1,p2,p3⟩:=ho.Tr.pt u hu;rw [Hg,vV,vW,(mH _).length_eq,aD];exact ⟨fun hk=>p1 fun e=>hk (qW.2 e),fun hk=>p2 (qW.1 hk),p3⟩
 ·refine (vX _).trans ?_
  rw [ho.leaf];exact uQ h hl
theorem wm {acF:List ByteArray} (h:iE acF):(dN acF).length=if acF.length=2 then 1 else if acF.length=3 then 1 else if acF.length=4 then 3 else 15:=by
 rw [Rm];have hlo:=h.lo;have hhi:=h.hi;have e:acF.tail=((List.range' 1 (acF.length - 1)).map fun i=>gs acF i):=by
  apply qJ
  ·simp
  ·intro i h1 h2
   simp at h1;simp [gs];rw [kB (by omega)];simp [Nat.add_comm]
 rw [e,A6,aD];generalize acF.length=n at *;obtain rfl | rfl | rfl | rfl:n=2\/n=3\/n=4\/n=5:=by omega
 ·decide +kernel
 ·decide +kernel
 ·decide +kernel
 ·decide +kernel
end
section
open Go.RowKit Go.Deep
@[go_sem high] theorem ZX (w:World) (ts:Array TypeId) (t:TypeId) (k:IntKind):(Builtin.max_ ts t #[.int k 0,.int k 0,.int k 0,.int k 0]).run Tryz.prog w=.ok (.int k 0) w:=by
 simp [Builtin.max_,Builtin.max2]
@[go_sem high] theorem ZY (w:World) (ts:Array TypeId) (t:TypeId) (k:IntKind):(Builtin.max_ ts t #[.int k 0,.int k 0,.int k 0,.int k 0,.int k 0]).run Tryz.prog w=.ok (.int k 0) w:=by
 simp [Builtin.max_,Builtin.max2]
@[go_sem high] theorem ZZ (w:World) (ts:Array TypeId) (t:TypeId) (k:IntKind):(Builtin.max_ ts t #[.int k 0,.int k 0,.int k 0,.int k 0,.int k 0,.int k 0]).run Tryz.prog w=.ok (.int k 0) w:=by
 simp [Builtin.max_,Builtin.max2]
@[go_sem high] theorem Z0 (w:World) (ts:Array TypeId) (t:TypeId) (k:IntKind):(Builtin.max_ ts t #[.int k 0,.int k 0,.int k 0,.int k 0,.int k 0,.int k 0,.int k 0]).run Tryz.prog w=.ok (.int k 0) w:=by
 simp [Builtin.max_,Builtin.max2]
structure jH (base:Nat) (s:ByteArray) (R:Option RT) (w0:World) (top k:Nat) (b:Bool) (ov:Value) (wr:World) (n:Nat) (A:Nat->Nat) (kv:Nat->Value) (F:aW) (o:Nat) (os:List Nat) (Z:List RT) (st:List (List RT)) (f:Nat):Prop where
 fr:bz base n A kv F wr
 a0:A 0=top
 zf:kM F n (o::os) (Z::st)
 own:au base 78 wr ov ((o::os).reverse.map (bL A))
 uf:∀g,ov.ownBlock=some g->∀j,j<n->g≠A j
 si:∀g,ov.ownBlock=some g->∀j,j<n->(kv j).ownBlock≠some g
 last:(o::os).getLast? = some 0
 nk:n<=k+1
 ol:os.length<=k
 XY:b=true->Z≠[]
 run:pz f (s.data.toList.drop k) (Z::st) b=R
 fuel:s.size<f+k
 up:Below base w0 wr
def BZ (base:Nat) (s:ByteArray) (R:Option RT) (w0:World) (top k:Nat) (b:Bool) (ov:Value) (wr:World):Prop :=
 ∃n A kv F o os Z st f,jH base s R w0 top k b ov wr n A kv F o os Z st f
section
variable {base:Nat} {s:ByteArray} {R:Option RT} {w0 wr w':World} {top k n f o:Nat} {b:Bool} {ov:Value} {A:Nat->Nat} {kv:Nat->Value} {F:aW} {os:List Nat} {Z:List RT} {st:List (List RT)}
theorem jH.Tu (h:jH base s R w0 top k b ov wr n A kv F o os Z st f) {g:Nat} (hg:ov.ownBlock=some g):base<=g/\g<wr.heap.size:=az h.own hg
theorem jH.row (h:jH base s R w0 top k b ov wr n A kv F o os Z st f):∃g cap,ov=.slice (some ⟨g,0,none⟩) (os.length+1) cap/\os.length+1<=cap/\wr.cell? ⟨g,os.length,none⟩=some (.pointer (some ⟨A o,0,none⟩)):=by
 obtain ⟨q,cap,hv,hq⟩:=h.own.form (n:=os.length+1) (by simp);obtain ⟨g,rfl⟩:∃g,q=some ⟨g,0,none⟩:=by
  rcases hq with rfl | h2
  ·obtain ⟨_,h3 | ⟨g,_,_,h3,_⟩⟩:=h.own
   ·have:=h3.2;simp at this
   ·rw [hv] at h3;cases h3
  ·exact h2
 have ho:=h.own;rw [hv] at ho;have hcm:os.length+1<=cap:=by
  rcases ho.2 with ⟨e,_⟩ | ⟨g2,ij,cur,e,_,_,hn,_⟩
  ·cases e
  ·have e3:cap=ij:=(Value.slice.inj e).2.2
   rw [e3];simpa using hn
 refine ⟨g,cap,hv,hcm,(Ej ho ?_).1⟩;rw [iJ,List.reverse_cons,List.getElem?_append_right (by simp)];simp [bL]
structure Tv (base:Nat) (w0:World) (top:Nat) (ov:Value) (n:Nat) (A':Nat->Nat) (kv':Nat->Value) (G:aW) (ol:List Nat) (W:World):Prop where
 fr:bz base (n+1) A' kv' G W
 a0:A' 0=top
 own:au base 78 W ov (ol.reverse.map (bL A'))
 uf:∀g,ov.ownBlock=some g->∀j,j<n+1->g≠A' j
 si:∀g,ov.ownBlock=some g->∀j,j<n+1->(kv' j).ownBlock≠some g
 up:Below base w0 W
theorem jH.node (h:jH base s R w0 top k b ov wr n A kv F o os Z st f) (nm:ByteArray) {g m cap:Nat} (wL:base<=wr.heap.size)
  (hv:au base 78 w' (.slice (some ⟨g,0,none⟩) m cap) ((F.kids o).map (bL A)++[.pointer (some ⟨wr.heap.size,0,none⟩)]))
  (hg:(wr.alloc (.cells #[.string nm,.slice none 0 0,.int .i64 0] 81)).grownBy w' (kv o).ownBlock) (hr:(kv o).ownBlock=some g\/wr.heap.size+1<=g) :
  ∃A' kv',A' n=wr.heap.size/\Tv base w0 top ov n A' kv' (jc F n o nm) (o::os) (w'.setCell ⟨A o,1,none⟩ (.slice (some ⟨g,0,none⟩) m cap)):=by
 have ho:=h.zf.on;have hon:o≠n:=by omega
 have h1:=h.fr.Ao wL nm 0;have hAo:upd A n wr.heap.size o=A o:=upd_ne _ _ hon;have XZ:upd kv n (.slice none 0 0) o=kv o:=upd_ne _ _ hon;have hmap:∀l:List Nat,(∀k∈l,k<n)->l.map (bL (upd A n wr.heap.size))=l.map (bL A):=fun l hl=>by refine iK fun k hk=>?_;have:=hl k hk;unfold bL;rw [upd_ne _ _ (by omega)]
 have hsz:(wr.alloc (.cells #[.string nm,.slice none 0 0,.int .i64 0] 81)).heap.size=wr.heap.size+1:=aN _ _;have h2:=h1.push (k:=o) (c:=n) (v:=.slice (some ⟨g,0,none⟩) m cap) (by omega) (by omega)
  (by
   show au _ _ _ _ ((upd F.kids n [] o++[n]).map _);rw [upd_ne _ _ hon,cm,hmap _ (h.fr.kid o ho)];show au _ _ _ _ (_++[bL (upd A n wr.heap.size) n])
   unfold bL;rw [upd_same];exact hv) (by rw [XZ];exact hg) (fun b2 hb2=>by cases hb2;rw [XZ,hsz];exact hr)
 rw [hAo] at h2;have h0n:0<n:=by omega
 have aaE:∀g2,ov.ownBlock=some g2->w'.heap[g2]? = wr.heap[g2]?:=fun g2 hg2=>by have hl:=(h.Tu hg2).2;rw [hg.block g2 (by rw [hsz];omega) (fun e=>h.si g2 hg2 o ho e.symm)];exact blk_alloc_lt _ _ _ hl
 refine ⟨_,_,upd_same _ _ _,h2.XL fun j hj=>⟨rfl,rfl,?_⟩,by rw [upd_ne _ _ (by omega)];exact h.a0,?_,fun g2 hg2 j hj=>?_,fun g2 hg2 j hj=>?_,?_⟩
 ·show upd (upd F.kids n []) o (F.kids o++[n]) j=upd (upd F.kids n []) o (upd F.kids n [] o++[n]) j
  rw [upd_ne F.kids _ hon]
 ·rw [hmap _ (fun k hk=>h.zf.opn k (List.mem_reverse.1 hk))]
  refine h.own.same fun g2 hg2=>?_;rw [blk_setCell_other _ _ _ _ (h.uf g2 hg2 o ho)];exact aaE g2 hg2
 ·by_cases e:j=n
  ·subst e;rw [upd_same];have:=(h.Tu hg2).2;omega
  ·rw [upd_ne _ _ e];exact h.uf g2 hg2 j (by omega)
 ·by_cases e:j=o
  ·subst e;rw [upd_same]
   intro e2;(have e2:g=g2:=by cases e2;rfl);rcases hr with h3 | h3
   ·exact h.si g2 hg2 j ho (by rw [h3,e2])
   ·have:=(h.Tu hg2).2;omega
  ·rw [upd_ne _ _ e]
   by_cases e2:j=n
   ·subst e2;rw [upd_same];intro e3;cases e3
   ·rw [upd_ne _ _ e2];exact h.si g2 hg2 j (by omega)
 ·have ha:Below base wr (wr.alloc (.cells #[.string nm,.slice none 0 0,.int .i64 0] 81)):=(b7 _ _).alloc wL _
  have hb2:Below base (wr.alloc (.cells #[.string nm,.slice none 0 0,.int .i64 0] 81)) w':=((h.fr.own o ho).alloc _).cQ hg (by rw [hsz];omega);exact ((h.up.trans ha).trans hb2).setCell (p:=⟨A o,1,none⟩) (h.fr.lo o ho) _
theorem jH.store (h:jH base s R w0 top k b ov wr n A kv F o os Z st f) {ob:Obj} (hg:(wr.alloc ob).grownBy w' (kv o).ownBlock) :
  w'.cell? ⟨A o,1,none⟩=some (kv o)/\w'.frozen? ⟨A o,1,none⟩=false:=by
 have ho:=h.zf.on;have hlt:=h.fr.lt ho;have h1:w'.heap[A o]? = wr.heap[A o]?:=by rw [hg.block _ (by rw [aN];omega) (fun e=>h.fr.apart o o ho ho e.symm)];exact blk_alloc_lt _ _ _ hlt
 constructor
 ·simp only [World.cell?,h1];exact h.fr.rL ho
 ·simp only [World.frozen?,h1];exact h.fr.thaw ho 1
theorem jH.X0 (h:jH base s R w0 top k b ov wr n A kv F o os Z st f):((F.kids o).map (bL A)).length=(F.kids o).length/\(F.kids o).length<=1000000:=by
 refine ⟨aD _,?_⟩;have:=r6 (h.zf.nd o h.zf.on) (fun x hx=>(h.zf.kid o h.zf.on x hx).2);have:=h.zf.big;omega
theorem jH.leaf (h:jH base s R w0 top k b ov wr n A kv F o os Z st f) (hb:n<2000) {W:World} {A':Nat->Nat} {kv':Nat->Value} {nm:ByteArray} {k' f':Nat} (hk:k+1<=k') (hN:Tv base w0 top ov n A' kv' (jc F n o nm) (o::os) W)
  (hrun:pz f' (s.data.toList.drop k') ((Z++[.node nm []])::st) true=R) (hf:s.size<f'+k'):BZ base s R w0 top k' true ov W :=
 ⟨_,_,_,_,_,_,_,_,_,⟨hN.fr,hN.a0,h.zf.leaf nm hb,hN.own,hN.uf,hN.si,h.last,(by have:=h.nk;omega),(by have:=h.ol;omega),(fun _=>by simp),hrun,hf,hN.up⟩⟩
theorem jH.opened (h:jH base s R w0 top k b ov wr n A kv F o os Z st f) (hb:n<2000) {W:World} {A':Nat->Nat} {kv':Nat->Value} {f' g m cap:Nat} (hN:Tv base w0 top ov n A' kv' (jc F n o ByteArray.empty) (o::os) W) (wL:base<=W.heap.size)
  (hv:au base 78 w' (.slice (some ⟨g,0,none⟩) m cap) ((o::os).reverse.map (bL A')++[bL A' n])) (hg:W.grownBy w' ov.ownBlock) (hr:ov.ownBlock=some g\/W.heap.size<=g)
  (hrun:pz f' (s.data.toList.drop (k+1)) ([]::Z::st) false=R) (hf:s.size<f'+(k+1)):BZ base s R w0 top (k+1) false (.slice (some ⟨g,0,none⟩) m cap) w':=by
 have hold:∀b2,b2<W.heap.size->(∀g2,ov.ownBlock=some g2->b2≠g2)->w'.heap[b2]? = W.heap[b2]?:=fun b2 hb2 hne=>hg.block b2 hb2 fun e=>hne b2 e.symm rfl;refine ⟨_,_,_,_,_,_,_,_,_,⟨hN.fr.same (fun i hi=>hold _ (hN.fr.lt hi) fun g2 hg2 e=>hN.uf g2 hg2 i hi e.symm) (fun i b2 hi hb2=>hold _ (hN.fr.gK hi hb2).2 fun g2 hg2 e=>hN.si g2 hg2 i hi (by rw [hb2,e])),hN.a0,h.zf.open hb,?_,fun g2 hg2 j hj=>?_,fun g2 hg2 j hj=>?_,?_,(by have:=h.nk;omega),(by have:=h.ol;simp;omega),(fun e=>by cases e),hrun,hf,hN.up.trans (hN.own.cQ hg wL)⟩⟩
 ·rw [List.reverse_cons,cm];exact hv
 ·have hg2:some g=some g2:=hg2
  injection hg2 with hg2;subst hg2;rcases hr with h1 | h1
  ·exact hN.uf g h1 j hj
  ·have:=hN.fr.lt hj;omega
 ·have hg2:some g=some g2:=hg2
  injection hg2 with hg2;subst hg2;intro e;rcases hr with h1 | h1
  ·exact hN.si g h1 j hj e
  ·have:=(hN.fr.gK hj e).2;omega
 ·rw [sH];exact h.last
theorem jH.X3 {q:Nat} {Y:List RT} {st2:List (List RT)} {os2:List Nat} (h:jH base s R w0 top k b ov wr n A kv F o (q::os2) Z (Y::st2) f) {g cap f':Nat} (Tw:ov=.slice (some ⟨g,0,none⟩) (os2.length+2) cap)
  (hrun:pz f' (s.data.toList.drop (k+1)) ((Y++[.node ByteArray.empty Z])::st2) true=R) (hf:s.size<f'+(k+1)):BZ base s R w0 top (k+1) true (.slice (some ⟨g,0,none⟩) (os2.length+1) cap) wr:=by
 subst Tw;refine ⟨_,_,_,_,_,_,_,_,_,⟨h.fr,h.a0,h.zf.pop,?_,h.uf,h.si,?_,(by have:=h.nk;omega),(by have:=h.ol;simp at this;omega),(fun _=>by simp),hrun,hf,h.up⟩⟩
 ·have h1:=NR h.own (m:=os2.length+1) (by omega)
  have e:((o::q::os2).reverse.map (bL A)).take (os2.length+1)=(q::os2).reverse.map (bL A):=by rw [List.reverse_cons,cm,List.take_append_of_le_length (by simp)];rw [sM (by simp)]
  rw [e] at h1;exact h1
 ·have:=h.last
  rw [sH] at this;exact this
theorem jH.comma (h:jH base s R w0 top k b ov wr n A kv F o os Z st f) {f':Nat} (hrun:pz f' (s.data.toList.drop (k+1)) (Z::st) false=R) (hf:s.size<f'+(k+1)):BZ base s R w0 top (k+1) false ov wr :=
 ⟨_,_,_,_,_,_,_,_,_,⟨h.fr,h.a0,h.zf,h.own,h.uf,h.si,h.last,(by have:=h.nk;omega),(by have:=h.ol;omega),(fun e=>by cases e),hrun,hf,h.up⟩⟩
theorem jH.drew (h:jH base s R w0 top k b ov wr n A kv F o os Z st f):jH base s R w0 top k b ov wr.drew n A kv F o os Z st f :=
 ⟨h.fr.up (Up.drewN wr 1),h.a0,h.zf,h.own.same fun _ _=>rfl,h.uf,h.si,h.last,h.nk,h.ol,h.XY,h.run,h.fuel,h.up.drew⟩
theorem jH.X4 (h:jH base s R w0 top k b ov wr n A kv F o os Z st f) (hu:Up wr w'):jH base s R w0 top k b ov w' n A kv F o os Z st f :=
 ⟨h.fr.up hu,h.a0,h.zf,h.own.same fun _ hg=>aO hu _ (h.Tu hg).2,h.uf,h.si,h.last,h.nk,h.ol,h.XY,h.run,h.fuel,h.up.trans (hu.mono (aV (h.fr.lo 0 (by have:=h.zf.on;omega)) (Nat.le_of_lt (h.fr.lt (i:=0) (by have:=h.zf.on;omega)))))⟩
theorem jH.step (h:jH base s R w0 top k b ov wr n A kv F o os Z st f) (hk:k<s.size):∃f' ch,f=f'+1/\s.size<f'+(k+1)/\s.data.toList.drop k=ch::s.data.toList.drop (k+1)/\s[k]=ch:=by
 have hf:=h.fuel;refine ⟨f - 1,s[k],by omega,by omega,?_,rfl⟩;have hl:k<s.data.toList.length:=by rw [uY];exact hk
 rw [List.drop_eq_getElem_cons hl];congr 1
end
theorem Rn (w1:World) (s:ByteArray):BZ w1.heap.size s (nH s.data.toList) w1 w1.heap.size 0 false (.slice (some ⟨w1.heap.size+1,0,none⟩) 1 1)
  ((w1.alloc (.cells #[.string ⟨#[]⟩,.slice none 0 0,.int .i64 0] 81)).alloc (.cells #[.pointer (some ⟨w1.heap.size,0,none⟩)] 78)):=by
 have hs1:(w1.alloc (.cells #[.string ⟨#[]⟩,.slice none 0 0,.int .i64 0] 81)).heap.size=w1.heap.size+1:=aN _ _;have h1:=((bz.empty w1.heap.size (fun _=>w1.heap.size) (fun _=>.slice none 0 0) ⟨fun _=>⟨#[]⟩,fun _=>0,fun _=>[]⟩ w1).Ao (aj _) ⟨#[]⟩ 0).up (Up.alloc _ (.cells #[.pointer (some ⟨w1.heap.size,0,none⟩)] 78));have h0:∀j,j<1->j=0:=fun j hj=>by omega
 have hA:∀j,j<0+1->upd (fun _=>w1.heap.size) 0 w1.heap.size j=w1.heap.size:=fun j hj=>by rw [h0 j hj,upd_same]
 have hown:au w1.heap.size 78 ((w1.alloc (.cells #[.string ⟨#[]⟩,.slice none 0 0,.int .i64 0] 81)).alloc (.cells #[.pointer (some ⟨w1.heap.size,0,none⟩)] 78)) (.slice (some ⟨w1.heap.size+1,0,none⟩) 1 1) (([0]:List Nat).reverse.map (bL (upd (fun _=>w1.heap.size) 0 w1.heap.size))):=by have hb:=blk_alloc_new (w1.alloc (.cells #[.string ⟨#[]⟩,.slice none 0 0,.int .i64 0] 81)) (.cells #[.pointer (some ⟨w1.heap.size,0,none⟩)] 78);rw [hs1] at hb;exact ⟨rfl,.inr ⟨w1.heap.size+1,1,_,rfl,by omega,hb,⟨by simp,by unfold maxLen;omega,rfl,by simp [bL,upd_same]⟩⟩⟩
 refine ⟨0+1,_,_,_,0,[],[],[],s.data.toList.length+1,⟨h1,upd_same _ _ _,?_,hown,fun g hg j hj=>?_,fun g hg j hj=>?_,rfl,aj _,bg _,(fun e=>by cases e),rfl,?_,((Up.alloc w1 _).trans (Up.alloc _ _))⟩⟩
 ·refine ⟨by omega,fun i hi k hk=>?_,fun p q k hp hq _ _=>by omega,fun i hi=>?_,⟨?_,⟨[],?_,rfl⟩,trivial⟩,fun o ho=>by simp at ho;omega,by simp⟩
  ·rw [h0 i hi] at hk
   have hk:k∈upd (fun _=>([]:List Nat)) 0 [] 0:=hk;rw [upd_same] at hk;cases hk
  ·rw [h0 i hi]
   show (upd (fun _=>([]:List Nat)) 0 [] 0).Nodup;rw [upd_same];exact List.nodup_nil
  ·show (upd (fun _=>(⟨#[]⟩:ByteArray)) 0 ⟨#[]⟩ 0).size=0
   rw [upd_same];rfl
  ·show upd (fun _=>([]:List Nat)) 0 [] 0=_
   rw [upd_same];rfl
 ·have hg:some (w1.heap.size+1)=some g:=hg
  injection hg with hg;rw [hA j hj];omega
 ·rw [h0 j hj,upd_same];intro e;cases e
 ·rw [uY]
  show s.data.size<_;omega
end
end Go.Proofs.YtfomhlbhcifgbaaGreatDoor
