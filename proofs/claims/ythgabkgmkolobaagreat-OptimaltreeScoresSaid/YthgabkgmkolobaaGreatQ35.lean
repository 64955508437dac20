/- Plain: binary trees as rose trees, and their list, sorted by text. The helpers of the .. -/
import Derived.Test.YthgabkgmkolobaaGreatQ33
set_option maxRecDepth 100000
namespace Go.Proofs.YthgabkgmkolobaaGreat
section
def btR:BT ByteArray→RT
 | .leaf x=>.node x []
 | .node a b=>.node ByteArray.empty [btR a,btR b]
theorem x9:∀r:BT ByteArray,aL (btR r)+1=2*r.fZ.length
 | .leaf x=>by simp [btR,BT.fZ,aL,sizeRs]
 | .node a b=>by
  have h1:=x9 a
  have h2:=x9 b
  simp only [btR,BT.fZ,aL,sizeRs,List.length_append]
  omega
theorem BO:∀r:BT ByteArray,(∀x∈r.fZ,x.size≠0)→fA (btR r)=r.fZ
 | .leaf x,h=>Kt (h x (by simp [BT.fZ]))
 | .node a b,h=>by
  rw [btR,uG rfl,List.flatMap_cons,List.flatMap_cons,List.flatMap_nil,List.append_nil,BT.fZ]
  rw [BO a fun x hx=>h x (by rw [BT.fZ];exact List.mem_append_left _ hx),BO b fun x hx=>h x (by rw [BT.fZ];exact List.mem_append_right _ hx)]
theorem BP:∀r:BT ByteArray,(∀x∈r.fZ,aX x.data.toList=true)→∀s∈subR (btR r),Fp s
 | .leaf x,h,s,hs=>by
  rw [btR,subR,subRs,List.mem_singleton] at hs
  subst hs
  exact ⟨fun e=>absurd rfl e,fun _=>h x (by simp [BT.fZ]),by simp [RT.kids]⟩
 | .node a b,h,s,hs=>by
  rw [btR,subR,subRs,subRs,subRs,List.append_nil,List.mem_cons,List.mem_append] at hs
  rcases hs with rfl | hs | hs
  ·exact ⟨fun _=>rfl,(fun e=>by cases e),by simp [RT.kids]⟩
  ·exact BP a (fun x hx=>h x (by rw [BT.fZ];exact List.mem_append_left _ hx)) s hs
  ·exact BP b (fun x hx=>h x (by rw [BT.fZ];exact List.mem_append_right _ hx)) s hs
structure zB (r:BT ByteArray):Prop where
 nd:r.fZ.Nodup
 nm:∀x∈r.fZ,aX x.data.toList=true
theorem zB.sz {r:BT ByteArray} (h:zB r):∀x∈r.fZ,x.size≠0:=fun x hx=>ux (h.nm x hx)
theorem zB.leaf {r:BT ByteArray} (h:zB r):fA (btR r)=r.fZ:=BO r h.sz
theorem zB.RM {r:BT ByteArray} (h:zB r):RF (btR r):=⟨by rw [h.leaf];exact h.nd,BP r h.nm⟩
theorem RN (a b:BT ByteArray):txR (btR (.node a b))=40::(txR (btR a)++(44::txR (btR b))++[41]):=by
 rw [btR,txR,txRs,txRs,List.append_nil]
def bT (r:RT):List UInt8:=txR r++[59]
def insT (a:RT):List RT→List RT
 | []=>[a]
 | b::l=>if Lib.compareBytes (bT b) (bT a)≤0 then b::insT a l else a::b::l
def Ku:List RT→List RT
 | []=>[]
 | a::l=>insT a (Ku l)
theorem xL (a:RT):∀l,(insT a l).Perm (a::l)
 | []=>List.Perm.refl _
 | b::l=>by
  rw [insT]
  split
  ·exact ((xL a l).cons b).trans (List.Perm.swap a b l)
  ·exact List.Perm.refl _
theorem kB:∀l,(Ku l).Perm l
 | []=>List.Perm.refl _
 | a::l=>(xL a _).trans ((kB l).cons a)
def eW (a b:RT):Prop:=Lib.compareBytes (bT a) (bT b)≤0
theorem eW.trans {a b c:RT} (h1:eW a b) (h2:eW b c):eW a c:=by
 unfold eW at *;rw [Ji] at *;exact Std.le_trans h1 h2
theorem eW.total {a b:RT} (h:¬eW a b):eW b a:=by
 unfold eW at *;rw [lT];omega
theorem yR (a:RT):∀l:List RT,l.Pairwise eW→(insT a l).Pairwise eW
 | [],_=>by simp [insT]
 | b::l,h=>by
  rw [insT]
  obtain ⟨h1,h2⟩:=List.pairwise_cons.1 h
  split
  ·rename_i hb
   refine List.pairwise_cons.2 ⟨fun c hc=>?_,yR a l h2⟩
   rcases List.mem_cons.1 ((xL a l).mem_iff.1 hc) with rfl | hc
   ·exact hb
   ·exact h1 c hc
  ·rename_i hb
   have hab:eW a b:=eW.total hb
   refine List.pairwise_cons.2 ⟨fun c hc=>?_,h⟩
   rcases List.mem_cons.1 hc with rfl | hc
   ·exact hab
   ·exact hab.trans (h1 c hc)
theorem sO:∀l:List RT,(Ku l).Pairwise eW
 | []=>List.Pairwise.nil
 | a::l=>yR a _ (sO l)
theorem eW.anti {a b:RT} (ha:kA a) (hb:kA b) (h1:eW a b) (h2:eW b a):a=b:=by
 unfold eW at *;have h3:=lT (bT a) (bT b);have h4:bT a=bT b:=nJ (by omega);exact MS ha hb (List.append_cancel_right h4)
theorem uM:∀ {l m:List RT},l.Perm m→l.Pairwise eW→m.Pairwise eW→(∀r∈l,kA r)→l=m
 | [],m,h,_,_,_=>(List.nil_perm.1 h).symm
 | a::l,[],h,_,_,_=>absurd (List.perm_nil.1 h) (by simp)
 | a::l,b::m,h,h1,h2,ho=>by
  obtain ⟨a1,a2⟩:=List.pairwise_cons.1 h1
  obtain ⟨b1,b2⟩:=List.pairwise_cons.1 h2
  have e:a=b:=by
   have hb:b∈a::l:=h.mem_iff.2 (by simp)
   have ha:a∈b::m:=h.mem_iff.1 (by simp)
   rcases List.mem_cons.1 hb with hb' | hb'
   ·exact hb'.symm
   rcases List.mem_cons.1 ha with ha' | ha'
   ·exact ha'
   exact eW.anti (ho a (by simp)) (ho b hb) (a1 b hb') (b1 a ha')
  subst e
  rw [uM ((List.perm_cons a).1 h) a2 b2 fun r hr=>ho r (by simp [hr])]
def uB (names:List ByteArray) (r:BT ByteArray):BT ByteArray:=.node (.leaf (gs names 0)) r
def uR (names:List ByteArray) (r:BT ByteArray):RT:=sortR (btR (uB names r))
def bG (names:List ByteArray):List RT:=Ku ((rt names.length names.tail).map (uR names))
def allT (names:List ByteArray):List aD:=(bG names).map flat
structure gY (names:List ByteArray):Prop where
 lo:2≤names.length
 hi:names.length≤5
 nm:∀x∈names,aX x.data.toList=true
 nd:names.Nodup
theorem gY.cons {names:List ByteArray} (h:gY names):gs names 0::names.tail=names:=by
 have:=h.lo;cases names with
 | nil=>simp at this
 | cons a l=>rfl
theorem tO {names:List ByteArray} (h:gY names) {r:BT ByteArray} (hr:r.fZ.Perm names.tail):(uB names r).fZ.Perm names:=by
 have h1:(uB names r).fZ=gs names 0::r.fZ:=rfl;rw [h1];exact (hr.cons _).trans (List.Perm.of_eq h.cons)
theorem RO {names:List ByteArray} (h:gY names) {r:BT ByteArray} (hr:r.fZ.Perm names.tail):zB (uB names r) :=
 ⟨(tO h hr).symm.nodup h.nd,fun x hx=>h.nm x ((tO h hr).mem_iff.1 hx)⟩
theorem FZ {names:List ByteArray} {q:RT}:q∈bG names↔∃r∈rt names.length names.tail,uR names r=q:=by
 unfold bG;rw [(kB _).mem_iff,List.mem_map]
theorem P8 (names:List ByteArray):(bG names).length=(rt names.length names.tail).length:=by
 unfold bG;rw [(kB _).length_eq,List.length_map]
theorem fB {names:List ByteArray} (h:gY names) {q:RT} (hq:q∈bG names):RF q∧(fA q).Perm names∧aL q+1=2*names.length∧sortR q=q∧aB (flat q)=0∧o5 (flat q)=flat q:=by
 obtain ⟨r,hr,rfl⟩:=FZ.1 hq;have hl:=vX _ _ _ hr;have ho:=RO h hl;have hs:=x9 (uB names r);have hpl:=(tO h hl).length_eq;have hhi:=h.hi;have hz:aL (uR names r)+1=2*names.length:=by unfold uR;rw [Ka];omega
 have hg:jR (uR names r):=ho.RM.good.sort;have h2:sortR (uR names r)=uR names r:=uz _;have ht:=xq hg (by omega);refine ⟨⟨(qd _).symm.nodup ho.RM.nd,fun s hs=>?_⟩,?_,hz,h2,ht,by rw [xm ht,uw,h2]⟩
 ·obtain ⟨u,hu,rfl⟩:=List.mem_map.1 ((kz _).mem_iff.1 hs)
  obtain ⟨p1,p2,p3⟩:=ho.RM.pt u hu;rw [Fp,qc,qY,(lB _).length_eq,List.length_map];exact ⟨fun hk=>p1 fun e=>hk (mR.2 e),fun hk=>p2 (mR.1 hk),p3⟩
 ·refine (qd _).trans ?_
  rw [ho.leaf];exact tO h hl
theorem uN {names:List ByteArray} (h:gY names):(bG names).length=if names.length=2 then 1 else if names.length=3 then 1 else if names.length=4 then 3 else 15:=by
 rw [P8];have hlo:=h.lo;have hhi:=h.hi;have e:names.tail=((List.range' 1 (names.length - 1)).map fun i=>gs names i):=by
  apply List.ext_getElem
  ·simp
  ·intro i h1 h2
   simp at h1;simp [gs];rw [List.getElem?_eq_getElem (by omega)];simp [Nat.add_comm]
 rw [e,zO,List.length_map];generalize names.length=n at *;obtain rfl | rfl | rfl | rfl:n=2∨n=3∨n=4∨n=5:=by omega
 ·decide +kernel
 ·decide +kernel
 ·decide +kernel
 ·decide +kernel
end
section
open Go.RowKit Go.Deep
@[go_sem high] theorem XL (w:World) (ts:Array TypeId) (t:TypeId) (k:IntKind):(Builtin.max_ ts t #[.int k 0,.int k 0,.int k 0,.int k 0]).run Tryz.prog w=.ok (.int k 0) w:=by
 simp [Builtin.max_,Builtin.max2]
@[go_sem high] theorem XM (w:World) (ts:Array TypeId) (t:TypeId) (k:IntKind):(Builtin.max_ ts t #[.int k 0,.int k 0,.int k 0,.int k 0,.int k 0]).run Tryz.prog w=.ok (.int k 0) w:=by
 simp [Builtin.max_,Builtin.max2]
@[go_sem high] theorem XN (w:World) (ts:Array TypeId) (t:TypeId) (k:IntKind):(Builtin.max_ ts t #[.int k 0,.int k 0,.int k 0,.int k 0,.int k 0,.int k 0]).run Tryz.prog w=.ok (.int k 0) w:=by
 simp [Builtin.max_,Builtin.max2]
@[go_sem high] theorem XO (w:World) (ts:Array TypeId) (t:TypeId) (k:IntKind):(Builtin.max_ ts t #[.int k 0,.int k 0,.int k 0,.int k 0,.int k 0,.int k 0,.int k 0]).run Tryz.prog w=.ok (.int k 0) w:=by
 simp [Builtin.max_,Builtin.max2]
end
section
open Go.RowKit Go.Deep
structure jc (base:Nat) (s:ByteArray) (R:Option RT) (w0:World) (top k:Nat) (b:Bool) (ov:Value) (wr:World) (n:Nat) (A:Nat→Nat) (kv:Nat→Value) (F:aU) (o:Nat) (os:List Nat) (Z:List RT) (st:List (List RT)) (f:Nat):Prop where
 fr:bf base n A kv F wr
 a0:A 0=top
 zf:jU F n (o::os) (Z::st)
 own:aF base 119 wr ov ((o::os).reverse.map (bg A))
 sP:∀g,ov.ownBlock=some g→∀j,j<n→g≠A j
 rC:∀g,ov.ownBlock=some g→∀j,j<n→(kv j).ownBlock≠some g
 last:(o::os).getLast? = some 0
 nk:n≤k+1
 ol:os.length≤k
 VM:b=true→Z≠[]
 run:pz f (s.data.toList.drop k) (Z::st) b=R
 fuel:s.size<f+k
 up:Below base w0 wr
def AL (base:Nat) (s:ByteArray) (R:Option RT) (w0:World) (top k:Nat) (b:Bool) (ov:Value) (wr:World):Prop :=
 ∃n A kv F o os Z st f,jc base s R w0 top k b ov wr n A kv F o os Z st f
section
variable {base:Nat} {s:ByteArray} {R:Option RT} {w0 wr w':World} {top k n f o:Nat} {b:Bool} {ov:Value} {A:Nat→Nat} {kv:Nat→Value} {F:aU} {os:List Nat} {Z:List RT} {st:List (List RT)}
theorem jc.RP (h:jc base s R w0 top k b ov wr n A kv F o os Z st f) {g:Nat} (hg:ov.ownBlock=some g):base≤g∧g<wr.heap.size:=aI h.own hg
theorem jc.row (h:jc base s R w0 top k b ov wr n A kv F o os Z st f):∃g cap,ov=.slice (some ⟨g,0,none⟩) (os.length+1) cap∧os.length+1≤cap∧wr.cell? ⟨g,os.length,none⟩=some (.pointer (some ⟨A o,0,none⟩)):=by
 obtain ⟨q,cap,hv,hq⟩:=h.own.form (n:=os.length+1) (by simp);obtain ⟨g,rfl⟩:∃g,q=some ⟨g,0,none⟩:=by
  rcases hq with rfl | h2
  ·obtain ⟨_,h3 | ⟨g,_,_,h3,_⟩⟩:=h.own
   ·have:=h3.2;simp at this
   ·rw [hv] at h3;cases h3
  ·exact h2
 have ho:=h.own;rw [hv] at ho;have hcm:os.length+1≤cap:=by
  rcases ho.2 with ⟨e,_⟩ | ⟨g2,cr,cur,e,_,_,hn,_⟩
  ·cases e
  ·have e3:cap=cr:=(Value.slice.inj e).2.2
   rw [e3];simpa using hn
 refine ⟨g,cap,hv,hcm,(CY ho ?_).1⟩;rw [List.getElem?_map,List.reverse_cons,List.getElem?_append_right (by simp)];simp [bg]
structure RQ (base:Nat) (w0:World) (top:Nat) (ov:Value) (n:Nat) (A':Nat→Nat) (kv':Nat→Value) (G:aU) (ol:List Nat) (W:World):Prop where
 fr:bf base (n+1) A' kv' G W
 a0:A' 0=top
 own:aF base 119 W ov (ol.reverse.map (bg A'))
 sP:∀g,ov.ownBlock=some g→∀j,j<n+1→g≠A' j
 rC:∀g,ov.ownBlock=some g→∀j,j<n+1→(kv' j).ownBlock≠some g
 up:Below base w0 W
theorem jc.node (h:jc base s R w0 top k b ov wr n A kv F o os Z st f) (nm:ByteArray) {g m cap:Nat} (lq:base≤wr.heap.size)
  (hv:aF base 119 w' (.slice (some ⟨g,0,none⟩) m cap) ((F.kids o).map (bg A)++[.pointer (some ⟨wr.heap.size,0,none⟩)]))
  (hg:(wr.alloc (.cells #[.string nm,.slice none 0 0,.int .i64 0] 122)).grownBy w' (kv o).ownBlock) (hr:(kv o).ownBlock=some g∨wr.heap.size+1≤g) :
  ∃A' kv',A' n=wr.heap.size∧RQ base w0 top ov n A' kv' (iH F n o nm) (o::os) (w'.setCell ⟨A o,1,none⟩ (.slice (some ⟨g,0,none⟩) m cap)):=by
 have ho:=h.zf.on;have hon:o≠n:=by omega
 have h1:=h.fr.ze lq nm 0;have hAo:upd A n wr.heap.size o=A o:=upd_ne _ _ hon;have VN:upd kv n (.slice none 0 0) o=kv o:=upd_ne _ _ hon;have hmap:∀l:List Nat,(∀k∈l,k<n)→l.map (bg (upd A n wr.heap.size))=l.map (bg A):=fun l hl=>by refine List.map_congr_left fun k hk=>?_;have:=hl k hk;unfold bg;rw [upd_ne _ _ (by omega)]
 have hsz:(wr.alloc (.cells #[.string nm,.slice none 0 0,.int .i64 0] 122)).heap.size=wr.heap.size+1:=World.size_alloc _ _;have h2:=h1.push (k:=o) (c:=n) (v:=.slice (some ⟨g,0,none⟩) m cap) (by omega) (by omega)
  (by
   show aF _ _ _ _ ((upd F.kids n [] o++[n]).map _);rw [upd_ne _ _ hon,List.map_append,hmap _ (h.fr.kid o ho)];show aF _ _ _ _ (_++[bg (upd A n wr.heap.size) n])
   unfold bg;rw [upd_same];exact hv) (by rw [VN];exact hg) (fun b2 hb2=>by cases hb2;rw [VN,hsz];exact hr)
 rw [hAo] at h2;have h0n:0<n:=by omega
 have hovb:∀g2,ov.ownBlock=some g2→w'.heap[g2]? = wr.heap[g2]?:=fun g2 hg2=>by have hl:=(h.RP hg2).2;rw [hg.block g2 (by rw [hsz];omega) (fun e=>h.rC g2 hg2 o ho e.symm)];exact blk_alloc_lt _ _ _ hl
 refine ⟨_,_,upd_same _ _ _,h2.Ve fun j hj=>⟨rfl,rfl,?_⟩,by rw [upd_ne _ _ (by omega)];exact h.a0,?_,fun g2 hg2 j hj=>?_,fun g2 hg2 j hj=>?_,?_⟩
 ·show upd (upd F.kids n []) o (F.kids o++[n]) j=upd (upd F.kids n []) o (upd F.kids n [] o++[n]) j
  rw [upd_ne F.kids _ hon]
 ·rw [hmap _ (fun k hk=>h.zf.opn k (List.mem_reverse.1 hk))]
  refine h.own.same fun g2 hg2=>?_;rw [blk_setCell_other _ _ _ _ (h.sP g2 hg2 o ho)];exact hovb g2 hg2
 ·by_cases e:j=n
  ·subst e;rw [upd_same];have:=(h.RP hg2).2;omega
  ·rw [upd_ne _ _ e];exact h.sP g2 hg2 j (by omega)
 ·by_cases e:j=o
  ·subst e;rw [upd_same]
   intro e2;(have e2:g=g2:=by cases e2;rfl);rcases hr with h3 | h3
   ·exact h.rC g2 hg2 j ho (by rw [h3,e2])
   ·have:=(h.RP hg2).2;omega
  ·rw [upd_ne _ _ e]
   by_cases e2:j=n
   ·subst e2;rw [upd_same];intro e3;cases e3
   ·rw [upd_ne _ _ e2];exact h.rC g2 hg2 j (by omega)
 ·have ha:Below base wr (wr.alloc (.cells #[.string nm,.slice none 0 0,.int .i64 0] 122)):=(Below.refl _ _).alloc lq _
  have hb2:Below base (wr.alloc (.cells #[.string nm,.slice none 0 0,.int .i64 0] 122)) w':=((h.fr.own o ho).alloc _).dh hg (by rw [hsz];omega);exact ((h.up.trans ha).trans hb2).setCell (p:=⟨A o,1,none⟩) (h.fr.lo o ho) _
theorem jc.store (h:jc base s R w0 top k b ov wr n A kv F o os Z st f) {ob:Obj} (hg:(wr.alloc ob).grownBy w' (kv o).ownBlock) :
  w'.cell? ⟨A o,1,none⟩=some (kv o)∧w'.frozen? ⟨A o,1,none⟩=false:=by
 have ho:=h.zf.on;have hlt:=h.fr.lt ho;have h1:w'.heap[A o]? = wr.heap[A o]?:=by rw [hg.block _ (by rw [World.size_alloc];omega) (fun e=>h.fr.apart o o ho ho e.symm)];exact blk_alloc_lt _ _ _ hlt
 constructor
 ·simp only [World.cell?,h1];exact h.fr.oZ ho
 ·simp only [World.frozen?,h1];exact h.fr.thaw ho 1
theorem jc.VO (h:jc base s R w0 top k b ov wr n A kv F o os Z st f):((F.kids o).map (bg A)).length=(F.kids o).length∧(F.kids o).length≤1000000:=by
 refine ⟨List.length_map _,?_⟩;have:=nQ (h.zf.nd o h.zf.on) (fun x hx=>(h.zf.kid o h.zf.on x hx).2);have:=h.zf.big;omega
theorem jc.leaf (h:jc base s R w0 top k b ov wr n A kv F o os Z st f) (hb:n<2000) {W:World} {A':Nat→Nat} {kv':Nat→Value} {nm:ByteArray} {k' f':Nat} (hk:k+1≤k') (hN:RQ base w0 top ov n A' kv' (iH F n o nm) (o::os) W)
  (hrun:pz f' (s.data.toList.drop k') ((Z++[.node nm []])::st) true=R) (hf:s.size<f'+k'):AL base s R w0 top k' true ov W :=
 ⟨_,_,_,_,_,_,_,_,_,⟨hN.fr,hN.a0,h.zf.leaf nm hb,hN.own,hN.sP,hN.rC,h.last,(by have:=h.nk;omega),(by have:=h.ol;omega),(fun _=>by simp),hrun,hf,hN.up⟩⟩
theorem jc.opened (h:jc base s R w0 top k b ov wr n A kv F o os Z st f) (hb:n<2000) {W:World} {A':Nat→Nat} {kv':Nat→Value} {f' g m cap:Nat} (hN:RQ base w0 top ov n A' kv' (iH F n o ByteArray.empty) (o::os) W) (lq:base≤W.heap.size)
  (hv:aF base 119 w' (.slice (some ⟨g,0,none⟩) m cap) ((o::os).reverse.map (bg A')++[bg A' n])) (hg:W.grownBy w' ov.ownBlock) (hr:ov.ownBlock=some g∨W.heap.size≤g)
  (hrun:pz f' (s.data.toList.drop (k+1)) ([]::Z::st) false=R) (hf:s.size<f'+(k+1)):AL base s R w0 top (k+1) false (.slice (some ⟨g,0,none⟩) m cap) w':=by
 have hold:∀b2,b2<W.heap.size→(∀g2,ov.ownBlock=some g2→b2≠g2)→w'.heap[b2]? = W.heap[b2]?:=fun b2 hb2 hne=>hg.block b2 hb2 fun e=>hne b2 e.symm rfl;refine ⟨_,_,_,_,_,_,_,_,_,⟨hN.fr.same (fun i hi=>hold _ (hN.fr.lt hi) fun g2 hg2 e=>hN.sP g2 hg2 i hi e.symm) (fun i b2 hi hb2=>hold _ (hN.fr.fU hi hb2).2 fun g2 hg2 e=>hN.rC g2 hg2 i hi (by rw [hb2,e])),hN.a0,h.zf.open hb,?_,fun g2 hg2 j hj=>?_,fun g2 hg2 j hj=>?_,?_,(by have:=h.nk;omega),(by have:=h.ol;simp;omega),(fun e=>by cases e),hrun,hf,hN.up.trans (hN.own.dh hg lq)⟩⟩
 ·rw [List.reverse_cons,List.map_append];exact hv
 ·have hg2:some g=some g2:=hg2
  injection hg2 with hg2;subst hg2;rcases hr with h1 | h1
  ·exact hN.sP g h1 j hj
  ·have:=hN.fr.lt hj;omega
 ·have hg2:some g=some g2:=hg2
  injection hg2 with hg2;subst hg2;intro e;rcases hr with h1 | h1
  ·exact hN.rC g h1 j hj e
  ·have:=(hN.fr.fU hj e).2;omega
 ·rw [List.getLast?_cons_cons];exact h.last
theorem jc.VP {q:Nat} {Y:List RT} {st2:List (List RT)} {os2:List Nat} (h:jc base s R w0 top k b ov wr n A kv F o (q::os2) Z (Y::st2) f) {g cap f':Nat} (RR:ov=.slice (some ⟨g,0,none⟩) (os2.length+2) cap)
  (hrun:pz f' (s.data.toList.drop (k+1)) ((Y++[.node ByteArray.empty Z])::st2) true=R) (hf:s.size<f'+(k+1)):AL base s R w0 top (k+1) true (.slice (some ⟨g,0,none⟩) (os2.length+1) cap) wr:=by
 subst RR;refine ⟨_,_,_,_,_,_,_,_,_,⟨h.fr,h.a0,h.zf.pop,?_,h.sP,h.rC,?_,(by have:=h.nk;omega),(by have:=h.ol;simp at this;omega),(fun _=>by simp),hrun,hf,h.up⟩⟩
 ·have h1:=My h.own (m:=os2.length+1) (by omega)
  have e:((o::q::os2).reverse.map (bg A)).take (os2.length+1)=(q::os2).reverse.map (bg A):=by rw [List.reverse_cons,List.map_append,List.take_append_of_le_length (by simp)];rw [List.take_of_length_le (by simp)]
  rw [e] at h1;exact h1
 ·have:=h.last
  rw [List.getLast?_cons_cons] at this;exact this
theorem jc.comma (h:jc base s R w0 top k b ov wr n A kv F o os Z st f) {f':Nat} (hrun:pz f' (s.data.toList.drop (k+1)) (Z::st) false=R) (hf:s.size<f'+(k+1)):AL base s R w0 top (k+1) false ov wr :=
 ⟨_,_,_,_,_,_,_,_,_,⟨h.fr,h.a0,h.zf,h.own,h.sP,h.rC,h.last,(by have:=h.nk;omega),(by have:=h.ol;omega),(fun e=>by cases e),hrun,hf,h.up⟩⟩
theorem jc.drew (h:jc base s R w0 top k b ov wr n A kv F o os Z st f):jc base s R w0 top k b ov wr.drew n A kv F o os Z st f :=
 ⟨h.fr.up (Up.drewN wr 1),h.a0,h.zf,h.own.same fun _ _=>rfl,h.sP,h.rC,h.last,h.nk,h.ol,h.VM,h.run,h.fuel,h.up.drew⟩
theorem jc.VQ (h:jc base s R w0 top k b ov wr n A kv F o os Z st f) (hu:Up wr w'):jc base s R w0 top k b ov w' n A kv F o os Z st f :=
 ⟨h.fr.up hu,h.a0,h.zf,h.own.same fun _ hg=>Below.block hu _ (h.RP hg).2,h.sP,h.rC,h.last,h.nk,h.ol,h.VM,h.run,h.fuel,h.up.trans (hu.mono (Nat.le_trans (h.fr.lo 0 (by have:=h.zf.on;omega)) (Nat.le_of_lt (h.fr.lt (i:=0) (by have:=h.zf.on;omega)))))⟩
theorem jc.step (h:jc base s R w0 top k b ov wr n A kv F o os Z st f) (hk:k<s.size):∃f' ch,f=f'+1∧s.size<f'+(k+1)∧s.data.toList.drop k=ch::s.data.toList.drop (k+1)∧s[k]=ch:=by
 have hf:=h.fuel;refine ⟨f - 1,s[k],by omega,by omega,?_,rfl⟩;have hl:k<s.data.toList.length:=by rw [Array.length_toList];exact hk
 rw [List.drop_eq_getElem_cons hl];congr 1
end
theorem P9 (w1:World) (s:ByteArray):AL w1.heap.size s (iL s.data.toList) w1 w1.heap.size 0 false (.slice (some ⟨w1.heap.size+1,0,none⟩) 1 1)
  ((w1.alloc (.cells #[.string ⟨#[]⟩,.slice none 0 0,.int .i64 0] 122)).alloc (.cells #[.pointer (some ⟨w1.heap.size,0,none⟩)] 119)):=by
 have hs1:(w1.alloc (.cells #[.string ⟨#[]⟩,.slice none 0 0,.int .i64 0] 122)).heap.size=w1.heap.size+1:=World.size_alloc _ _;have h1:=((bf.empty w1.heap.size (fun _=>w1.heap.size) (fun _=>.slice none 0 0) ⟨fun _=>⟨#[]⟩,fun _=>0,fun _=>[]⟩ w1).ze (Nat.le_refl _) ⟨#[]⟩ 0).up (Up.alloc _ (.cells #[.pointer (some ⟨w1.heap.size,0,none⟩)] 119));have h0:∀j,j<1→j=0:=fun j hj=>by omega
 have hA:∀j,j<0+1→upd (fun _=>w1.heap.size) 0 w1.heap.size j=w1.heap.size:=fun j hj=>by rw [h0 j hj,upd_same]
 have hown:aF w1.heap.size 119 ((w1.alloc (.cells #[.string ⟨#[]⟩,.slice none 0 0,.int .i64 0] 122)).alloc (.cells #[.pointer (some ⟨w1.heap.size,0,none⟩)] 119)) (.slice (some ⟨w1.heap.size+1,0,none⟩) 1 1) (([0]:List Nat).reverse.map (bg (upd (fun _=>w1.heap.size) 0 w1.heap.size))):=by have hb:=blk_alloc_new (w1.alloc (.cells #[.string ⟨#[]⟩,.slice none 0 0,.int .i64 0] 122)) (.cells #[.pointer (some ⟨w1.heap.size,0,none⟩)] 119);rw [hs1] at hb;exact ⟨rfl,.inr ⟨w1.heap.size+1,1,_,rfl,by omega,hb,⟨by simp,by unfold maxLen;omega,rfl,by simp [bg,upd_same]⟩⟩⟩
 refine ⟨0+1,_,_,_,0,[],[],[],s.data.toList.length+1,⟨h1,upd_same _ _ _,?_,hown,fun g hg j hj=>?_,fun g hg j hj=>?_,rfl,Nat.le_refl _,Nat.zero_le _,(fun e=>by cases e),rfl,?_,((Up.alloc w1 _).trans (Up.alloc _ _))⟩⟩
 ·refine ⟨by omega,fun i hi k hk=>?_,fun p q k hp hq _ _=>by omega,fun i hi=>?_,⟨?_,⟨[],?_,rfl⟩,trivial⟩,fun o ho=>by simp at ho;omega,by simp⟩
  ·rw [h0 i hi] at hk
   have hk:k∈upd (fun _=>([]:List Nat)) 0 [] 0:=hk;rw [upd_same] at hk;cases hk
  ·rw [h0 i hi]
   show (upd (fun _=>([]:List Nat)) 0 [] 0).Nodup;rw [upd_same];exact List.nodup_nil
  ·show (upd (fun _=>(⟨#[]⟩:ByteArray)) 0 ⟨#[]⟩ 0).size=0
   rw [upd_same];rfl
  ·show upd (fun _=>([]:List Nat)) 0 [] 0=_
   rw [upd_same];rfl
 ·have hg:some (w1.heap.size+1)=some g:=hg
  injection hg with hg;rw [hA j hj];omega
 ·rw [h0 j hj,upd_same];intro e;cases e
 ·rw [Array.length_toList]
  show s.data.size<_;omega
end
section
open Go.RowKit Go.Deep
theorem S1 {a b:List Int} (hl:a.length=b.length) (h:∀k,k<a.length→gi a k=gi b k):a=b:=by
 refine List.ext_getElem hl fun k h1 h2=>?_;have:=h k h1;simpa [gi,h1,h2] using this
theorem S2 {a b:List ByteArray} (hl:a.length=b.length) (h:∀k,k<a.length→gs a k=gs b k):a=b:=by
 refine List.ext_getElem hl fun k h1 h2=>?_;have:=h k h1;simpa [gs,h1,h2] using this
theorem S3 {t u:aD} (h1:t.ps=u.ps) (h2:t.ns=u.ns):t=u:=by
 cases t;cases u;simp only at h1 h2;rw [h1,h2]
set_option maxHeartbeats 4000000 in
theorem Hs (S T:Nat→Prop) (w:World) (v u:Value) (t q:aD) (h:au S w v t) (h2:au T w u q) (hp:t.ps.length≤1000000) (hn:t.ns.length≤1000000) (hne:t≠q) :
  Calls Tryz.prog 37 #[v,u] w fun e w'=>e=.returned (.bool false)∧Up w w':=by
 obtain ⟨P,N,rfl,hP,hN⟩:=h;obtain ⟨P2,N2,rfl,fE,eZ⟩:=h2;obtain ⟨pp,pc,rfl,_,_⟩:=aC.open hP;obtain ⟨np,nc,rfl,_,_⟩:=aC.open hN;obtain ⟨oD,oF,rfl,_,_⟩:=aC.open fE;obtain ⟨oG,oH,rfl,_,_⟩:=aC.open eZ;have hP:aj S w (.slice pp t.ps.length pc) t.ps:=hP;have hN:ah S w (.slice np t.ns.length nc) t.ns:=hN;have fE:aj T w (.slice oD q.ps.length oF) q.ps:=fE;have eZ:ah T w (.slice oG q.ns.length oH) q.ns:=eZ;have aO:=Up.alloc w (.cells #[.slice pp t.ps.length pc,.slice np t.ns.length nc] 39)
 have aG:=Up.alloc (w.alloc (.cells #[.slice pp t.ps.length pc,.slice np t.ns.length nc] 39)) (.cells #[.slice oD q.ps.length oF,.slice oG q.ns.length oH] 39);have hu:=aO.trans aG;have a0:=aG.cell (dc w (.slice pp t.ps.length pc) (.slice np t.ns.length nc) 39);have a1:=aG.cell (dz w (.slice pp t.ps.length pc) (.slice np t.ns.length nc) 39);have b0:=dc (w.alloc (.cells #[.slice pp t.ps.length pc,.slice np t.ns.length nc] 39)) (.slice oD q.ps.length oF) (.slice oG q.ns.length oH) 39
 have b1:=dz (w.alloc (.cells #[.slice pp t.ps.length pc,.slice np t.ns.length nc] 39)) (.slice oD q.ps.length oF) (.slice oG q.ns.length oH) 39;rw [World.size_alloc] at b0 b1;have HP:=aa (aj.keep hP (hu.kept S));have HN:=aa (ah.keep hN (hu.kept S));have Af:=aa (aj.keep fE (hu.kept T));have jP:=aa (ah.keep eZ (hu.kept T));have HU:=aa hu;have A0:=aa a0;have A1:=aa a1;have Uv:=aa b0;have Uw:=aa b1;have qT:=aa hne;have gO:=aa (And.intro hp hn);clear hP hN fE eZ hu aO aG hne hp hn
 by_cases l0:t.ps.length=q.ps.length
 rotate_left
 ·have d0:((t.ps.length:Int) != (q.ps.length:Int))=true:=bne_iff_ne.2 (by omega)
  go_enter Tryz.func37,Tryz.ntmps37
  go_wp2_with fail;go_ret;exact ⟨rfl,HU.out⟩
 by_cases l1:t.ns.length=q.ns.length
 rotate_left
 ·have d0:((t.ps.length:Int) != (q.ps.length:Int))=false:=by rw [l0];simp
  have d1:((t.ns.length:Int) != (q.ns.length:Int))=true:=bne_iff_ne.2 (by omega);have L0:=aa l0;clear l0
  go_enter Tryz.func37,Tryz.ntmps37
  go_wp2_with fail;go_ret;exact ⟨rfl,HU.out⟩
 have d0:((t.ps.length:Int) != (q.ps.length:Int))=false:=by rw [l0];simp
 have d1:((t.ns.length:Int) != (q.ns.length:Int))=false:=by rw [l1];simp
 have L0:=aa l0;have L1:=aa l1;clear l0 l1
 go_enter Tryz.func37,Tryz.ntmps37
 go_wp2_with fail;clear a0 a1 b0 b1;clear d0 d1;generalize (w.alloc (.cells #[.slice pp t.ps.length pc,.slice np t.ns.length nc] 39)).alloc (.cells #[.slice oD q.ps.length oF,.slice oG q.ns.length oH] 39)=w1 at *
 go_loopw [5] (fun i wr=>∃k:Nat,k≤t.ps.length∧i=.int .i64 k∧Hid (QD w1 wr)∧Hid (∀j,j<k→gi t.ps j=gi q.ps j)) (fun i _=>t.ps.length - (intOf i).toNat)
 case atStart=>exact ⟨0,Nat.zero_le _,rfl,QD.refl _,fun j hj=>by omega⟩
 case round =>
  obtain ⟨k,hk,rfl,hQ,hd⟩:=hrel;have HD:=aa hd.out;clear hd;have a0:=hQ.out.up.cell A0.out;have b0:=hQ.out.up.cell Uv.out;by_cases hlt:k<t.ps.length
  ·obtain ⟨b,off,rfl,hc⟩:=bQ (aj.keep HP.out (hQ.out.kept S)) hlt
   obtain ⟨b2,off2,rfl,hc2⟩:=bQ (aj.keep Af.out (hQ.out.kept T)) (by rw [← L0.out];exact hlt);(have i1:(0:Int)≤(k:Int):=by omega);(have i2:(k:Int)<(t.ps.length:Int):=by omega);(have i4:(k:Int)<(q.ps.length:Int):=by have:=L0.out;omega);(have i3:(k:Int)<1000000:=by have:=gO.out.1;omega);have aW:=aa hlt;by_cases e:gi t.ps k=gi q.ps k
   ·have j1:(gi t.ps k != gi q.ps k)=false:=by rw [e];simp
    have Mb:Hid (∀j,j<k+1→gi t.ps j=gi q.ps j):=fun j hj=>by
     by_cases x:j=k
     ·rw [x];exact e
     ·exact HD.out j (by omega)
    clear e hlt hk;generalize gi t.ps k=x at *;generalize gi q.ps k=y at *;go_wp2_with fail;(go_quiet (fail));go_wp2_with fail
    go_roundw
    case rel=>exact ⟨k+1,aW.out,by go_num,hQ.out.drewN nq,Mb.out⟩
    case measure=>have:=aW.out;simp [intOf];omega
   ·have j1:(gi t.ps k != gi q.ps k)=true:=bne_iff_ne.2 e
    clear hlt hk;generalize gi t.ps k=x at *;generalize gi q.ps k=y at *;go_wp2_with fail;(go_quiet (fail));go_wp2_with fail;go_ret;exact ⟨rfl,HU.out.trans (hQ.out.drewN nq).up⟩
  ·obtain rfl:k=t.ps.length:=by omega
   have Ux:=aa hQ.out;have MW:Hid (t.ps=q.ps):=S1 L0.out HD.out;(have m1:¬(t.ps.length:Int)<(t.ps.length:Int):=by omega);clear hlt hk;go_wp2_with fail
   go_loopw [6] (fun i wr=>∃k:Nat,k≤t.ns.length∧i=.int .i64 k∧Hid (QD w1 wr)∧Hid (∀j,j<k→gs t.ns j=gs q.ns j)) (fun i _=>t.ns.length - (intOf i).toNat)
   case atStart=>exact ⟨0,Nat.zero_le _,rfl,Ux.out,fun j hj=>by omega⟩
   case round =>
    obtain ⟨k,hk,rfl,hQ,hd⟩:=hrel;have HD:=aa hd.out;clear hd;have a1:=hQ.out.up.cell A1.out;have b1:=hQ.out.up.cell Uw.out;by_cases hlt:k<t.ns.length
    ·obtain ⟨b,off,rfl,hc⟩:=bI (ah.keep HN.out (hQ.out.kept S)) hlt
     obtain ⟨b2,off2,rfl,hc2⟩:=bI (ah.keep jP.out (hQ.out.kept T)) (by rw [← L1.out];exact hlt);(have i1:(0:Int)≤(k:Int):=by omega);(have i2:(k:Int)<(t.ns.length:Int):=by omega);(have i4:(k:Int)<(q.ns.length:Int):=by have:=L1.out;omega);(have i3:(k:Int)<1000000:=by have:=gO.out.2;omega);have aW:=aa hlt;by_cases e:gs t.ns k=gs q.ns k
     ·have j1:((gs t.ns k).toList==(gs q.ns k).toList)=true:=by rw [e];simp
      have Mb:Hid (∀j,j<k+1→gs t.ns j=gs q.ns j):=fun j hj=>by
       by_cases x:j=k
       ·rw [x];exact e
       ·exact HD.out j (by omega)
      clear e hlt hk;generalize gs t.ns k=x at *;generalize gs q.ns k=y at *;go_wp2_with fail;(go_quiet (fail));go_wp2_with fail
      go_roundw
      case rel=>exact ⟨k+1,aW.out,by go_num,hQ.out.drewN nq,Mb.out⟩
      case measure=>have:=aW.out;simp [intOf];omega
     ·have j1:((gs t.ns k).toList==(gs q.ns k).toList)=false:=by
       rw [beq_eq_false_iff_ne,toList_data,toList_data]
       exact fun h=>e (eD h)
      clear hlt hk e
      generalize gs t.ns k=x at *
      generalize gs q.ns k=y at *
      go_wp2_with fail
      go_quiet (fail)
      go_wp2_with fail
      go_ret
      exact ⟨rfl,HU.out.trans (hQ.out.drewN nq).up⟩
    ·obtain rfl:k=t.ns.length:=by omega
     exact absurd (S3 MW.out (S2 L1.out HD.out)) qT.out
theorem AO (S T:Nat→Prop) (w:World) (v u:Value) (t q:aD) (h:au S w v t) (h2:au T w u q) (hp:t.ps.length≤1000000) (hn:t.ns.length≤1000000) :
  Calls Tryz.prog 37 #[v,u] w fun e w'=>e=.returned (.bool (decide (t=q)))∧Up w w':=by
 by_cases e:t=q
 ·subst e
  rw [decide_eq_true rfl];exact ED S T w v u t h h2 hp hn
 ·rw [decide_eq_false e]
  exact Hs S T w v u t q h h2 hp hn e
end
end Go.Proofs.YthgabkgmkolobaaGreat
