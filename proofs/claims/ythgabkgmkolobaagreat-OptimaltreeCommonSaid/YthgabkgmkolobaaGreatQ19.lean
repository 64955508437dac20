/- Plain: binary trees as rose trees, and their list, sorted by text. Plain: the texts of .. -/
import Derived.Shelf.Strings.IndexAnyAll
import Derived.Test.YthgabkgmkolobaaGreatQ18
set_option maxRecDepth 100000
namespace Go.Proofs.YthgabkgmkolobaaGreat
section
def eF:BT ByteArray->RT
 | .leaf x=>.node x []
 | .node a b=>.node ByteArray.empty [eF a,eF b]
theorem J6:∀r:BT ByteArray,aU (eF r)+1=2*r.eR.length
 | .leaf x=>by simp [eF,BT.eR,aU,bE]
 | .node a b=>by
  have h1:=J6 a
  have h2:=J6 b
  simp only [eF,BT.eR,aU,bE,aZ]
  omega
theorem Pk:∀r:BT ByteArray,(∀x∈r.eR,x.size≠0)->dx (eF r)=r.eR
 | .leaf x,h=>F0 (h x (by simp [BT.eR]))
 | .node a b,h=>by
  rw [eF,kT rfl,gU,gU,List.flatMap_nil,gN,BT.eR]
  rw [Pk a fun x hx=>h x (by rw [BT.eR];exact JS _ hx),Pk b fun x hx=>h x (by rw [BT.eR];exact JT _ hx)]
theorem Pm:∀r:BT ByteArray,(∀x∈r.eR,b7 x.data.toList=true)->∀s∈bH (eF r),IK s
 | .leaf x,h,s,hs=>by
  rw [eF,bH,eZ,dP] at hs
  subst hs
  exact ⟨fun e=>absurd rfl e,fun _=>h x (by simp [BT.eR]),by simp [RT.kids]⟩
 | .node a b,h,s,hs=>by
  rw [eF,bH,eZ,eZ,eZ,gN,aW,dV] at hs
  rcases hs with rfl | hs | hs
  ·exact ⟨fun _=>rfl,(fun e=>by cases e),by simp [RT.kids]⟩
  ·exact Pm a (fun x hx=>h x (by rw [BT.eR];exact JS _ hx)) s hs
  ·exact Pm b (fun x hx=>h x (by rw [BT.eR];exact JT _ hx)) s hs
structure xw (r:BT ByteArray):Prop where
 nd:r.eR.Nodup
 nm:∀x∈r.eR,b7 x.data.toList=true
theorem xw.sz {r:BT ByteArray} (h:xw r):∀x∈r.eR,x.size≠0:=fun x hx=>jR (h.nm x hx)
theorem xw.leaf {r:BT ByteArray} (h:xw r):dx (eF r)=r.eR:=Pk r h.sz
theorem xw.Ri {r:BT ByteArray} (h:xw r):GZ (eF r):=⟨by rw [h.leaf];exact h.nd,Pm r h.nm⟩
theorem bt_tx (a b:BT ByteArray):dy (eF (.node a b))=40::(dy (eF a)++(44::dy (eF b))++[41]):=by
 rw [eF,dy,fK,fK,gN]
def fq (r:RT):List UInt8:=dy r++[59]
def LQ (a:RT):List RT->List RT
 | []=>[a]
 | b::l=>if Lib.compareBytes (fq b) (fq a)<=0 then b::LQ a l else a::b::l
def srtT:List RT->List RT
 | []=>[]
 | a::l=>LQ a (srtT l)
theorem I3 (a:RT):∀l,(LQ a l).Perm (a::l)
 | []=>k9 _
 | b::l=>by
  rw [LQ]
  split
  ·exact ((I3 a l).cons b).trans (List.Perm.swap a b l)
  ·exact k9 _
theorem tA:∀l,(srtT l).Perm l
 | []=>k9 _
 | a::l=>(I3 a _).trans ((tA l).cons a)
def kZ (a b:RT):Prop:=Lib.compareBytes (fq a) (fq b)<=0
theorem kZ.trans {a b c:RT} (h1:kZ a b) (h2:kZ b c):kZ a c:=by
 unfold kZ at *;rw [Y4] at *;exact Std.le_trans h1 h2
theorem kZ.total {a b:RT} (h:¬kZ a b):kZ b a:=by
 unfold kZ at *;rw [vB];omega
theorem KR (a:RT):∀l:List RT,l.Pairwise kZ->(LQ a l).Pairwise kZ
 | [],_=>by simp [LQ]
 | b::l,h=>by
  rw [LQ]
  obtain ⟨h1,h2⟩:=iI.1 h
  split
  ·rename_i hb
   refine iI.2 ⟨fun c hc=>?_,KR a l h2⟩
   rcases aW.1 ((I3 a l).mem_iff.1 hc) with rfl | hc
   ·exact hb
   ·exact h1 c hc
  ·rename_i hb
   have hab:kZ a b:=kZ.total hb
   refine iI.2 ⟨fun c hc=>?_,h⟩
   rcases aW.1 hc with rfl | hc
   ·exact hab
   ·exact hab.trans (h1 c hc)
theorem DW:∀l:List RT,(srtT l).Pairwise kZ
 | []=>List.Pairwise.nil
 | a::l=>KR a _ (DW l)
theorem kZ.anti {a b:RT} (ha:tu a) (hb:tu b) (h1:kZ a b) (h2:kZ b a):a=b:=by
 unfold kZ at *;have h3:=vB (fq a) (fq b);have h4:fq a=fq b:=xT (by omega);exact tx_inj ha hb (List.append_cancel_right h4)
theorem F2:∀ {l m:List RT},l.Perm m->l.Pairwise kZ->m.Pairwise kZ->(∀r∈l,tu r)->l=m
 | [],m,h,_,_,_=>(List.nil_perm.1 h).symm
 | a::l,[],h,_,_,_=>absurd (List.perm_nil.1 h) (by simp)
 | a::l,b::m,h,h1,h2,ho=>by
  obtain ⟨a1,a2⟩:=iI.1 h1
  obtain ⟨b1,b2⟩:=iI.1 h2
  have e:a=b:=by
   have hb:b∈a::l:=h.mem_iff.2 (by simp)
   have ha:a∈b::m:=h.mem_iff.1 (by simp)
   rcases aW.1 hb with hb' | hb'
   ·exact hb'.symm
   rcases aW.1 ha with ha' | ha'
   ·exact ha'
   exact kZ.anti (ho a (by simp)) (ho b hb) (a1 b hb') (b1 a ha')
  subst e
  rw [F2 ((List.perm_cons a).1 h) a2 b2 fun r hr=>ho r (by simp [hr])]
def uB (aac:List ByteArray) (r:BT ByteArray):BT ByteArray:=.node (.leaf (gs aac 0)) r
def uR (aac:List ByteArray) (r:BT ByteArray):RT:=cn (eF (uB aac r))
def cI (aac:List ByteArray):List RT:=srtT ((rt aac.length aac.tail).map (uR aac))
def allT (aac:List ByteArray):List az:=(cI aac).map flat
structure gT (aac:List ByteArray):Prop where
 lo:2<=aac.length
 hi:aac.length<=5
 nm:∀x∈aac,b7 x.data.toList=true
 nd:aac.Nodup
theorem gT.cons {aac:List ByteArray} (h:gT aac):gs aac 0::aac.tail=aac:=by
 have:=h.lo;cases aac with
 | nil=>simp at this
 | cons a l=>rfl
theorem EO {aac:List ByteArray} (h:gT aac) {r:BT ByteArray} (hr:r.eR.Perm aac.tail):(uB aac r).eR.Perm aac:=by
 have h1:(uB aac r).eR=gs aac 0::r.eR:=rfl;rw [h1];exact (hr.cons _).trans (List.Perm.of_eq h.cons)
theorem uB_ok {aac:List ByteArray} (h:gT aac) {r:BT ByteArray} (hr:r.eR.Perm aac.tail):xw (uB aac r) :=
 ⟨(EO h hr).symm.nodup h.nd,fun x hx=>h.nm x ((EO h hr).mem_iff.1 hx)⟩
theorem F3 {aac:List ByteArray} {q:RT}:q∈cI aac↔∃r∈rt aac.length aac.tail,uR aac r=q:=by
 unfold cI;rw [(tA _).mem_iff,cm]
theorem allR_len (aac:List ByteArray):(cI aac).length=(rt aac.length aac.tail).length:=by
 unfold cI;rw [(tA _).length_eq,aG]
theorem jU {aac:List ByteArray} (h:gT aac) {q:RT} (hq:q∈cI aac):GZ q/\(dx q).Perm aac/\aU q+1=2*aac.length/\cn q=q/\aH (flat q)=0/\o8 (flat q)=flat q:=by
 obtain ⟨r,hr,rfl⟩:=F3.1 hq;have hl:=Iy _ _ _ hr;have ho:=uB_ok h hl;have hs:=J6 (uB aac r);have hpl:=(EO h hl).length_eq;have hhi:=h.hi;have hz:aU (uR aac r)+1=2*aac.length:=by unfold uR;rw [Nz];omega
 have hg:iq (uR aac r):=ho.Ri.good.sort;have h2:cn (uR aac r)=uR aac r:=FO _;have ht:=BS hg (by omega);refine ⟨⟨(tQ _).symm.nodup ho.Ri.nd,fun s hs=>?_⟩,?_,hz,h2,ht,by rw [wh ht,vE,h2]⟩
 ·obtain ⟨u,hu,rfl⟩:=cm.1 ((nG _).mem_iff.1 hs)
  obtain ⟨p1,p2,p3⟩:=ho.Ri.pt u hu;rw [IK,xd,BU,(sg _).length_eq,aG];exact ⟨fun hk=>p1 fun e=>hk (rI.2 e),fun hk=>p2 (rI.1 hk),p3⟩
 ·refine (tQ _).trans ?_
  rw [ho.leaf];exact EO h hl
theorem rO {aac:List ByteArray} (h:gT aac):(cI aac).length=if aac.length=2 then 1 else if aac.length=3 then 1 else if aac.length=4 then 3 else 15:=by
 rw [allR_len];have hlo:=h.lo;have hhi:=h.hi;have e:aac.tail=((List.range' 1 (aac.length - 1)).map fun i=>gs aac i):=by
  apply wM
  ·simp
  ·intro i h1 h2
   simp at h1;simp [gs];rw [iQ (by omega)];simp [Nat.add_comm]
 rw [e,NC,aG];generalize aac.length=n at *;obtain rfl | rfl | rfl | rfl:n=2\/n=3\/n=4\/n=5:=by omega
 ·decide +kernel
 ·decide +kernel
 ·decide +kernel
 ·decide +kernel
end
section
theorem qo {α β:Type} {f g:α->List β}:∀ {l:List α},(∀a∈l,f a=g a)->l.flatMap f=l.flatMap g
 | [],_=>rfl
 | a::l,h=>by
  rw [gU,gU,h a (by simp),qo fun b hb=>h b (by simp [hb])]
theorem Rj {α:Type} [Inhabited α] (L:List α) {bits:Nat} (h1:1<=bits) (h2:bits<2 ^ L.length):1<=(cG (fun i=>bits.testBit i) L L.length).length/\(cG (fun i=>bits.testBit i) L L.length).length+(cG (fun i=>!bits.testBit i) L L.length).length=L.length:=by
 have h3:=(yI (fun i=>bits.testBit i) L (n:=L.length) (af _)).length_eq;rw [aZ,gV] at h3;refine ⟨?_,by omega⟩;rcases yY (cG (fun i=>bits.testBit i) L L.length).length with e | e
 ·exfalso
  have h5:cG (fun i=>bits.testBit i) L L.length=[]:=oJ e;have hz:bits=0:=Nat.eq_of_testBit_eq fun i=>by
   rw [Nat.zero_testBit];by_cases hi:i<L.length
   ·cases hb:bits.testBit i
    ·rfl
    ·have:L.getD i default∈cG (fun i=>bits.testBit i) L L.length:=zb.2 ⟨i,hi,hb,rfl⟩
     rw [h5] at this;cases this
   ·exact Nat.testBit_lt_two_pow (js h2 (Nat.pow_le_pow_right (by decide) (by omega)))
  omega
 ·exact e
theorem yc {α:Type} [Inhabited α]:∀(d e:Nat) (L:List α),L.length<=d->L.length<=e->rt d L=rt e L
 | 0,e,L,h,_=>by
  have:L=[]:=oJ (by omega)
  subst this
  cases e<;>rfl
 | d+1,0,L,_,h=>by
  have:L=[]:=oJ (by omega)
  subst this;rfl
 | _+1,_+1,[],_,_=>rfl
 | _+1,_+1,[x],_,_=>rfl
 | d+1,e+1,x::y::L,h1,h2=>by
  rw [rt,rt]
  refine qo fun bits hb=>?_
  rw [List.mem_range'_1] at hb
  obtain ⟨p1,p2⟩:=Rj (y::L) (bits:=bits) hb.1 (by omega)
  have hl:(y::L).length=L.length+1:=rfl
  rw [aT,hl] at h1 h2
  rw [yc d e (x::_) (by rw [aT];omega) (by rw [aT];omega),yc d e (cG _ _ _) (by omega) (by omega)]
def dA (L:List ByteArray) (bits:Nat):List ByteArray:=gs L 0::cG (fun i=>!bits.testBit i) L.tail (L.length - 1)
def dB (L:List ByteArray) (bits:Nat):List ByteArray:=cG (fun i=>bits.testBit i) L.tail (L.length - 1)
def r5 (L:List ByteArray):List (BT ByteArray):=rt L.length L
def qx (r:BT ByteArray):ByteArray:=⟨(dy (eF r)).toArray⟩
def dH (L:List ByteArray):List ByteArray:=(r5 L).map qx
def pairT (s t:ByteArray):ByteArray:=⟨#[40]⟩++s++⟨#[44]⟩++t++⟨#[41]⟩
def NR (L:List ByteArray) (bits:Nat):List ByteArray:=(dH (dA L bits)).flatMap fun s=>(dH (dB L bits)).map fun t=>pairT s t
theorem LR (x:ByteArray):qx (.leaf x)=x:=by
 unfold qx;rw [eF,FY]
theorem LS (a b:BT ByteArray):qx (.node a b)=pairT (qx a) (qx b):=by
 unfold pairT;apply j9;unfold qx;rw [bt_tx];simp
theorem d_len {L:List ByteArray} (h:2<=L.length) {bits:Nat} (h1:1<=bits) (h2:bits<2 ^ (L.length - 1)):(dA L bits).length<L.length/\1<=(dA L bits).length/\(dB L bits).length<L.length/\1<=(dB L bits).length:=by
 have hl:L.tail.length=L.length - 1:=by simp
 obtain ⟨p1,p2⟩:=Rj L.tail (bits:=bits) h1 (by rw [hl];exact h2);unfold dA dB;rw [aT,<- hl];omega
theorem rtT_one (x:ByteArray):dH [x]=[x]:=by
 unfold dH r5;rw [CM,rt,List.map_singleton,LR]
theorem rtT_eq {L:List ByteArray} (h:2<=L.length):dH L=(List.range' 1 (2 ^ (L.length - 1) - 1)).flatMap (NR L):=by
 obtain ⟨x,y,L,rfl⟩:∃x y L',L=x::y::L':=by
  cases L with
  | nil=>simp at h
  | cons x L =>
   cases L with
   | nil=>simp at h
   | cons y L=>exact ⟨x,y,L,rfl⟩
 unfold dH r5;have e1:(x::y::L).length=(y::L).length+1:=rfl;rw [e1,rt,CN,Nat.add_sub_cancel];refine qo fun bits hb=>?_;rw [List.mem_range'_1] at hb;have hd:=d_len (L:=x::y::L) h (bits:=bits) hb.1 (by have:(x::y::L).length - 1=(y::L).length:=rfl;rw [this];omega);unfold NR dH;rw [CN,Fu];have ea:dA (x::y::L) bits=x::cG (fun i=>!bits.testBit i) (y::L) (y::L).length:=rfl;have eb:dB (x::y::L) bits=cG (fun i=>bits.testBit i) (y::L) (y::L).length:=rfl;rw [<- ea,<- eb]
 have f1:rt (y::L).length (dA (x::y::L) bits)=r5 (dA (x::y::L) bits):=yc _ _ _ (by simp only [aT] at hd ⊢;omega) (af _);have f2:rt (y::L).length (dB (x::y::L) bits)=r5 (dB (x::y::L) bits):=yc _ _ _ (by simp only [aT] at hd ⊢;omega) (af _);rw [f1,f2];refine qo fun a _=>?_;rw [jO,jO];refine lU fun b _=>?_;exact LS a b
theorem UJ {L:List ByteArray}:∀ {n:Nat},L.length=n->n<=4->(r5 L).length=if n=0 then 0 else if n=1 then 1 else if n=2 then 1 else if n=3 then 3 else 15:=by
 intro n hn h4;have e:L=((List.range n).map fun i=>gs L i):=by
  apply wM
  ·simp [hn]
  ·intro i h1 h2
   simp [gs,h1]
 unfold r5;rw [hn];have e2:rt n L=(rt n (List.range n)).map (BT.map fun i=>gs L i):=by rw [<- NC];exact congrArg (rt n) e
 rw [e2,aG];obtain rfl | rfl | rfl | rfl | rfl:n=0\/n=1\/n=2\/n=3\/n=4:=by omega
 ·decide +kernel
 ·decide +kernel
 ·decide +kernel
 ·decide +kernel
 ·decide +kernel
theorem A6 {L:List ByteArray} (h:L.length<=4):(dH L).length<=15:=by
 unfold dH;rw [aG,UJ rfl h];split<;>(try split)<;>(try split)<;>(try split)<;>omega
theorem rtT_pos {L:List ByteArray} (h:L.length<=4) (h1:1<=L.length):1<=(dH L).length:=by
 unfold dH;rw [aG,UJ rfl h];split<;>(try split)<;>(try split)<;>(try split)<;>omega
theorem vH {α β:Type} {f:α->List β} {K:Nat}:∀l:List α,(∀a∈l,(f a).length<=K)->(l.flatMap f).length<=l.length*K
 | [],_=>by simp
 | a::l,h=>by
  rw [gU,aZ,aT,Nat.succ_mul]
  have h1:=h a (by simp)
  have h2:=vH l fun b hb=>h b (by simp [hb])
  omega
theorem dvT_len {L:List ByteArray} {bits:Nat} (ha:(dA L bits).length<=4) (hb:(dB L bits).length<=4):(NR L bits).length<=225:=by
 unfold NR;have h1:=A6 ha;have h2:=A6 hb;have h3:=vH (f:=fun s=>(dH (dB L bits)).map fun t=>pairT s t) (K:=15) (dH (dA L bits)) fun s _=>by rw [aG];exact h2
 have h4:(dH (dA L bits)).length*15<=15*15:=yZ _ h1;omega
theorem mem_d {L:List ByteArray} {bits:Nat} (h:1<=L.length):(∀x∈dA L bits,x∈L)/\∀x∈dB L bits,x∈L:=by
 have hp:∀p:Nat->Bool,∀x∈cG p L.tail (L.length - 1),x∈L:=fun p x hx=>by
  obtain ⟨i,hi,_,rfl⟩:=zb.1 hx;have hl:i<L.tail.length:=by simp;omega
  rw [kD,iQ hl];exact JU (lg hl)
 refine ⟨fun x hx=>?_,hp _⟩;rcases aW.1 hx with rfl | hx
 ·cases L with
  | nil=>simp at h
  | cons a l=>simp [gs]
 ·exact hp _ x hx
theorem pairT_size (s t:ByteArray):(pairT s t).size=s.size+t.size+3:=by
 unfold pairT;simp only [ByteArray.size_append];show 1+s.size+1+t.size+1=_;omega
theorem F4:∀r:BT ByteArray,(∀x∈r.eR,x.size<=20)->(qx r).size+3<=23*r.eR.length
 | .leaf x,h=>by
  rw [LR]
  have:=h x (by simp [BT.eR])
  simp only [BT.eR,CM]
  omega
 | .node a b,h=>by
  have h1:=F4 a fun x hx=>h x (JS _ hx)
  have h2:=F4 b fun x hx=>h x (JT _ hx)
  rw [LS,pairT_size]
  simp only [BT.eR,aZ]
  omega
theorem F5 {L:List ByteArray} (h:L.length<=4) (hz:∀x∈L,x.size<=20) {s:ByteArray} (hs:s∈dH L):s.size<=100:=by
 obtain ⟨r,hr,rfl⟩:=cm.1 hs;have hp:=Iy _ _ _ hr;have h1:=F4 r fun x hx=>hz x (hp.mem_iff.1 hx);have h2:=hp.length_eq;omega
theorem lF {L:List ByteArray} {M:Nat} (hz:∀x∈L,x.size<=M) (k:Nat):(gs L k).size<=M:=by
 by_cases hk:k<L.length
 ·have:gs L k=L[k]:=by simp [gs,hk]
  rw [this];exact hz _ (lg hk)
 ·have:gs L k=ByteArray.empty:=by simp [gs,hk]
  rw [this];exact aL _
end
section
open Go Go.RowKit Go.Deep
structure OwnStep (L L':Nat->Prop) (W W':World):Prop where
 os:W'.os=W.os
 tape:W'.tape=W.tape
 output:W'.output=W.output
 size:W.heap.size<=W'.heap.size
 block:∀b,b<W.heap.size->¬L b->W'.heap[b]? = W.heap[b]?
 more:∀b,L' b->(L b/\b<W.heap.size)\/(W.heap.size<=b/\b<W'.heap.size)
def UK {α:Type} (J:List α->(Nat->Prop)->World->Prop):Prop:=∀s L L' W W',J s L W->OwnStep L L' W W'->J s L' W'
def SeqL {α:Type} (F:Fence) (n:Nat) (P:Program) (g:Nat) (lb:Array Value) (encs:α->Array Value) (Gv:α->(Nat->Prop)->World->Prop) (Gb:α->Nat->Prop) (S:List α->Prop) (N:Nat) (w w9:World) (L0:Nat->Prop):Prop :=
 ∀(l:Nat) (J:List α->(Nat->Prop)->World->Prop) (W:World),Below w.heap.size w W->(∀b,L0 b->b<w9.heap.size/\W.heap[b]? = w9.heap[b]?)->w9.heap.size<=W.heap.size->UK J ->
  (∀pre x L W1,J pre L W1->Gv x L W1->Below w.heap.size w W1->(∀b,L b->w.heap.size<=b/\b<W1.heap.size)->pre.length<N->YieldAt F (n - 1) P l (encs x) W1 fun e W' =>
   e=.returned (.bool true)/\J (pre++[x]) L W'/\Below w.heap.size w W'/\W1.heap.size<=W'.heap.size/\∀b,(L b\/Gb x b)->W'.heap[b]? = W1.heap[b]?) ->
  J [] L0 W ->
  CallsIn F n P g (#[.func (.yield l) #[] #[]]++lb) W fun e W'=>(∃v,e=.returned v)/\∃xs L,S xs/\J xs L W'
def ownPostL {α:Type} (B:Nat) (w0:World) (I:List α->(Nat->Prop)->World->Prop) (xs:List α) (L Lk:Nat->Prop) (W:World):Exit->Act->World->Prop
 | .normal,_,W'=>KeepsFrom B W W'/\Below w0.heap.size w0 W'/\(∀b,Lk b->W'.heap[b]? = W.heap[b]?)/\I xs L W'
 | _,_,_=>False
theorem KT {α:Type} {F:Fence} {n:Nat} {P:Program} {w:World} {g:Operand} {ps:Array Tmp} {assign body:Code} {Q:Exit->Act->World->Prop} {a:Act}
  (hro:F.round=none) (h1:1<=n) {gf:Nat} {lb:Array Value} (hg:a.eval g=.func (.func gf) #[] lb) (hFg:F.fn gf) (eg:∀args w,(callFunc gf args).run P w=.ok (.enter gf args) w)
  {encs:α->Array Value} {Gv:α->(Nat->Prop)->World->Prop} {Gb:α->Nat->Prop} {S:List α->Prop} {N:Nat} {w0:World} {L0:Nat->Prop} (hseq:SeqL F (n - 1) P gf lb encs Gv Gb S N w0 w L0) (Qu:∀b,L0 b->b<w.heap.size) (hGb:∀x L W b,Gv x L W->Gb x b->∃o,W.heap[b]? = some o/\o.isCells=true) (hb0:Below w0.heap.size w0 w) (hps:∀x,(encs x).size=ps.size)
  (hGv:∀x L,OwnFrom w.heap.size (fun (_:Unit) W=>Gv x L W))
  (I:List α->(Nat->Prop)->World->Prop) (hA:UK I) (hI:∀L,OwnFrom w.heap.size (fun s W=>I s L W)) (h0:I [] L0 w) (a₁:α->Act)
  (hassign:∀(l:Nat) (x:α) (W:World) (K:Act->World->Prop),K (a₁ x) W ->
   assign.wpIn (F.inRound l) (n - 1 - 1) P (Exit.then K (fun _ _ _=>False)) { tmps:=(ps.zip (encs x)).foldl (fun t (p,v)=>t.setIfInBounds p v) a.tmps,defers:=[] } W)
  (hbody:∀(l:Nat) (pre:List α) (x:α) (L:Nat->Prop) (W:World),I pre L W->Gv x L W->Below w0.heap.size w0 W->(∀b,L b->w0.heap.size<=b/\b<W.heap.size)->pre.length<N->body.wpIn (F.inRound l) (n - 1 - 1) P (ownPostL w.heap.size w0 I (pre++[x]) L (fun b=>L b\/Gb x b) W) (a₁ x) W)
  (hdone:∀(D:Nat) (xs:List α) (L:Nat->Prop) (W:World),w.heap.size<=D->S xs->I xs L W->W.heap[D]? = some (.deferred (some []))->Q .normal { a with defers:={ target:=.collected D,args:=#[] }::a.defers } W) :
  (Code.rangeFunc g ps assign body).wpIn F n P Q a w:=by
 refine wpIn_rangeFunc ?_;intro fn hfn;rw [hro];obtain ⟨rec,I4⟩:∃rec:LoopState->Option Code->Loop,rec=fun st pe=>{ state:=st,pending:=pe,fn,tmps:=a.tmps,params:=ps,assign,body,defers:=w.heap.size }:=⟨_,rfl⟩;obtain ⟨D,hD⟩:∃D,D=w.heap.size:=⟨_,rfl⟩;obtain ⟨W1,hW1⟩:∃W1,(w.alloc (.deferred (some []))).alloc (.loop (rec .ready none))=W1:=⟨_,rfl⟩;have hsz:W1.heap.size=D+2:=by rw [<- hW1,hD];simp
 have hL1:W1.heap[D+1]? = some (.loop (rec .ready none)):=by rw [<- hW1,hD];have:=mV (w.alloc (.deferred (some []))) (.loop (rec .ready none));rwa [aQ] at this
 have hK1:W1.heap[D]? = some (.deferred (some [])):=by rw [<- hW1,hD];exact (Hr _ _ _ (by simp)).trans (mV w _)
 have hI1:I [] L0 W1:=by rw [<- hW1];exact (hI _).alloc _ ((hI _).alloc _ h0)
 have hb1:Below w0.heap.size w0 W1:=by rw [<- hW1];exact hb0.trans ((((dM _ w).alloc (af _) _).alloc (by simp) _).mono hb0.size)
 have hb0s:=hb0.size;have putB:∀ {W:World} (l:Nat) (o:Obj),D<=l->Below w0.heap.size w0 W->Below w0.heap.size w0 (W.putObj l o):=fun {W} l o hl hb =>
  ⟨hb.os,hb.tape,hb.output,by have:=hb.size;simpa using this,fun b hbb=>(nT (by omega)).trans (hb.block b hbb)⟩
 refine ⟨D+1,[{ target:=.collected D,args:=#[] }],W1,{ target:=.fn (.func gf) lb,args:=#[.func (.yield (D+1)) #[] #[]] },W1,gf,
  #[.func (.yield (D+1)) #[] #[]]++lb,W1,?_,?_,?_,?_,fun _=>h1,?_⟩
 ·rw [<- hW1,I4,hD];exact run_enterLoop_outer _ _ _ _ _
 ·simp only [resolve,hg]
  simp [go_sem]
 ·intro f' hf';simp [Target.leads] at hf';subst hf';exact hFg
 ·simp [invoke,go_sem,eg]
 ·refine (hseq (D+1) (fun pre L W=>I pre L W/\W.heap[D+1]? = some (.loop (rec .ready none))/\W.heap[D]? = some (.deferred (some []))/\∀b,L b->b≠D/\b≠D+1) W1 hb1 (fun b hb=>⟨Qu b hb,by rw [<- hW1];exact (Hr _ _ _ (by have:=Qu b hb;simp;omega)).trans (Hr _ _ _ (Qu b hb))⟩) (by rw [hsz,<- hD];omega) ?_ ?_ ⟨hI1,hL1,hK1,fun b h=>by have:=Qu b h;omega⟩).mono ?_
  ·rintro s L L' A B ⟨h1,h2,h3,h4⟩ hs
   have hlt:=(fR.1 h2).1;refine ⟨hA s L L' A B h1 hs,(hs.block _ hlt fun e=>?_).trans h2,(hs.block _ (by omega) fun e=>?_).trans h3,fun b hb=>?_⟩
   ·have:=h4 _ e;omega
   ·have:=h4 _ e;omega
   ·rcases hs.more b hb with e | e
    ·exact h4 b e.1
    ·omega
  ·rintro pre x L W ⟨hi,hl,hk,NT⟩ I5 kJ hLw hlen
   have hlt:D+1<W.heap.size:=(fR.1 hl).1;have hy:=run_yield (P:=P) (args:=encs x) hl (by rw [I4];exact hps x);rw [I4] at hy;refine ⟨fn,_,assign,body,hy,roundIn_of_wpIn hfn (hassign _ x W _ ⟨_,run_beginRound hl (by rw [I4]),?_⟩)⟩;obtain ⟨W2,hW2⟩:∃W2,W.putObj (D+1) (.loop { rec .ready none with state:=.busy })=W2:=⟨_,rfl⟩;(have hl2:W2.heap[D+1]? = some (.loop { rec .ready none with state:=.busy }):=by rw [<- hW2];exact World.putObj_heap_same hlt);have hk2:W2.heap[D]? = some (.deferred (some [])):=by rw [<- hW2];exact (nT (by omega)).trans hk
   (have hi2:I pre L W2:=by rw [<- hW2];exact (hI L).putObj _ hi (by omega) hl rfl);(have hg2:Gv x L W2:=by rw [<- hW2];exact (hGv x L).putObj (s:=()) _ I5 (by omega) hl rfl);(have hs2:W2.heap.size=W.heap.size:=by rw [<- hW2];simp);(have KU:∀b,b≠D+1->W2.heap[b]? = W.heap[b]?:=fun b hb=>by rw [<- hW2];exact nT (by omega));(have Uf:Below w0.heap.size w0 W2:=by rw [<- hW2];exact putB _ _ (by omega) kJ);rw [hW2];refine wpIn_mono (hbody _ pre x L W2 hi2 hg2 Uf (fun b hb=>by rw [hs2];exact hLw b hb) hlen) ?_;rintro e a3 W3 hp;cases e with
   | normal =>
    obtain ⟨hk3,hb3,hL3,hi3⟩:=hp;have GU:=hk3.same _ _ (by omega) hl2 rfl;have hk4:=hk3.same _ _ (by omega) hk2 rfl;have hend:=run_endRound (P:=P) none GU;rw [I4] at hend;refine ⟨_,_,hend,rfl,⟨?_,?_,?_,NT⟩,putB _ _ (by omega) hb3,?_,fun b hb=>?_⟩
    ·exact (hI L).putObj _ hi3 (by omega) GU rfl
    ·rw [I4];exact World.putObj_heap_same (fR.1 GU).1
    ·exact (nT (by omega)).trans hk4
    ·have:=hk3.size;simp;omega
    ·have hne:b≠D+1:=by
      rcases hb with hb | hb
      ·have:=NT b hb;omega
      ·rintro rfl
       obtain ⟨o,h1,h2⟩:=hGb _ _ _ _ I5 hb
       rw [hl] at h1;injection h1 with h1;subst h1;cases h2
     exact (nT (by omega)).trans ((hL3 b hb).trans (KU b (by omega)))
   | ret=>exact hp.elim
   | exit id=>exact hp.elim
   | goto t=>exact hp.elim
   | panic ch=>exact hp.elim
   | outgrown=>exact hp.elim
  ·rintro e W2 ⟨⟨v,rfl⟩,xs,L,hS,hi,hl,hk,NT⟩
   exact ⟨none,_,by have:=run_endLoop (P:=P) hl (by rw [I4];simp);rw [I4] at this;exact this,hdone D xs L _ (by omega) hS ((hI L).putObj _ hi (by omega) hl rfl) ((nT (by omega)).trans hk)⟩
end
section
open Go.RowKit Go.Shelf Go.Deep
attribute [local go_sem] y5
theorem ax.AA {base:Nat} {e:TypeId} {w w':World} {v:Value} {vs:List Value} (h:ax base e w v vs) (k:∀b,v.ownBlock=some b->w'.heap[b]? = w.heap[b]?):ax base e w' v vs:=by
 obtain ⟨hl,h | ⟨g,cap,cur,rfl,hg,hc,hr⟩⟩:=h
 ·exact ⟨hl,.inl h⟩
 ·exact ⟨hl,.inr ⟨g,cap,cur,rfl,hg,by rw [k g rfl];exact hc,hr⟩⟩
theorem ax.mC {base:Nat} {e:TypeId} {w:World} {v:Value} {vs:List Value} (h:ax base e w v vs) {b:Nat} (hb:v.ownBlock=some b):∃c,w.heap[b]? = some (Obj.cells c e (0,0)):=by
 obtain ⟨_,⟨rfl,_⟩ | ⟨g,cap,cur,rfl,_,hc,_⟩⟩:=h
 ·cases hb
 ·injection hb with hb;subst hb;exact ⟨cur,hc⟩

end
section
open Go.RowKit Go.Shelf Go.Deep
end
section
def Df (s:ByteArray):Int:=match qw s.data.toList with
 | none=>3
 | some r=>aH (flat r)
def zU (s:ByteArray):az:=match qw s.data.toList with
 | none=>⟨[],[]⟩
 | some r=>if aH (flat r)≠0 then ⟨[],[]⟩ else flat r
end
section
open Go.RowKit Go.Deep
@[go_sem high] theorem run_max0_4 (w:World) (ts:Array TypeId) (t:TypeId) (k:IntKind):(Builtin.max_ ts t #[.int k 0,.int k 0,.int k 0,.int k 0]).run Tryz.prog w=.ok (.int k 0) w:=by
 simp [Builtin.max_,Builtin.max2]
@[go_sem high] theorem run_max0_5 (w:World) (ts:Array TypeId) (t:TypeId) (k:IntKind):(Builtin.max_ ts t #[.int k 0,.int k 0,.int k 0,.int k 0,.int k 0]).run Tryz.prog w=.ok (.int k 0) w:=by
 simp [Builtin.max_,Builtin.max2]
@[go_sem high] theorem run_max0_6 (w:World) (ts:Array TypeId) (t:TypeId) (k:IntKind):(Builtin.max_ ts t #[.int k 0,.int k 0,.int k 0,.int k 0,.int k 0,.int k 0]).run Tryz.prog w=.ok (.int k 0) w:=by
 simp [Builtin.max_,Builtin.max2]
@[go_sem high] theorem run_max0_7 (w:World) (ts:Array TypeId) (t:TypeId) (k:IntKind):(Builtin.max_ ts t #[.int k 0,.int k 0,.int k 0,.int k 0,.int k 0,.int k 0,.int k 0]).run Tryz.prog w=.ok (.int k 0) w:=by
 simp [Builtin.max_,Builtin.max2]
end
end Go.Proofs.YthgabkgmkolobaaGreat
namespace Go.Proofs
open Go.Shelf
def Tryz.idxA_ren:Go.Shelf.Ren:=⟨fun | 153=>166 | 152=>217 | 226=>218 | 227=>219 | 228=>220 | 137=>261 | 119=>262 | 224=>263 | 225=>264 | 217=>277 | 266=>290 | n=>n,fun | 9=>9 | 3=>3 | 4=>4 | 5=>5 | 21=>21 | 117=>226 | 116=>225 | 0=>0 | 46=>154 | 124=>262 | n=>n,fun | n=>n⟩
theorem Tryz.idxA:Go.Proofs.Lays.n153 Tryz.prog Tryz.idxA_ren:={
 mixed:=by kernel_rfl
 f119:=Tryz.func262.trans (congrArg some (by kernel_rfl))
 f137:=Tryz.func261.trans (congrArg some (by kernel_rfl))
 f152:=Tryz.func217.trans (congrArg some (by kernel_rfl))
 f153:=Tryz.func166.trans (congrArg some (by kernel_rfl))
 f217:=Tryz.func277.trans (congrArg some (by kernel_rfl))
 f224:=Tryz.func263.trans (congrArg some (by kernel_rfl))
 f225:=Tryz.func264.trans (congrArg some (by kernel_rfl))
 f226:=Tryz.func218.trans (congrArg some (by kernel_rfl))
 f227:=Tryz.func219.trans (congrArg some (by kernel_rfl))
 f228:=Tryz.func220.trans (congrArg some (by kernel_rfl))
 f266:=Tryz.func290.trans (congrArg some (by kernel_rfl))
 t0:=Tryz.underlying0
 a0:=Tryz.isAgg0
 z0:=Tryz.sizeOf0
 v0:=Tryz.zeroValue0
 t3:=Tryz.underlying3
 a3:=Tryz.isAgg3
 z3:=Tryz.sizeOf3
 v3:=Tryz.zeroValue3
 t4:=Tryz.underlying4
 a4:=Tryz.isAgg4
 z4:=Tryz.sizeOf4
 v4:=Tryz.zeroValue4
 t5:=Tryz.underlying5
 a5:=Tryz.isAgg5
 z5:=Tryz.sizeOf5
 v5:=Tryz.zeroValue5
 t9:=Tryz.underlying9
 a9:=Tryz.isAgg9
 z9:=Tryz.sizeOf9
 v9:=Tryz.zeroValue9
 t21:=Tryz.underlying21
 a21:=Tryz.isAgg21
 z21:=Tryz.sizeOf21
 v21:=Tryz.zeroValue21
 t46:=Tryz.underlying154
 a46:=Tryz.isAgg154
 z46:=Tryz.sizeOf154
 v46:=Tryz.zeroValue154
 t116:=Tryz.underlying225
 a116:=Tryz.isAgg225
 z116:=Tryz.sizeOf225
 t117:=Tryz.underlying226
 a117:=Tryz.isAgg226
 z117:=Tryz.sizeOf226
 v117:=Tryz.zeroValue226
 t124:=Tryz.underlying262
 a124:=Tryz.isAgg262
 z124:=Tryz.sizeOf262
 v124:=Tryz.zeroValue262 }
end Go.Proofs
namespace Go.Proofs.YthgabkgmkolobaaGreat
open Go.RowKit Go.Deep
structure qM (base:Nat) (s:ByteArray) (R:Option RT) (w0:World) (top k:Nat) (b:Bool) (ov:Value) (wr:World) (n:Nat) (A:Nat->Nat) (kv:Nat->Value) (F:ct) (o:Nat) (os:List Nat) (Z:List RT) (st:List (List RT)) (f:Nat):Prop where
 fr:cU base n A kv F wr
 a0:A 0=top
 zf:sO F n (o::os) (Z::st)
 own:ax base 119 wr ov ((o::os).reverse.map (cV A))
 DX:∀g,ov.ownBlock=some g->∀j,j<n->g≠A j
 B4:∀g,ov.ownBlock=some g->∀j,j<n->(kv j).ownBlock≠some g
 last:(o::os).getLast? = some 0
 nk:n<=k+1
 ol:os.length<=k
 dnz:b=true->Z≠[]
 run:pz f (s.data.toList.drop k) (Z::st) b=R
 fuel:s.size<f+k
 up:Below base w0 wr
def NU (base:Nat) (s:ByteArray) (R:Option RT) (w0:World) (top k:Nat) (b:Bool) (ov:Value) (wr:World):Prop :=
 ∃n A kv F o os Z st f,qM base s R w0 top k b ov wr n A kv F o os Z st f
section
variable {base:Nat} {s:ByteArray} {R:Option RT} {w0 wr w':World} {top k n f o:Nat} {b:Bool} {ov:Value} {A:Nat->Nat} {kv:Nat->Value} {F:ct} {os:List Nat} {Z:List RT} {st:List (List RT)}
theorem qM.ovl (h:qM base s R w0 top k b ov wr n A kv F o os Z st f) {g:Nat} (hg:ov.ownBlock=some g):base<=g/\g<wr.heap.size:=av h.own hg
theorem qM.row (h:qM base s R w0 top k b ov wr n A kv F o os Z st f):∃g cap,ov=.slice (some ⟨g,0,none⟩) (os.length+1) cap/\os.length+1<=cap/\wr.cell? ⟨g,os.length,none⟩=some (.pointer (some ⟨A o,0,none⟩)):=by
 obtain ⟨q,cap,hv,hq⟩:=h.own.form (n:=os.length+1) (by simp);obtain ⟨g,rfl⟩:∃g,q=some ⟨g,0,none⟩:=by
  rcases hq with rfl | h2
  ·obtain ⟨_,h3 | ⟨g,_,_,h3,_⟩⟩:=h.own
   ·have:=h3.2;simp at this
   ·rw [hv] at h3;cases h3
  ·exact h2
 have ho:=h.own;rw [hv] at ho;have hcm:os.length+1<=cap:=by
  rcases ho.2 with ⟨e,_⟩ | ⟨g2,fS,cur,e,_,_,hn,_⟩
  ·cases e
  ·have e3:cap=fS:=(Value.slice.inj e).2.2
   rw [e3];simpa using hn
 refine ⟨g,cap,hv,hcm,(wu ho ?_).1⟩;rw [jA,List.reverse_cons,SV (by simp)];simp [cV]
structure PaN (base:Nat) (w0:World) (top:Nat) (ov:Value) (n:Nat) (A':Nat->Nat) (kv':Nat->Value) (G:ct) (ol:List Nat) (W:World):Prop where
 fr:cU base (n+1) A' kv' G W
 a0:A' 0=top
 own:ax base 119 W ov (ol.reverse.map (cV A'))
 DX:∀g,ov.ownBlock=some g->∀j,j<n+1->g≠A' j
 B4:∀g,ov.ownBlock=some g->∀j,j<n+1->(kv' j).ownBlock≠some g
 up:Below base w0 W
theorem qM.node (h:qM base s R w0 top k b ov wr n A kv F o os Z st f) (nm:ByteArray) {g m cap:Nat} (Bw:base<=wr.heap.size)
  (hv:ax base 119 w' (.slice (some ⟨g,0,none⟩) m cap) ((F.kids o).map (cV A)++[.pointer (some ⟨wr.heap.size,0,none⟩)]))
  (hg:(wr.alloc (.cells #[.string nm,.slice none 0 0,.int .i64 0] 122)).grownBy w' (kv o).ownBlock) (hr:(kv o).ownBlock=some g\/wr.heap.size+1<=g) :
  ∃A' kv',A' n=wr.heap.size/\PaN base w0 top ov n A' kv' (qm F n o nm) (o::os) (w'.setCell ⟨A o,1,none⟩ (.slice (some ⟨g,0,none⟩) m cap)):=by
 have ho:=h.zf.on;have hon:o≠n:=by omega
 have h1:=h.fr.LF Bw nm 0;have hAo:upd A n wr.heap.size o=A o:=upd_ne _ _ hon;have hkvo:upd kv n (.slice none 0 0) o=kv o:=upd_ne _ _ hon;have hmap:∀l:List Nat,(∀k∈l,k<n)->l.map (cV (upd A n wr.heap.size))=l.map (cV A):=fun l hl=>by refine lU fun k hk=>?_;have:=hl k hk;unfold cV;rw [upd_ne _ _ (by omega)]
 have hsz:(wr.alloc (.cells #[.string nm,.slice none 0 0,.int .i64 0] 122)).heap.size=wr.heap.size+1:=aQ _ _;have h2:=h1.push (k:=o) (c:=n) (v:=.slice (some ⟨g,0,none⟩) m cap) (by omega) (by omega)
  (by
   show ax _ _ _ _ ((upd F.kids n [] o++[n]).map _);rw [upd_ne _ _ hon,cg,hmap _ (h.fr.kid o ho)];show ax _ _ _ _ (_++[cV (upd A n wr.heap.size) n])
   unfold cV;rw [upd_same];exact hv) (by rw [hkvo];exact hg) (fun b2 hb2=>by cases hb2;rw [hkvo,hsz];exact hr)
 rw [hAo] at h2;have h0n:0<n:=by omega
 have hovb:∀g2,ov.ownBlock=some g2->w'.heap[g2]? = wr.heap[g2]?:=fun g2 hg2=>by have hl:=(h.ovl hg2).2;rw [hg.block g2 (by rw [hsz];omega) (fun e=>h.B4 g2 hg2 o ho e.symm)];exact blk_alloc_lt _ _ _ hl
 refine ⟨_,_,upd_same _ _ _,h2.congr2 fun j hj=>⟨rfl,rfl,?_⟩,by rw [upd_ne _ _ (by omega)];exact h.a0,?_,fun g2 hg2 j hj=>?_,fun g2 hg2 j hj=>?_,?_⟩
 ·show upd (upd F.kids n []) o (F.kids o++[n]) j=upd (upd F.kids n []) o (upd F.kids n [] o++[n]) j
  rw [upd_ne F.kids _ hon]
 ·rw [hmap _ (fun k hk=>h.zf.opn k (List.mem_reverse.1 hk))]
  refine h.own.same fun g2 hg2=>?_;rw [blk_setCell_other _ _ _ _ (h.DX g2 hg2 o ho)];exact hovb g2 hg2
 ·by_cases e:j=n
  ·subst e;rw [upd_same];have:=(h.ovl hg2).2;omega
  ·rw [upd_ne _ _ e];exact h.DX g2 hg2 j (by omega)
 ·by_cases e:j=o
  ·subst e;rw [upd_same]
   intro e2;(have e2:g=g2:=by cases e2;rfl);rcases hr with h3 | h3
   ·exact h.B4 g2 hg2 j ho (by rw [h3,e2])
   ·have:=(h.ovl hg2).2;omega
  ·rw [upd_ne _ _ e]
   by_cases e2:j=n
   ·subst e2;rw [upd_same];intro e3;cases e3
   ·rw [upd_ne _ _ e2];exact h.B4 g2 hg2 j (by omega)
 ·have ha:Below base wr (wr.alloc (.cells #[.string nm,.slice none 0 0,.int .i64 0] 122)):=(dM _ _).alloc Bw _
  have hb2:Below base (wr.alloc (.cells #[.string nm,.slice none 0 0,.int .i64 0] 122)) w':=((h.fr.own o ho).alloc _).fE hg (by rw [hsz];omega);exact ((h.up.trans ha).trans hb2).setCell (p:=⟨A o,1,none⟩) (h.fr.lo o ho) _
theorem qM.store (h:qM base s R w0 top k b ov wr n A kv F o os Z st f) {ob:Obj} (hg:(wr.alloc ob).grownBy w' (kv o).ownBlock) :
  w'.cell? ⟨A o,1,none⟩=some (kv o)/\w'.frozen? ⟨A o,1,none⟩=false:=by
 have ho:=h.zf.on;have hlt:=h.fr.lt ho;have h1:w'.heap[A o]? = wr.heap[A o]?:=by rw [hg.block _ (by rw [aQ];omega) (fun e=>h.fr.apart o o ho ho e.symm)];exact blk_alloc_lt _ _ _ hlt
 constructor
 ·simp only [World.cell?,h1];exact h.fr.zB ho
 ·simp only [World.frozen?,h1];exact h.fr.thaw ho 1
theorem qM.klen (h:qM base s R w0 top k b ov wr n A kv F o os Z st f):((F.kids o).map (cV A)).length=(F.kids o).length/\(F.kids o).length<=1000000:=by
 refine ⟨aG _,?_⟩;have:=xX (h.zf.nd o h.zf.on) (fun x hx=>(h.zf.kid o h.zf.on x hx).2);have:=h.zf.big;omega
theorem qM.leaf (h:qM base s R w0 top k b ov wr n A kv F o os Z st f) (hb:n<2000) {W:World} {A':Nat->Nat} {kv':Nat->Value} {nm:ByteArray} {k' f':Nat} (hk:k+1<=k') (hN:PaN base w0 top ov n A' kv' (qm F n o nm) (o::os) W)
  (hrun:pz f' (s.data.toList.drop k') ((Z++[.node nm []])::st) true=R) (hf:s.size<f'+k'):NU base s R w0 top k' true ov W :=
 ⟨_,_,_,_,_,_,_,_,_,⟨hN.fr,hN.a0,h.zf.leaf nm hb,hN.own,hN.DX,hN.B4,h.last,(by have:=h.nk;omega),(by have:=h.ol;omega),(fun _=>by simp),hrun,hf,hN.up⟩⟩
theorem qM.opened (h:qM base s R w0 top k b ov wr n A kv F o os Z st f) (hb:n<2000) {W:World} {A':Nat->Nat} {kv':Nat->Value} {f' g m cap:Nat} (hN:PaN base w0 top ov n A' kv' (qm F n o ByteArray.empty) (o::os) W) (Bw:base<=W.heap.size)
  (hv:ax base 119 w' (.slice (some ⟨g,0,none⟩) m cap) ((o::os).reverse.map (cV A')++[cV A' n])) (hg:W.grownBy w' ov.ownBlock) (hr:ov.ownBlock=some g\/W.heap.size<=g)
  (hrun:pz f' (s.data.toList.drop (k+1)) ([]::Z::st) false=R) (hf:s.size<f'+(k+1)):NU base s R w0 top (k+1) false (.slice (some ⟨g,0,none⟩) m cap) w':=by
 have hold:∀b2,b2<W.heap.size->(∀g2,ov.ownBlock=some g2->b2≠g2)->w'.heap[b2]? = W.heap[b2]?:=fun b2 hb2 hne=>hg.block b2 hb2 fun e=>hne b2 e.symm rfl;refine ⟨_,_,_,_,_,_,_,_,_,⟨hN.fr.same (fun i hi=>hold _ (hN.fr.lt hi) fun g2 hg2 e=>hN.DX g2 hg2 i hi e.symm) (fun i b2 hi hb2=>hold _ (hN.fr.ni hi hb2).2 fun g2 hg2 e=>hN.B4 g2 hg2 i hi (by rw [hb2,e])),hN.a0,h.zf.open hb,?_,fun g2 hg2 j hj=>?_,fun g2 hg2 j hj=>?_,?_,(by have:=h.nk;omega),(by have:=h.ol;simp;omega),(fun e=>by cases e),hrun,hf,hN.up.trans (hN.own.fE hg Bw)⟩⟩
 ·rw [List.reverse_cons,cg];exact hv
 ·have hg2:some g=some g2:=hg2
  injection hg2 with hg2;subst hg2;rcases hr with h1 | h1
  ·exact hN.DX g h1 j hj
  ·have:=hN.fr.lt hj;omega
 ·have hg2:some g=some g2:=hg2
  injection hg2 with hg2;subst hg2;intro e;rcases hr with h1 | h1
  ·exact hN.B4 g h1 j hj e
  ·have:=(hN.fr.ni hj e).2;omega
 ·rw [CJ];exact h.last
theorem qM.popped {q:Nat} {Y:List RT} {st2:List (List RT)} {os2:List Nat} (h:qM base s R w0 top k b ov wr n A kv F o (q::os2) Z (Y::st2) f) {g cap f':Nat} (xx:ov=.slice (some ⟨g,0,none⟩) (os2.length+2) cap)
  (hrun:pz f' (s.data.toList.drop (k+1)) ((Y++[.node ByteArray.empty Z])::st2) true=R) (hf:s.size<f'+(k+1)):NU base s R w0 top (k+1) true (.slice (some ⟨g,0,none⟩) (os2.length+1) cap) wr:=by
 subst xx;refine ⟨_,_,_,_,_,_,_,_,_,⟨h.fr,h.a0,h.zf.pop,?_,h.DX,h.B4,?_,(by have:=h.nk;omega),(by have:=h.ol;simp at this;omega),(fun _=>by simp),hrun,hf,h.up⟩⟩
 ·have h1:=QM h.own (m:=os2.length+1) (by omega)
  have e:((o::q::os2).reverse.map (cV A)).take (os2.length+1)=(q::os2).reverse.map (cV A):=by rw [List.reverse_cons,cg,List.take_append_of_le_length (by simp)];rw [Bj (by simp)]
  rw [e] at h1;exact h1
 ·have:=h.last
  rw [CJ] at this;exact this
theorem qM.comma (h:qM base s R w0 top k b ov wr n A kv F o os Z st f) {f':Nat} (hrun:pz f' (s.data.toList.drop (k+1)) (Z::st) false=R) (hf:s.size<f'+(k+1)):NU base s R w0 top (k+1) false ov wr :=
 ⟨_,_,_,_,_,_,_,_,_,⟨h.fr,h.a0,h.zf,h.own,h.DX,h.B4,h.last,(by have:=h.nk;omega),(by have:=h.ol;omega),(fun e=>by cases e),hrun,hf,h.up⟩⟩
theorem qM.drew (h:qM base s R w0 top k b ov wr n A kv F o os Z st f):qM base s R w0 top k b ov wr.drew n A kv F o os Z st f :=
 ⟨h.fr.up (Up.drewN wr 1),h.a0,h.zf,h.own.same fun _ _=>rfl,h.DX,h.B4,h.last,h.nk,h.ol,h.dnz,h.run,h.fuel,h.up.drew⟩
theorem qM.keepUp (h:qM base s R w0 top k b ov wr n A kv F o os Z st f) (hu:Up wr w'):qM base s R w0 top k b ov w' n A kv F o os Z st f :=
 ⟨h.fr.up hu,h.a0,h.zf,h.own.same fun _ hg=>bI hu _ (h.ovl hg).2,h.DX,h.B4,h.last,h.nk,h.ol,h.dnz,h.run,h.fuel,h.up.trans (hu.mono (aJ (h.fr.lo 0 (by have:=h.zf.on;omega)) (Nat.le_of_lt (h.fr.lt (i:=0) (by have:=h.zf.on;omega)))))⟩
theorem qM.step (h:qM base s R w0 top k b ov wr n A kv F o os Z st f) (hk:k<s.size):∃f' ch,f=f'+1/\s.size<f'+(k+1)/\s.data.toList.drop k=ch::s.data.toList.drop (k+1)/\s[k]=ch:=by
 have hf:=h.fuel;refine ⟨f - 1,s[k],by omega,by omega,?_,rfl⟩;have hl:k<s.data.toList.length:=by rw [Bh];exact hk
 rw [Aj hl];congr 1
end
theorem pa_start (w1:World) (s:ByteArray):NU w1.heap.size s (qw s.data.toList) w1 w1.heap.size 0 false (.slice (some ⟨w1.heap.size+1,0,none⟩) 1 1)
  ((w1.alloc (.cells #[.string ⟨#[]⟩,.slice none 0 0,.int .i64 0] 122)).alloc (.cells #[.pointer (some ⟨w1.heap.size,0,none⟩)] 119)):=by
 have hs1:(w1.alloc (.cells #[.string ⟨#[]⟩,.slice none 0 0,.int .i64 0] 122)).heap.size=w1.heap.size+1:=aQ _ _;have h1:=((cU.empty w1.heap.size (fun _=>w1.heap.size) (fun _=>.slice none 0 0) ⟨fun _=>⟨#[]⟩,fun _=>0,fun _=>[]⟩ w1).LF (af _) ⟨#[]⟩ 0).up (Up.alloc _ (.cells #[.pointer (some ⟨w1.heap.size,0,none⟩)] 119));have h0:∀j,j<1->j=0:=fun j hj=>by omega
 have hA:∀j,j<0+1->upd (fun _=>w1.heap.size) 0 w1.heap.size j=w1.heap.size:=fun j hj=>by rw [h0 j hj,upd_same]
 have hown:ax w1.heap.size 119 ((w1.alloc (.cells #[.string ⟨#[]⟩,.slice none 0 0,.int .i64 0] 122)).alloc (.cells #[.pointer (some ⟨w1.heap.size,0,none⟩)] 119)) (.slice (some ⟨w1.heap.size+1,0,none⟩) 1 1) (([0]:List Nat).reverse.map (cV (upd (fun _=>w1.heap.size) 0 w1.heap.size))):=by have hb:=blk_alloc_new (w1.alloc (.cells #[.string ⟨#[]⟩,.slice none 0 0,.int .i64 0] 122)) (.cells #[.pointer (some ⟨w1.heap.size,0,none⟩)] 119);rw [hs1] at hb;exact ⟨rfl,.inr ⟨w1.heap.size+1,1,_,rfl,by omega,hb,⟨by simp,by unfold maxLen;omega,rfl,by simp [cV,upd_same]⟩⟩⟩
 refine ⟨0+1,_,_,_,0,[],[],[],s.data.toList.length+1,⟨h1,upd_same _ _ _,?_,hown,fun g hg j hj=>?_,fun g hg j hj=>?_,rfl,af _,aL _,(fun e=>by cases e),rfl,?_,((Up.alloc w1 _).trans (Up.alloc _ _))⟩⟩
 ·refine ⟨by omega,fun i hi k hk=>?_,fun p q k hp hq _ _=>by omega,fun i hi=>?_,⟨?_,⟨[],?_,rfl⟩,trivial⟩,fun o ho=>by simp at ho;omega,by simp⟩
  ·rw [h0 i hi] at hk
   have hk:k∈upd (fun _=>([]:List Nat)) 0 [] 0:=hk;rw [upd_same] at hk;cases hk
  ·rw [h0 i hi]
   show (upd (fun _=>([]:List Nat)) 0 [] 0).Nodup;rw [upd_same];exact yV
  ·show (upd (fun _=>(⟨#[]⟩:ByteArray)) 0 ⟨#[]⟩ 0).size=0
   rw [upd_same];rfl
  ·show upd (fun _=>([]:List Nat)) 0 [] 0=_
   rw [upd_same];rfl
 ·have hg:some (w1.heap.size+1)=some g:=hg
  injection hg with hg;rw [hA j hj];omega
 ·rw [h0 j hj,upd_same];intro e;cases e
 ·rw [Bh]
  show s.data.size<_;omega
end Go.Proofs.YthgabkgmkolobaaGreat
