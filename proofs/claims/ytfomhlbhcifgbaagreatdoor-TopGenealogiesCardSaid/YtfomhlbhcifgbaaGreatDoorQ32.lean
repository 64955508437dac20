/- Plain: the texts of the rooted binary trees of names, division by division. -/
import Derived.Test.YtfomhlbhcifgbaaGreatDoorQ31
set_option maxRecDepth 100000
namespace Go.Proofs.YtfomhlbhcifgbaaGreatDoor
theorem pJ {α β:Type} {f g:α->List β}:∀ {l:List α},(∀a∈l,f a=g a)->l.flatMap f=l.flatMap g
 | [],_=>rfl
 | a::l,h=>by
  rw [iI,iI,h a (by simp),pJ fun b hb=>h b (by simp [hb])]
theorem Es {α:Type} [Inhabited α] (L:List α) {bits:Nat} (h1:1<=bits) (h2:bits<2 ^ L.length):1<=(cr (fun i=>bits.testBit i) L L.length).length/\(cr (fun i=>bits.testBit i) L L.length).length+(cr (fun i=>!bits.testBit i) L L.length).length=L.length:=by
 have h3:=(tN (fun i=>bits.testBit i) L (n:=L.length) (aj _)).length_eq;rw [bG,iy] at h3;refine ⟨?_,by omega⟩;rcases Nat.eq_zero_or_pos (cr (fun i=>bits.testBit i) L L.length).length with e | e
 ·exfalso
  have h5:cr (fun i=>bits.testBit i) L L.length=[]:=nN e;have hz:bits=0:=Nat.eq_of_testBit_eq fun i=>by
   rw [Nat.zero_testBit];by_cases hi:i<L.length
   ·cases hb:bits.testBit i
    ·rfl
    ·have:L.getD i default∈cr (fun i=>bits.testBit i) L L.length:=Dn.2 ⟨i,hi,hb,rfl⟩
     rw [h5] at this;cases this
   ·exact Nat.testBit_lt_two_pow (lM h2 (Nat.pow_le_pow_right (by decide) (by omega)))
  omega
 ·exact e
theorem q8 {α:Type} [Inhabited α]:∀(d e:Nat) (L:List α),L.length<=d->L.length<=e->rt d L=rt e L
 | 0,e,L,h,_=>by
  have:L=[]:=nN (by omega)
  subst this
  cases e<;>rfl
 | d+1,0,L,_,h=>by
  have:L=[]:=nN (by omega)
  subst this;rfl
 | _+1,_+1,[],_,_=>rfl
 | _+1,_+1,[x],_,_=>rfl
 | d+1,e+1,x::y::L,h1,h2=>by
  rw [rt,rt]
  refine pJ fun bits hb=>?_
  rw [List.mem_range'_1] at hb
  obtain ⟨p1,p2⟩:=Es (y::L) (bits:=bits) hb.1 (by omega)
  have hl:(y::L).length=L.length+1:=rfl
  rw [bB,hl] at h1 h2
  rw [q8 d e (x::_) (by rw [bB];omega) (by rw [bB];omega),q8 d e (cr _ _ _) (by omega) (by omega)]
def dA (L:List ByteArray) (bits:Nat):List ByteArray:=gs L 0::cr (fun i=>!bits.testBit i) L.tail (L.length - 1)
def dB (L:List ByteArray) (bits:Nat):List ByteArray:=cr (fun i=>bits.testBit i) L.tail (L.length - 1)
def mh (L:List ByteArray):List (BT ByteArray):=rt L.length L
def oF (r:BT ByteArray):ByteArray:=⟨(dO (iW r)).toArray⟩
def bK (L:List ByteArray):List ByteArray:=(mh L).map oF
def pairT (s t:ByteArray):ByteArray:=⟨#[40]⟩++s++⟨#[44]⟩++t++⟨#[41]⟩
def B1 (L:List ByteArray) (bits:Nat):List ByteArray:=(bK (dA L bits)).flatMap fun s=>(bK (dB L bits)).map fun t=>pairT s t
theorem Hz (x:ByteArray):oF (.leaf x)=x:=by
 unfold oF;rw [iW,AO]
theorem H7 (a b:BT ByteArray):oF (.node a b)=pairT (oF a) (oF b):=by
 unfold pairT;apply A7;unfold oF;rw [Ts];simp
theorem Tx {L:List ByteArray} (h:2<=L.length) {bits:Nat} (h1:1<=bits) (h2:bits<2 ^ (L.length - 1)):(dA L bits).length<L.length/\1<=(dA L bits).length/\(dB L bits).length<L.length/\1<=(dB L bits).length:=by
 have hl:L.tail.length=L.length - 1:=by simp
 obtain ⟨p1,p2⟩:=Es L.tail (bits:=bits) h1 (by rw [hl];exact h2);unfold dA dB;rw [bB,<- hl];omega
theorem UI (x:ByteArray):bK [x]=[x]:=by
 unfold bK mh;rw [List.length_singleton,rt,List.map_singleton,Hz]
theorem X5 {L:List ByteArray} (h:2<=L.length):bK L=(List.range' 1 (2 ^ (L.length - 1) - 1)).flatMap (B1 L):=by
 obtain ⟨x,y,L,rfl⟩:∃x y L',L=x::y::L':=by
  cases L with
  | nil=>simp at h
  | cons x L =>
   cases L with
   | nil=>simp at h
   | cons y L=>exact ⟨x,y,L,rfl⟩
 unfold bK mh;have e1:(x::y::L).length=(y::L).length+1:=rfl;rw [e1,rt,vu,Nat.add_sub_cancel];refine pJ fun bits hb=>?_;rw [List.mem_range'_1] at hb;have hd:=Tx (L:=x::y::L) h (bits:=bits) hb.1 (by have:(x::y::L).length - 1=(y::L).length:=rfl;rw [this];omega);unfold B1 bK;rw [vu,List.flatMap_map];have ea:dA (x::y::L) bits=x::cr (fun i=>!bits.testBit i) (y::L) (y::L).length:=rfl;have eb:dB (x::y::L) bits=cr (fun i=>bits.testBit i) (y::L) (y::L).length:=rfl;rw [<- ea,<- eb]
 have f1:rt (y::L).length (dA (x::y::L) bits)=mh (dA (x::y::L) bits):=q8 _ _ _ (by simp only [bB] at hd ⊢;omega) (aj _);have f2:rt (y::L).length (dB (x::y::L) bits)=mh (dB (x::y::L) bits):=q8 _ _ _ (by simp only [bB] at hd ⊢;omega) (aj _);rw [f1,f2];refine pJ fun a _=>?_;rw [jO,jO];refine iK fun b _=>?_;exact H7 a b
theorem Ia {L:List ByteArray}:∀ {n:Nat},L.length=n->n<=4->(mh L).length=if n=0 then 0 else if n=1 then 1 else if n=2 then 1 else if n=3 then 3 else 15:=by
 intro n hn h4;have e:L=((List.range n).map fun i=>gs L i):=by
  apply qJ
  ·simp [hn]
  ·intro i h1 h2
   simp [gs,h1]
 unfold mh;rw [hn];have e2:rt n L=(rt n (List.range n)).map (BT.map fun i=>gs L i):=by rw [<- A6];exact congrArg (rt n) e
 rw [e2,aD];obtain rfl | rfl | rfl | rfl | rfl:n=0\/n=1\/n=2\/n=3\/n=4:=by omega
 ·decide +kernel
 ·decide +kernel
 ·decide +kernel
 ·decide +kernel
 ·decide +kernel
theorem uS {L:List ByteArray} (h:L.length<=4):(bK L).length<=15:=by
 unfold bK;rw [aD,Ia rfl h];split<;>(try split)<;>(try split)<;>(try split)<;>omega
theorem UJ {L:List ByteArray} (h:L.length<=4) (h1:1<=L.length):1<=(bK L).length:=by
 unfold bK;rw [aD,Ia rfl h];split<;>(try split)<;>(try split)<;>(try split)<;>omega
theorem wq {α β:Type} {f:α->List β} {K:Nat}:∀l:List α,(∀a∈l,(f a).length<=K)->(l.flatMap f).length<=l.length*K
 | [],_=>by simp
 | a::l,h=>by
  rw [iI,bG,bB,Nat.succ_mul]
  have h1:=h a (by simp)
  have h2:=wq l fun b hb=>h b (by simp [hb])
  omega
theorem UK {L:List ByteArray} {bits:Nat} (ha:(dA L bits).length<=4) (hb:(dB L bits).length<=4):(B1 L bits).length<=225:=by
 unfold B1;have h1:=uS ha;have h2:=uS hb;have h3:=wq (f:=fun s=>(bK (dB L bits)).map fun t=>pairT s t) (K:=15) (bK (dA L bits)) fun s _=>by rw [aD];exact h2
 have h4:(bK (dA L bits)).length*15<=15*15:=Nat.mul_le_mul_right _ h1;omega
theorem Ty {L:List ByteArray} {bits:Nat} (h:1<=L.length):(∀x∈dA L bits,x∈L)/\∀x∈dB L bits,x∈L:=by
 have hp:∀p:Nat->Bool,∀x∈cr p L.tail (L.length - 1),x∈L:=fun p x hx=>by
  obtain ⟨i,hi,_,rfl⟩:=Dn.1 hx;have hl:i<L.tail.length:=by simp;omega
  rw [mN,kB hl];exact List.mem_of_mem_tail (pg hl)
 refine ⟨fun x hx=>?_,hp _⟩;rcases bQ.1 hx with rfl | hx
 ·cases L with
  | nil=>simp at h
  | cons a l=>simp [gs]
 ·exact hp _ x hx
theorem LM (s t:ByteArray):(pairT s t).size=s.size+t.size+3:=by
 unfold pairT;simp only [ByteArray.size_append];show 1+s.size+1+t.size+1=_;omega
theorem wu:∀r:BT ByteArray,(∀x∈r.gN,x.size<=20)->(oF r).size+3<=23*r.gN.length
 | .leaf x,h=>by
  rw [Hz]
  have:=h x (by simp [BT.gN])
  simp only [BT.gN,List.length_singleton]
  omega
 | .node a b,h=>by
  have h1:=wu a fun x hx=>h x (List.mem_append_left _ hx)
  have h2:=wu b fun x hx=>h x (List.mem_append_right _ hx)
  rw [H7,LM]
  simp only [BT.gN,bG]
  omega
theorem AR {L:List ByteArray} (h:L.length<=4) (hz:∀x∈L,x.size<=20) {s:ByteArray} (hs:s∈bK L):s.size<=100:=by
 obtain ⟨r,hr,rfl⟩:=ek.1 hs;have hp:=xu _ _ _ hr;have h1:=wu r fun x hx=>hz x (hp.mem_iff.1 hx);have h2:=hp.length_eq;omega
theorem q9 {L:List ByteArray} {M:Nat} (hz:∀x∈L,x.size<=M) (k:Nat):(gs L k).size<=M:=by
 by_cases hk:k<L.length
 ·have:gs L k=L[k]:=by simp [gs,hk]
  rw [this];exact hz _ (pg hk)
 ·have:gs L k=ByteArray.empty:=by simp [gs,hk]
  rw [this];exact bg _
end Go.Proofs.YtfomhlbhcifgbaaGreatDoor
