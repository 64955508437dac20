/- Plain: the texts of the rooted binary trees of names, division by division. -/
import Derived.Test.YthgabkgmkolobaaGreatQ35
set_option maxRecDepth 100000
namespace Go.Proofs.YthgabkgmkolobaaGreat
theorem iI {α β:Type} {f g:α→List β}:∀ {l:List α},(∀a∈l,f a=g a)→l.flatMap f=l.flatMap g
 | [],_=>rfl
 | a::l,h=>by
  rw [List.flatMap_cons,List.flatMap_cons,h a (by simp),iI fun b hb=>h b (by simp [hb])]
theorem Dp {α:Type} [Inhabited α] (L:List α) {bits:Nat} (h1:1≤bits) (h2:bits<2 ^ L.length):1≤(bh (fun i=>bits.testBit i) L L.length).length∧(bh (fun i=>bits.testBit i) L L.length).length+(bh (fun i=>!bits.testBit i) L L.length).length=L.length:=by
 have h3:=(sw (fun i=>bits.testBit i) L (n:=L.length) (Nat.le_refl _)).length_eq;rw [List.length_append,List.length_take] at h3;refine ⟨?_,by omega⟩;rcases Nat.eq_zero_or_pos (bh (fun i=>bits.testBit i) L L.length).length with e | e
 ·exfalso
  have h5:bh (fun i=>bits.testBit i) L L.length=[]:=List.eq_nil_of_length_eq_zero e;have hz:bits=0:=Nat.eq_of_testBit_eq fun i=>by
   rw [Nat.zero_testBit];by_cases hi:i<L.length
   ·cases hb:bits.testBit i
    ·rfl
    ·have:L.getD i default∈bh (fun i=>bits.testBit i) L L.length:=B2.2 ⟨i,hi,hb,rfl⟩
     rw [h5] at this;cases this
   ·exact Nat.testBit_lt_two_pow (Nat.lt_of_lt_of_le h2 (Nat.pow_le_pow_right (by decide) (by omega)))
  omega
 ·exact e
theorem nV {α:Type} [Inhabited α]:∀(d e:Nat) (L:List α),L.length≤d→L.length≤e→rt d L=rt e L
 | 0,e,L,h,_=>by
  have:L=[]:=List.eq_nil_of_length_eq_zero (by omega)
  subst this
  cases e<;>rfl
 | d+1,0,L,_,h=>by
  have:L=[]:=List.eq_nil_of_length_eq_zero (by omega)
  subst this;rfl
 | _+1,_+1,[],_,_=>rfl
 | _+1,_+1,[x],_,_=>rfl
 | d+1,e+1,x::y::L,h1,h2=>by
  rw [rt,rt]
  refine iI fun bits hb=>?_
  rw [List.mem_range'_1] at hb
  obtain ⟨p1,p2⟩:=Dp (y::L) (bits:=bits) hb.1 (by omega)
  have hl:(y::L).length=L.length+1:=rfl
  rw [List.length_cons,hl] at h1 h2
  rw [nV d e (x::_) (by rw [List.length_cons];omega) (by rw [List.length_cons];omega),nV d e (bh _ _ _) (by omega) (by omega)]
def dA (L:List ByteArray) (bits:Nat):List ByteArray:=gs L 0::bh (fun i=>!bits.testBit i) L.tail (L.length - 1)
def dB (L:List ByteArray) (bits:Nat):List ByteArray:=bh (fun i=>bits.testBit i) L.tail (L.length - 1)
def jF (L:List ByteArray):List (BT ByteArray):=rt L.length L
def iM (r:BT ByteArray):ByteArray:=⟨(txR (btR r)).toArray⟩
def bB (L:List ByteArray):List ByteArray:=(jF L).map iM
def pairT (s t:ByteArray):ByteArray:=⟨#[40]⟩++s++⟨#[44]⟩++t++⟨#[41]⟩
def AP (L:List ByteArray) (bits:Nat):List ByteArray:=(bB (dA L bits)).flatMap fun s=>(bB (dB L bits)).map fun t=>pairT s t
theorem zC (x:ByteArray):iM (.leaf x)=x:=by
 unfold iM;rw [btR,uH]
theorem zD (a b:BT ByteArray):iM (.node a b)=pairT (iM a) (iM b):=by
 unfold pairT;apply eD;unfold iM;rw [RN];simp
theorem Kv {L:List ByteArray} (h:2≤L.length) {bits:Nat} (h1:1≤bits) (h2:bits<2 ^ (L.length - 1)):(dA L bits).length<L.length∧1≤(dA L bits).length∧(dB L bits).length<L.length∧1≤(dB L bits).length:=by
 have hl:L.tail.length=L.length - 1:=by simp
 obtain ⟨p1,p2⟩:=Dp L.tail (bits:=bits) h1 (by rw [hl];exact h2);unfold dA dB;rw [List.length_cons,← hl];omega
theorem S4 (x:ByteArray):bB [x]=[x]:=by
 unfold bB jF;rw [List.length_singleton,rt,List.map_singleton,zC]
theorem VR {L:List ByteArray} (h:2≤L.length):bB L=(List.range' 1 (2 ^ (L.length - 1) - 1)).flatMap (AP L):=by
 obtain ⟨x,y,L,rfl⟩:∃x y L',L=x::y::L':=by
  cases L with
  | nil=>simp at h
  | cons x L =>
   cases L with
   | nil=>simp at h
   | cons y L=>exact ⟨x,y,L,rfl⟩
 unfold bB jF;have e1:(x::y::L).length=(y::L).length+1:=rfl;rw [e1,rt,List.map_flatMap,Nat.add_sub_cancel];refine iI fun bits hb=>?_;rw [List.mem_range'_1] at hb;have hd:=Kv (L:=x::y::L) h (bits:=bits) hb.1 (by have:(x::y::L).length - 1=(y::L).length:=rfl;rw [this];omega);unfold AP bB;rw [List.map_flatMap,List.flatMap_map];have ea:dA (x::y::L) bits=x::bh (fun i=>!bits.testBit i) (y::L) (y::L).length:=rfl;have eb:dB (x::y::L) bits=bh (fun i=>bits.testBit i) (y::L) (y::L).length:=rfl;rw [← ea,← eb]
 have f1:rt (y::L).length (dA (x::y::L) bits)=jF (dA (x::y::L) bits):=nV _ _ _ (by simp only [List.length_cons] at hd ⊢;omega) (Nat.le_refl _);have f2:rt (y::L).length (dB (x::y::L) bits)=jF (dB (x::y::L) bits):=nV _ _ _ (by simp only [List.length_cons] at hd ⊢;omega) (Nat.le_refl _);rw [f1,f2];refine iI fun a _=>?_;rw [List.map_map,List.map_map];refine List.map_congr_left fun b _=>?_;exact zD a b
theorem F0 {L:List ByteArray}:∀ {n:Nat},L.length=n→n≤4→(jF L).length=if n=0 then 0 else if n=1 then 1 else if n=2 then 1 else if n=3 then 3 else 15:=by
 intro n hn h4;have e:L=((List.range n).map fun i=>gs L i):=by
  apply List.ext_getElem
  ·simp [hn]
  ·intro i h1 h2
   simp [gs,h1]
 unfold jF;rw [hn];have e2:rt n L=(rt n (List.range n)).map (BT.map fun i=>gs L i):=by rw [← zO];exact congrArg (rt n) e
 rw [e2,List.length_map];obtain rfl | rfl | rfl | rfl | rfl:n=0∨n=1∨n=2∨n=3∨n=4:=by omega
 ·decide +kernel
 ·decide +kernel
 ·decide +kernel
 ·decide +kernel
 ·decide +kernel
theorem qu {L:List ByteArray} (h:L.length≤4):(bB L).length≤15:=by
 unfold bB;rw [List.length_map,F0 rfl h];split<;>(try split)<;>(try split)<;>(try split)<;>omega
theorem S5 {L:List ByteArray} (h:L.length≤4) (h1:1≤L.length):1≤(bB L).length:=by
 unfold bB;rw [List.length_map,F0 rfl h];split<;>(try split)<;>(try split)<;>(try split)<;>omega
theorem lY {α β:Type} {f:α→List β} {K:Nat}:∀l:List α,(∀a∈l,(f a).length≤K)→(l.flatMap f).length≤l.length*K
 | [],_=>by simp
 | a::l,h=>by
  rw [List.flatMap_cons,List.length_append,List.length_cons,Nat.succ_mul]
  have h1:=h a (by simp)
  have h2:=lY l fun b hb=>h b (by simp [hb])
  omega
theorem S6 {L:List ByteArray} {bits:Nat} (ha:(dA L bits).length≤4) (hb:(dB L bits).length≤4):(AP L bits).length≤225:=by
 unfold AP;have h1:=qu ha;have h2:=qu hb;have h3:=lY (f:=fun s=>(bB (dB L bits)).map fun t=>pairT s t) (K:=15) (bB (dA L bits)) fun s _=>by rw [List.length_map];exact h2
 have h4:(bB (dA L bits)).length*15≤15*15:=Nat.mul_le_mul_right _ h1;omega
theorem Kw {L:List ByteArray} {bits:Nat} (h:1≤L.length):(∀x∈dA L bits,x∈L)∧∀x∈dB L bits,x∈L:=by
 have hp:∀p:Nat→Bool,∀x∈bh p L.tail (L.length - 1),x∈L:=fun p x hx=>by
  obtain ⟨i,hi,_,rfl⟩:=B2.1 hx;have hl:i<L.tail.length:=by simp;omega
  rw [List.getD_eq_getElem?_getD,List.getElem?_eq_getElem hl];exact List.mem_of_mem_tail (List.getElem_mem hl)
 refine ⟨fun x hx=>?_,hp _⟩;rcases List.mem_cons.1 hx with rfl | hx
 ·cases L with
  | nil=>simp at h
  | cons a l=>simp [gs]
 ·exact hp _ x hx
theorem Ky (s t:ByteArray):(pairT s t).size=s.size+t.size+3:=by
 unfold pairT;simp only [ByteArray.size_append];show 1+s.size+1+t.size+1=_;omega
theorem uO:∀r:BT ByteArray,(∀x∈r.fZ,x.size≤20)→(iM r).size+3≤23*r.fZ.length
 | .leaf x,h=>by
  rw [zC]
  have:=h x (by simp [BT.fZ])
  simp only [BT.fZ,List.length_singleton]
  omega
 | .node a b,h=>by
  have h1:=uO a fun x hx=>h x (List.mem_append_left _ hx)
  have h2:=uO b fun x hx=>h x (List.mem_append_right _ hx)
  rw [zD,Ky]
  simp only [BT.fZ,List.length_append]
  omega
theorem uP {L:List ByteArray} (h:L.length≤4) (hz:∀x∈L,x.size≤20) {s:ByteArray} (hs:s∈bB L):s.size≤100:=by
 obtain ⟨r,hr,rfl⟩:=List.mem_map.1 hs;have hp:=vX _ _ _ hr;have h1:=uO r fun x hx=>hz x (hp.mem_iff.1 hx);have h2:=hp.length_eq;omega
theorem jd {L:List ByteArray} {M:Nat} (hz:∀x∈L,x.size≤M) (k:Nat):(gs L k).size≤M:=by
 by_cases hk:k<L.length
 ·have:gs L k=L[k]:=by simp [gs,hk]
  rw [this];exact hz _ (List.getElem_mem hk)
 ·have:gs L k=ByteArray.empty:=by simp [gs,hk]
  rw [this];exact Nat.zero_le _
end Go.Proofs.YthgabkgmkolobaaGreat
