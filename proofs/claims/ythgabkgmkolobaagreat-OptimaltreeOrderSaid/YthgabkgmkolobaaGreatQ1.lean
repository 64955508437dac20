/- What the functions of layers 1 and 31 compute, as plain functions on lists. Plain: the .. -/
import Derived.RangeFuncRecord
import Derived.MapKept
import Derived.Lib.Builder
import Derived.Laws.World
import Derived.Laws.AppendOwn
import Derived.Below
import Derived.AtR
import Derived.Lib.Hide
set_option maxRecDepth 100000

namespace Go.Proofs.YthgabkgmkolobaaGreat
abbrev Ld:=@Array.getElem?_eq_none
abbrev fW:=@Array.getElem?_eq_some_iff
abbrev UY:=@Array.getElem?_modify
abbrev kH:=@Array.getElem?_toList
abbrev sj:=@Array.length_toList
abbrev ic:=@Array.replicate_succ
abbrev ig:=@Array.replicate_zero
abbrev bH:=@Go.RowKit.Below.block
abbrev CO:=@Go.RowKit.Below.heap_setCell
abbrev cN:=@Go.RowKit.Below.refl
abbrev fc:=@Go.RowKit.Below.trans
abbrev fe:=@Bool.and_eq_true
abbrev oh:=@Bool.eq_false_iff
abbrev nv:=@Bool.eq_iff_iff
abbrev wu:=@Bool.or_eq_true
abbrev wA:=@ByteArray.data_extract
abbrev tR:=@Int.eq_ofNat_of_zero_le
abbrev nw:=@Int.le_refl
abbrev jd:=@Int.toNat_natCast
abbrev tS:=@Go.Lib.cell_of_heap
abbrev jP:=@List.Perm.refl
abbrev tT:=@List.all_eq_true
abbrev eF:=@List.any_eq_true
abbrev bZ:=@List.append_assoc
abbrev fM:=@List.append_nil
abbrev wC:=@List.append_toArray
abbrev bz:=@List.cons_append
abbrev BF:=@List.contains_iff_mem
abbrev lu:=@List.eq_nil_of_length_eq_zero
abbrev tU:=@List.ext_getElem
abbrev zv:=@List.ext_getElem?
abbrev wD:=@List.filter_append
abbrev qh:=@List.flatMap_append
abbrev fZ:=@List.flatMap_cons
abbrev zw:=@List.flatMap_map
abbrev fh:=@List.getD_eq_getElem?_getD
abbrev wE:=@List.getElem?_append_left
abbrev zx:=@List.getElem?_append_right
abbrev Fq:=@List.getElem?_drop
abbrev gP:=@List.getElem?_eq_getElem
abbrev Fs:=@List.getElem?_eq_none
abbrev mj:=@List.getElem?_eq_some_iff
abbrev jQ:=@List.getElem?_map
abbrev lz:=@List.getElem_mem
abbrev wF:=@List.getElem_of_mem
abbrev tV:=@List.getLast?_cons_cons
abbrev bg:=@List.length_append
abbrev aO:=@List.length_cons
abbrev gw:=@List.length_drop
abbrev tW:=@List.length_filter_le
abbrev aD:=@List.length_map
abbrev dz:=@List.length_nil
abbrev wG:=@List.length_pos_iff
abbrev BG:=@List.length_replicate
abbrev BH:=@List.length_singleton
abbrev qi:=@List.length_tail
abbrev dD:=@List.length_take
abbrev dV:=@List.lookup_cons
abbrev cm:=@List.map_append
abbrev jR:=@List.map_congr_left
abbrev bI:=@List.map_cons
abbrev tX:=@List.map_flatMap
abbrev jS:=@List.map_map
abbrev cu:=@List.mem_append
abbrev zy:=@List.mem_append_left
abbrev zA:=@List.mem_append_right
abbrev bX:=@List.mem_cons
abbrev tY:=@List.mem_cons_of_mem
abbrev qj:=@List.mem_cons_self
abbrev ny:=@List.mem_filter
abbrev gh:=@List.mem_flatMap
abbrev di:=@List.mem_map
abbrev BI:=@List.mem_of_getElem?
abbrev BJ:=@List.mem_of_mem_drop
abbrev zB:=@List.mem_of_mem_tail
abbrev rJ:=@List.mem_of_mem_take
abbrev cU:=@List.mem_range
abbrev jT:=@List.mem_singleton
abbrev cw:=@List.nil_append
abbrev gy:=@List.nodup_append
abbrev gz:=@List.nodup_cons
abbrev wH:=@List.pairwise_cons
abbrev rK:=@List.pairwise_iff_getElem
abbrev oo:=@List.perm_append_comm
abbrev fk:=@List.push_toArray
abbrev zC:=@List.range_succ
abbrev fo:=@List.size_toArray
abbrev qm:=@List.take_append_drop
abbrev eT:=@List.take_length
abbrev zD:=@List.take_of_length_le
abbrev wI:=@List.take_succ_cons
abbrev jo:=@List.take_succ_eq_append_getElem
abbrev zF:=@Go.MapKept.run_getObj_map
abbrev nA:=@Nat.add_zero
abbrev zG:=@Nat.eq_zero_or_pos
abbrev gQ:=@Nat.le_of_eq
abbrev ah:=@Nat.le_refl
abbrev kI:=@Nat.le_succ
abbrev aR:=@Nat.le_trans
abbrev mm:=@Nat.lt_of_lt_of_le
abbrev qz:=@Nat.lt_succ_self
abbrev vk:=@Nat.lt_trichotomy
abbrev mS:=@Nat.mul_le_mul_left
abbrev qA:=@Nat.mul_le_mul_right
abbrev bS:=@Nat.not_lt_zero
abbrev x9:=@Nat.pow_le_pow_right
abbrev ij:=@Nat.zero_add
abbrev aI:=@Nat.zero_le
abbrev dM:=@Ne.symm
abbrev ou:=@Go.Oper.semAt_eq
abbrev iq:=@Option.map_eq_some_iff
abbrev iM:=@Prod.mk.injEq
abbrev sk:=@UInt8.lt_iff_toNat_lt
abbrev qB:=@Go.World.alloc_heap_new
abbrev dN:=@Go.World.block_lt_of_cell?
abbrev abt:=@Go.World.cell?_alloc_new
abbrev fG:=@Go.World.cell?_of_block
abbrev lT:=@Go.World.ownsRow.lt
abbrev kU:=@Go.World.putObj_heap_other
abbrev aL:=@Go.World.size_alloc
abbrev ox:=@Go.World.size_setCell
open Go.RowKit in
theorem aa {p : Prop} (h : p) : Hid p := h
theorem aj {α : Type} {i : Nat} {a : α} {l : List α} : l.toArray.setIfInBounds i a = (l.set i a).toArray := List.setIfInBounds_toArray ..
theorem aq {α : Type} {a b : α} {l : List α} : (a :: l).set 0 b = b :: l := List.set_cons_zero ..
theorem au {α : Type} {n : Nat} {a b : α} {l : List α} : (a :: l).set (n + 1) b = a :: l.set n b := List.set_cons_succ ..
section
def gi (l:List Int) (k:Nat):Int:=l.getD k 0
def gs (l:List ByteArray) (k:Nat):ByteArray:=l.getD k ByteArray.empty
def gb (l:List Bool) (k:Nat):Bool:=l.getD k false
def gl (l:List (List Int)) (k:Nat):List Int:=l.getD k []
structure aF where
 ps:List Int
 ns:List ByteArray

theorem TI (bs:ByteArray):∀(n i:Nat) (r:List UInt8),bs.size - i=n->ByteArray.toList.loop bs i r=r.reverse++bs.data.toList.drop i:=by
 intro n
 induction n with
 | zero =>
  intro i r h;unfold ByteArray.toList.loop;rw [if_neg (by omega),List.drop_of_length_le (by simp;omega)];simp
 | succ n ih =>
  intro i r h;unfold ByteArray.toList.loop;have hi:i<bs.size:=by omega
  rw [if_pos hi,ih (i+1) _ (by omega),List.reverse_cons,bZ];congr 1;rw [List.drop_eq_getElem_cons (i:=i) (by simpa using hi),List.singleton_append];congr 1;simp [ByteArray.get!,getElem!_pos,hi]
theorem toList_data (s:ByteArray):s.toList=s.data.toList:=by
 unfold ByteArray.toList;rw [TI s _ 0 [] rfl];simp
theorem toList_nil (s:ByteArray):s.toList=[]↔s.size=0:=by
 rw [toList_data,<- List.length_eq_zero_iff];simp
theorem size_data (s:ByteArray):s.data.toList.length=s.size:=by simp
theorem fH {a b:ByteArray} (h:a.data.toList=b.data.toList):a=b:=by
 cases a;cases b;simpa using h
def isLet (c:Nat):Bool:=(97<=c&&c<=122) || (65<=c&&c<=90)
def wJ (c:Nat):Bool:=c==46 || c==44 || c==59 || c==58 || c==33 || c==63 || c==40 || c==41 || c==45
def dH (c:Nat):Int:=if isLet c then 1 else if c=94\/c=126\/c=37 then 2 else if 48<=c/\c<=57 then 3 else if c=39 then 4 else if c=32 then 6 else if wJ c then 5 else 0
def rz (c:UInt8):Bool:=isLet c.toNat || (48<=c.toNat&&c.toNat<=57)
def kJ (l:List UInt8):Nat:=l.countP rz
def eG (l:List UInt8):Bool:=1<=l.length&&l.length<=16&&l.all rz
def bu (l:List UInt8):Bool:=if l.getLast? = some 42 then eG l.dropLast&&l.length<=16 else eG l

def kC (i:Nat) (p:Int):Bool:=if i=0 then p == -1 else decide (0<=p)&&decide (p<i)
def jW (ps:List Int):Bool:=(List.range ps.length).all fun i=>kC i (gi ps i)
def DI (ps:List Int) (n i:Nat):Bool:=(List.range n).any fun j=>decide (0<j)&&gi ps j==(i:Int)
def isIn (ps:List Int) (i:Nat):Bool:=DI ps ps.length i
def dW (ns:List ByteArray) (i:Nat):Bool:=(List.range i).any fun j=>decide (gs ns j=gs ns i)
def jC (ps:List Int) (ns:List ByteArray) (i:Nat):Int :=
 if isIn ps i then (if (gs ns i).size=0 then 0 else 14) else if bu (gs ns i).data.toList then (if dW ns i then 7 else 0) else 14
def dF (f:Nat->Int):Nat->Int
 | 0=>0
 | n+1=>if dF f n=0 then f n else dF f n
def aB (t:aF):Int :=
 if t.ps.length=0 then 5 else if 64<t.ps.length then 4 else if t.ns.length≠t.ps.length then 9
 else if jW t.ps then dF (jC t.ps t.ns) t.ps.length else 2
def az (ns:List ByteArray):List Int:=((List.range ns.length).filter fun i=>(gs ns i).size≠0).map fun (i:Nat)=>(i:Int)

theorem ey {f:Nat->Int}:∀ {n:Nat},(∀j,j<n->f j=0)->dF f n=0
 | 0,_=>rfl
 | n+1,h=>by
  unfold dF
  rw [if_pos (ey fun j hj=>h j (by omega))];exact h n (by omega)
theorem gA {f:Nat->Int} {k:Nat}:∀ {n:Nat},k<n->(∀j,j<k->f j=0)->f k≠0->dF f n=f k
 | 0,h,_,_=>absurd h (bS _)
 | n+1,hk,h,hne=>by
  unfold dF
  by_cases e:k=n
  ·subst e;rw [if_pos (ey h)]
  ·rw [gA (by omega) h hne,if_neg hne]
theorem lB {f:Nat->Int}:∀ {n:Nat},dF f n=0->∀j,j<n->f j=0
 | 0,_,j,hj=>absurd hj (bS _)
 | n+1,h,j,hj=>by
  unfold dF at h
  split at h
  ·rename_i h0
   by_cases e:j=n
   ·subst e;exact h
   ·exact lB h0 j (by omega)
  ·rename_i h0;exact absurd h h0
theorem Fx (ps:List Int) (n i:Nat):DI ps (n+1) i=(DI ps n i || (decide (0<n)&&gi ps n==(i:Int))):=by
 simp [DI,List.range_succ,List.any_append]
theorem Fy {ps:List Int} {k:Nat} (hk:k<ps.length) (h:kC k (gi ps k)=false):jW ps=false:=by
 rw [oh];intro e;have:=tT.1 e k (cU.2 hk);simp [h] at this
theorem AK {ps:List Int} (h:∀j,j<ps.length->kC j (gi ps j)=true):jW ps=true :=
 tT.2 fun j hj=>h j (cU.1 hj)
theorem CP {ps:List Int} (h:jW ps=true) {j:Nat} (hj:j<ps.length):kC j (gi ps j)=true :=
 tT.1 h j (cU.2 hj)
def cF (p:Nat->Bool):Nat->Int
 | 0=>-1
 | n+1=>if cF p n = -1 then (if p n then (n:Int) else -1) else cF p n
theorem lU (p:Nat->Bool) (n:Nat):cF p (n+1)=if cF p n = -1 then (if p n then (n:Int) else -1) else cF p n:=rfl
theorem jX {p:Nat->Bool}:∀ {n:Nat},(∀j,j<n->p j=false)->cF p n = -1
 | 0,_=>rfl
 | n+1,h=>by
  rw [lU,if_pos (jX fun j hj=>h j (by omega)),h n (by omega)];rfl
theorem mq {p:Nat->Bool} {k:Nat}:∀ {n:Nat},k<n->(∀j,j<k->p j=false)->p k=true->cF p n=k
 | 0,h,_,_=>absurd h (bS _)
 | n+1,hk,h,hp=>by
  rw [lU]
  by_cases e:k=n
  ·subst e;rw [if_pos (jX h),hp];rfl
  ·rw [mq (by omega) h hp,if_neg (by omega)]
theorem BK (p:Nat->Bool) (n:Nat):-1<=cF p n/\cF p n<n/\(cF p n = -1\/0<=cF p n):=by
 induction n with
 | zero=>simp [cF]
 | succ n ih=>rw [lU];split<;>(try split)<;>omega
theorem mU (p:Nat->Bool) (n:Nat):decide (0<=cF p n)=(List.range n).any p:=by
 induction n with
 | zero=>simp [cF]
 | succ n ih =>
  have hl:=BK p n
  rw [zC,List.any_append,<- ih,lU]
  by_cases h:cF p n = -1
  ·rw [if_pos h,h];cases hp:p n<;>simp [hp]
  ·rw [if_neg h];have:0<=cF p n:=by omega
   simp [this]
theorem sr {p:Nat->Bool} {n k:Nat} (h:cF p n=k):k<n/\p k=true/\∀j,j<k->p j=false:=by
 induction n with
 | zero=>simp [cF] at h
 | succ n ih =>
  rw [lU] at h
  by_cases h1:cF p n = -1
  ·rw [if_pos h1] at h
   by_cases hp:p n=true
   ·rw [if_pos hp] at h
    obtain rfl:n=k:=by omega
    refine ⟨by omega,hp,fun j hj=>?_⟩
    cases hq:p j with
    | false=>rfl
    | true =>
     exfalso
     have:=mU p n
     rw [h1] at this
     have h2:(List.range n).any p=true:=eF.2 ⟨j,cU.2 hj,hq⟩
     rw [h2] at this;simp at this
   ·rw [if_neg hp] at h;omega
  ·rw [if_neg h1] at h
   have:=ih h
   exact ⟨by omega,this.2⟩
end
section
def pH (ns:List ByteArray) (k:Nat):List Int:=((List.range k).filter fun i=>(gs ns i).size≠0).map fun (i:Nat)=>(i:Int)
theorem Fz (ns:List ByteArray) (k:Nat):pH ns (k+1)=pH ns k++(if (gs ns k).size=0 then [] else [(k:Int)]):=by
 unfold pH;rw [zC,wD,cm];congr 1;by_cases h:(gs ns k).size=0
 ·have h2:decide ((gs ns k).size≠0)=false:=by rw [decide_eq_false_iff_not];exact fun e=>e h
  rw [if_pos h];simp only [List.filter_cons,h2,List.filter_nil];rfl
 ·have h2:decide ((gs ns k).size≠0)=true:=by rw [decide_eq_true_eq];exact h
  rw [if_neg h];simp only [List.filter_cons,h2,List.filter_nil];rfl
theorem Js (ns:List ByteArray) (k:Nat):(pH ns k).length<=k:=by
 unfold pH;rw [aD];exact aR (tW _ _) (by simp)
end
section
def cV (ps:List Int) (n k:Nat):List Nat:=(List.range k).filter fun i=>decide (n<i)&&gi ps i==(n:Int)
def b7 (ps:List Int) (n:Nat):List Nat:=cV ps n ps.length
def eX (l:List Nat):List Int:=l.map fun (i:Nat)=>(i:Int)
theorem kK (ps:List Int) (n k:Nat):cV ps n (k+1)=cV ps n k++(if n<k/\gi ps k=n then [k] else []):=by
 unfold cV;rw [zC,wD];congr 1;by_cases h:n<k/\gi ps k=n
 ·rw [if_pos h];simp [h.1,h.2]
 ·rw [if_neg h]
  have:(decide (n<k)&&gi ps k==(n:Int))=false:=by rw [oh];intro e;apply h;simpa using e
  simp [this]
theorem Aa (ps:List Int) (n:Nat):cV ps n (n+1)=[]:=by
 unfold cV;rw [List.filter_eq_nil_iff];intro a ha;have:=cU.1 ha;simp;omega
theorem qD (ps:List Int) (n k:Nat):(cV ps n k).length<=k:=by
 unfold cV;exact aR (tW _ _) (by simp)
theorem fI {ps:List Int} {n i:Nat}:i∈b7 ps n↔i<ps.length/\n<i/\gi ps i=n:=by
 unfold b7 cV;rw [ny,cU];simp
theorem Fg (a b:List Nat):eX (a++b)=eX a++eX b:=cm
theorem lV {ps:List Int} (h:jW ps=true) (n:Nat):b7 ps n≠[]↔isIn ps n=true:=by
 constructor
 ·intro hne
  obtain ⟨i,hi⟩:=List.exists_mem_of_ne_nil _ hne;obtain ⟨h1,h2,h3⟩:=fI.1 hi;exact eF.2 ⟨i,cU.2 h1,by simp [h3];omega⟩
 ·intro hin
  obtain ⟨i,hi,h2⟩:=eF.1 hin;have hi:=cU.1 hi;simp at h2;have:=CP h hi;unfold kC at this;rw [if_neg (by omega)] at this;simp at this;exact List.ne_nil_of_mem (fI.2 ⟨hi,by omega,h2.2⟩)
end
section
def je (st:List Int) (least most:Int):Bool:=(List.range st.length).any fun k=>decide (gi st k<least) || decide (most<=gi st k)
def nE (st:List Int) (n:Nat) (least most:Int):Int:=if st.length≠n then 9 else if je st least most then 2 else 0
def Le (a b:Nat) (c:Int):Bool:=decide (c<0) || decide (1000<c) || (decide (a=b)&&decide (c≠0))
def UZ (a:Nat) (row:List Int) (k:Nat):Bool:=(List.range k).any fun b=>Le a b (gi row b)
def J2 (cs:List (List Int)) (k:Nat):Bool:=(List.range k).any fun a=>UZ a (gl cs a) (gl cs a).length
def MK (cs:List (List Int)):Bool:=(List.range cs.length).any fun a=>decide ((gl cs a).length≠cs.length)
def oy (cs:List (List Int)):Int:=if cs.length=0 then 5 else if 16<cs.length then 4 else if MK cs then 9 else if J2 cs cs.length then 2 else 0
theorem any_none {p:Nat->Bool} {n:Nat} (h:∀j,j<n->p j=false):(List.range n).any p=false:=by
 rw [oh];intro e;obtain ⟨j,hj,hp⟩:=eF.1 e;rw [h j (cU.1 hj)] at hp;cases hp
theorem vo {p:Nat->Bool} {n k:Nat} (hk:k<n) (hp:p k=true):(List.range n).any p=true:=eF.2 ⟨k,cU.2 hk,hp⟩
theorem any_false {p:Nat->Bool} {n:Nat} (h:(List.range n).any p=false) {k:Nat} (hk:k<n):p k=false:=by
 cases e:p k with
 | false=>rfl
 | true=>rw [vo hk e] at h;cases h
def iN (t:aF) (st:List Int) (cs:List (List Int)):Int :=
 if aB t≠0 then 1 else if oy cs≠0 then oy cs else nE st (az t.ns).length (-1) cs.length
end
section
def bJ (c row:Nat->Int):Nat->Int×Int
 | 0=>(-1,0)
 | k+1=>if row k<0 then bJ c row k else if (bJ c row k).1<0\/c k+row k<(bJ c row k).1 then (c k+row k,(k:Int)) else bJ c row k
theorem mz (c row:Nat->Int) (k:Nat):bJ c row (k+1)=if row k<0 then bJ c row k else if (bJ c row k).1<0\/c k+row k<(bJ c row k).1 then (c k+row k,(k:Int)) else bJ c row k:=rfl
theorem FA {c row:Nat->Int} {A:Int} (hA:0<=A) (hc:∀k,0<=c k/\c k<=1000) (hr:∀k,row k<=A) (k:Nat):-1<=(bJ c row k).1/\(bJ c row k).1<=A+1000:=by
 induction k with
 | zero=>simp [bJ];omega
 | succ k ih =>
  rw [mz]
  have:=hc k;have:=hr k
  split
  ·exact ih
  ·split
   ·simp;omega
   ·exact ih
end
section
def cz (f:Nat->Int):Nat->Int
 | 0=>0
 | n+1=>cz f n+f n
theorem fS (f:Nat->Int) (n:Nat):cz f (n+1)=cz f n+f n:=rfl
theorem gC {f g:Nat->Int}:∀ {n:Nat},(∀c,c<n->f c=g c)->cz f n=cz g n
 | 0,_=>rfl
 | n+1,h=>by rw [fS,fS,gC fun c hc=>h c (by omega),h n (by omega)]
theorem AL (f g:Nat->Int):∀n:Nat,cz (fun c=>f c+g c) n=cz f n+cz g n
 | 0=>rfl
 | n+1=>by rw [fS,fS,fS,AL f g n];omega
theorem tZ {f g:Nat->Int}:∀ {n:Nat},(∀c,c<n->f c<=g c)->cz f n<=cz g n
 | 0,_=>nw _
 | n+1,h=>by
  rw [fS,fS]
  have:=tZ (f:=f) (g:=g) (n:=n) fun c hc=>h c (by omega)
  have:=h n (by omega);omega
theorem ua:∀n:Nat,cz (fun _=>0) n=0
 | 0=>rfl
 | n+1=>by rw [fS,ua n];rfl
theorem qo {f:Nat->Int} {n:Nat} (h:∀c,c<n->0<=f c):0<=cz f n:=by
 have:=tZ (f:=fun _=>0) (g:=f) (n:=n) h;rw [ua] at this;exact this
theorem FB (k:Nat) (x:Int):∀n:Nat,cz (fun c=>if c=k then x else 0) n=if k<n then x else 0
 | 0=>rfl
 | n+1=>by
  rw [fS,FB k x n]
  by_cases h:n=k
  ·subst h;simp
  ·by_cases h2:k<n
   ·simp [h,h2];omega
   ·simp [h,h2];omega
theorem DJ (ps:List Int) (i:Nat) (g:Nat->Int):∀n:Nat,((cV ps i n).map g).sum=cz (fun c=>if i<c/\gi ps c=i then g c else 0) n
 | 0=>rfl
 | n+1=>by
  rw [kK,cm,List.sum_append,DJ ps i g n,fS]
  split<;>simp
def ya (n m:Nat) (par own:Nat->Int) (cost:Nat->Nat->Int) (look:Nat->Nat->Int) (i s:Nat):Int :=
 (if 0<=own i/\own i≠s then -1 else 0)+cz (fun c=>if i<c/\par c=i then (bJ (cost s) (look c) m).1 else 0) n
def Lf (n m:Nat) (par own:Nat->Int) (cost:Nat->Nat->Int):Nat->Nat->Nat->Int
 | 0=>fun _ _=>0
 | d+1=>ya n m par own cost (Lf n m par own cost d)
def tab (n m:Nat) (par own:Nat->Int) (cost:Nat->Nat->Int) (i s:Nat):Int:=Lf n m par own cost n i s
theorem qp {c c' r r':Nat->Int}:∀ {k:Nat},(∀j,j<k->c j=c' j)->(∀j,j<k->r j=r' j)->bJ c r k=bJ c' r' k
 | 0,_,_=>rfl
 | k+1,h1,h2=>by
  rw [mz,mz,qp (fun j hj=>h1 j (by omega)) (fun j hj=>h2 j (by omega)),h1 k (by omega),h2 k (by omega)]
section
variable {n m:Nat} {par own:Nat->Int} {cost:Nat->Nat->Int}
theorem DK:∀ {d e i:Nat},n<=i+d->n<=i+e->i<n->∀s,Lf n m par own cost d i s=Lf n m par own cost e i s
 | 0,_,_,h,_,hi,_=>by omega
 | _,0,_,_,h,hi,_=>by omega
 | d+1,e+1,i,h1,h2,hi,s=>by
  show ya _ _ _ _ _ _ _ _=ya _ _ _ _ _ _ _ _
  unfold ya
  congr 1
  refine gC fun c hc=>?_
  split
  ·rename_i hk
   rw [qp (fun _ _=>rfl) fun j _=>DK (d:=d) (e:=e) (by omega) (by omega) hc j]
  ·rfl
theorem ML {i:Nat} (hi:i<n) (s:Nat):tab n m par own cost i s=ya n m par own cost (tab n m par own cost) i s:=by
 unfold tab;obtain ⟨d,rfl⟩:∃d,n=d+1:=⟨n - 1,by omega⟩;show ya _ _ _ _ _ _ _ _=_;unfold ya;congr 1;refine gC fun c hc=>?_;split
 ·rename_i hk
  rw [qp (fun _ _=>rfl) fun j _=>DK (d:=d) (e:=d+1) (by omega) (by omega) hc j]
 ·rfl
structure U0 (n m:Nat) (par own:Nat->Int) (cost:Nat->Nat->Int):Prop where
 m1:0<m
 abS:∀c,0<c->c<n->0<=par c
 YY:∀c,c<n->par c<c
 aaa:∀i,i<n -> -1<=own i/\own i<m
 Lg:∀a b,a<m->b<m->0<=cost a b/\cost a b<=1000
 leaf:∀i c,c<n->i<c->par c=i->own i = -1
theorem wK {c row:Nat->Int} {A:Int} (hA:0<=A):∀ {k:Nat},(∀j,j<k->0<=c j/\c j<=1000)->(∀j,j<k->row j<=A) ->
  ((bJ c row k).1 = -1/\(∀j,j<k->row j<0)) \/
  (∃o:Nat,(bJ c row k).2=o/\o<k/\0<=row o/\(bJ c row k).1=c o+row o/\(∀j,j<k->0<=row j->(bJ c row k).1<=c j+row j)/\(∀j,j<o->0<=row j->(bJ c row k).1<c j+row j))
 | 0,_,_=>.inl ⟨rfl,fun j hj=>absurd hj (bS _)⟩
 | k+1,hc,hr=>by
  have ih:=wK (c:=c) (row:=row) hA (k:=k) (fun j hj=>hc j (by omega)) fun j hj=>hr j (by omega)
  have yc:=hc k (by omega)
  rw [mz]
  by_cases h0:row k<0
  ·rw [if_pos h0]
   rcases ih with ⟨h1,h2⟩ | ⟨o,h1,h2,h3,h4,h5,h6⟩
   ·exact .inl ⟨h1,fun j hj=>if e:j=k then e ▸ h0 else h2 j (by omega)⟩
   ·refine .inr ⟨o,h1,by omega,h3,h4,fun j hj hj0=>?_,h6⟩
    by_cases e:j=k
    ·subst e;omega
    ·exact h5 j (by omega) hj0
  ·rw [if_neg h0]
   rcases ih with ⟨h1,h2⟩ | ⟨o,h1,h2,h3,h4,h5,h6⟩
   ·rw [if_pos (.inl (by omega))]
    refine .inr ⟨k,rfl,by omega,by omega,rfl,fun j hj hj0=>?_,fun j hj hj0=>?_⟩
    ·by_cases e:j=k
     ·subst e;exact nw _
     ·have:=h2 j (by omega);omega
    ·have:=h2 j (by omega);omega
   ·have ho:=hc o (by omega)
    by_cases hlt:c k+row k<(bJ c row k).1
    ·rw [if_pos (.inr hlt)]
     refine .inr ⟨k,rfl,by omega,by omega,rfl,fun j hj hj0=>?_,fun j hj hj0=>?_⟩
     ·by_cases e:j=k
      ·subst e;exact nw _
      ·have:=h5 j (by omega) hj0;simp only;omega
     ·have:=h5 j (by omega) hj0;simp only;omega
    ·rw [if_neg (by intro h;omega)]
     refine .inr ⟨o,h1,by omega,h3,h4,fun j hj hj0=>?_,h6⟩
     by_cases e:j=k
     ·subst e;omega
     ·exact h5 j (by omega) hj0
end
end
section
section
variable {n m:Nat} {par own:Nat->Int} {cost:Nat->Nat->Int}
def uF (n:Nat) (par:Nat->Int):Nat->Nat->Int
 | 0,_=>0
 | d+1,i=>cz (fun c=>if i<c/\par c=i then uF n par d c+1000 else 0) n
def ub (n:Nat) (par:Nat->Int) (i:Nat):Int:=uF n par n i
theorem J3:∀ {d e i:Nat},n<=i+d->n<=i+e->i<n->uF n par d i=uF n par e i
 | 0,_,_,h,_,hi=>by omega
 | _,0,_,_,h,hi=>by omega
 | d+1,e+1,i,h1,h2,hi=>by
  show cz _ _=cz _ _
  refine gC fun c hc=>?_
  split
  ·rename_i hk
   rw [J3 (d:=d) (e:=e) (by omega) (by omega) hc]
  ·rfl
theorem Sq {i:Nat} (hi:i<n):ub n par i=cz (fun c=>if i<c/\par c=i then ub n par c+1000 else 0) n:=by
 unfold ub;obtain ⟨d,rfl⟩:∃d,n=d+1:=⟨n - 1,by omega⟩;show cz _ _=_;refine gC fun c hc=>?_;split
 ·rename_i hk
  rw [J3 (d:=d) (e:=d+1) (by omega) (by omega) hc]
 ·rfl
theorem MM (d:Nat):∀i:Nat,0<=uF n par d i:=by
 induction d with
 | zero=>intro i;exact nw _
 | succ d ih =>
  intro i
  exact qo fun c _=>by
   have:=ih c
   split<;>omega
theorem ye (i:Nat):0<=ub n par i:=MM _ _
def BL (n:Nat) (par:Nat->Int) (k:Nat):Int:=cz (fun c=>if k<=c/\par c<k then ub n par c+1000 else 0) n
theorem PY (h:∀c,c<n->par c<c) {k:Nat} (hk:k<n):BL n par k=BL n par (k+1)+1000:=by
 have h1:BL n par k=cz (fun c=>if k+1<=c/\par c<k then ub n par c+1000 else 0) n+cz (fun c=>if c=k then ub n par k+1000 else 0) n:=by
  rw [<- AL];unfold BL;refine gC fun c hc=>?_;by_cases e:c=k
  ·subst e
   have:=h c hc;rw [if_pos ⟨ah _,this⟩,if_neg (by omega),if_pos rfl];omega
  ·by_cases h2:k<=c/\par c<k
   ·rw [if_pos h2,if_pos ⟨by omega,h2.2⟩,if_neg e];omega
   ·rw [if_neg h2,if_neg (fun h3=>h2 ⟨by omega,h3.2⟩),if_neg e];rfl
 have h2:BL n par (k+1)=cz (fun c=>if k+1<=c/\par c<k then ub n par c+1000 else 0) n+cz (fun c=>if k<c/\par c=k then ub n par c+1000 else 0) n:=by
  rw [<- AL];unfold BL;refine gC fun c _=>?_;by_cases h3:k+1<=c
  ·by_cases h4:par c=k
   ·rw [if_pos ⟨h3,by omega⟩,if_neg (by omega),if_pos ⟨h3,h4⟩];omega
   ·by_cases h5:par c<k
    ·rw [if_pos ⟨h3,by omega⟩,if_pos ⟨h3,h5⟩,if_neg (fun h=>h4 h.2)];omega
    ·rw [if_neg (by omega),if_neg (fun h=>h5 h.2),if_neg (fun h=>h4 h.2)];rfl
  ·rw [if_neg (fun h=>h3 h.1),if_neg (fun h=>h3 h.1),if_neg (fun h=>h3 (by omega))];rfl
 rw [FB,if_pos hk] at h1;rw [<- Sq hk] at h2;omega
theorem MN (h:∀c,c<n->par c<c):∀ {d k:Nat},k+d=n->BL n par k=1000*(d:Int)
 | 0,k,e=>by
  have:BL n par k=cz (fun _=>0) n:=gC fun c hc=>by rw [if_neg (by omega)]
  rw [this,ua];rfl
 | d+1,k,e=>by
  rw [PY h (by omega),MN h (d:=d) (k:=k+1) (by omega)];omega
theorem J4 {f:Nat->Int}:∀ {n k:Nat},(∀c,c<n->0<=f c)->k<n->f k<=cz f n
 | 0,_,_,h=>absurd h (bS _)
 | n+1,k,h,hk=>by
  rw [fS]
  by_cases e:k=n
  ·subst e;have:=qo (f:=f) (n:=k) fun c hc=>h c (by omega);omega
  ·have:=J4 (f:=f) (n:=n) (k:=k) (fun c hc=>h c (by omega)) (by omega)
   have:=h n (by omega);omega
theorem YZ (h:∀c,c<n->par c<c) {k:Nat} (hk:k<n):ub n par k+1000<=1000*((n - k:Nat):Int):=by
 have h1:=MN h (d:=n - k) (k:=k) (by omega)
 have h2:=J4 (f:=fun c=>if k<=c/\par c<k then ub n par c+1000 else 0) (n:=n) (k:=k) (fun c _=>by
  have:=ye (n:=n) (par:=par) c;show 0<=(if k<=c/\par c<k then ub n par c+1000 else 0)
  split<;>omega) hk
 rw [if_pos ⟨ah _,h k hk⟩] at h2;unfold BL at h1;omega
theorem FC (F:U0 n m par own cost):∀ {d i:Nat},n<=i+d->i<n ->
  (∀s,s<m -> -1<=tab n m par own cost i s/\tab n m par own cost i s<=ub n par i)/\(∃s,s<m/\0<=tab n m par own cost i s) /\
  (own i = -1->∀s,s<m->0<=tab n m par own cost i s)/\(0<=own i->∀s,s<m->tab n m par own cost i s=if own i=s then 0 else -1)
 | 0,i,h,hi=>by omega
 | d+1,i,h,hi=>by
  have U1:∀s,s<m->∀c,c<n->i<c->0<=(bJ (cost s) (tab n m par own cost c) m).1/\(bJ (cost s) (tab n m par own cost c) m).1<=ub n par c+1000:=by
   intro s hs c hc hic
   obtain ⟨h1,⟨j,hj,hj0⟩,_⟩:=FC F (d:=d) (i:=c) (by omega) hc
   rcases wK (c:=cost s) (row:=tab n m par own cost c) (A:=ub n par c) (ye _) (k:=m) (fun j hj=>F.Lg s j hs hj) (fun j hj=>(h1 j hj).2) with ⟨_,h3⟩ | ⟨o,_,ho,Ab,h4,h5,_⟩
   ·have:=h3 j hj;omega
   ·have:=h5 j hj hj0
    have:=(h1 j hj).2
    have:=F.Lg s j hs hj
    have:=F.Lg s o hs ho
    constructor<;>omega
  have Lh:∀s,s<m->0<=cz (fun c=>if i<c/\par c=i then (bJ (cost s) (tab n m par own cost c) m).1 else 0) n/\cz (fun c=>if i<c/\par c=i then (bJ (cost s) (tab n m par own cost c) m).1 else 0) n<=ub n par i:=by
   intro s hs
   constructor
   ·exact qo fun c hc=>by
     split
     ·rename_i h2;exact (U1 s hs c hc h2.1).1
     ·exact nw _
   ·rw [Sq hi]
    exact tZ fun c hc=>by
     split
     ·rename_i h2;exact (U1 s hs c hc h2.1).2
     ·exact nw _
  have heq:∀s,tab n m par own cost i s=(if 0<=own i/\own i≠s then -1 else 0)+cz (fun c=>if i<c/\par c=i then (bJ (cost s) (tab n m par own cost c) m).1 else 0) n:=fun s=>ML hi s
  have hub:=ye (n:=n) (par:=par) i
  have ho:=F.aaa i hi
  refine ⟨fun s hs=>?_,?_,fun h0 s hs=>?_,fun h0 s hs=>?_⟩
  ·rw [heq s];have:=Lh s hs;split<;>omega
  ·by_cases h0:0<=own i
   ·refine ⟨(own i).toNat,by omega,?_⟩
    rw [heq,if_neg (by omega)];have:=Lh (own i).toNat (by omega);omega
   ·refine ⟨0,F.m1,?_⟩
    rw [heq,if_neg (by omega)];have:=Lh 0 F.m1;omega
  ·rw [heq,if_neg (by omega)];have:=Lh s hs;omega
  ·have hz:cz (fun c=>if i<c/\par c=i then (bJ (cost s) (tab n m par own cost c) m).1 else 0) n=0:=by
    refine (gC (g:=fun _=>0) fun c hc=>?_).trans (ua n)
    rw [if_neg];intro h2;have:=F.leaf i c hc h2.1 h2.2;omega
   rw [heq,hz]
   by_cases e:own i=s
   ·rw [if_neg (fun h=>h.2 e),if_pos e];rfl
   ·rw [if_pos ⟨h0,e⟩,if_neg e];rfl
end
end
section
def gK (ns:List ByteArray) (i:Nat):Int:=cF (fun j=>decide ((i:Int)=gi (az ns) j)) (az ns).length
def oz (ns:List ByteArray) (st:List Int) (i:Nat):Int:=if 0<=gK ns i then gi st (gK ns i).toNat else -1
def iz (cs:List (List Int)) (a b:Nat):Int:=gi (gl cs a) b
def mP (t:aF) (st:List Int) (cs:List (List Int)) (i s:Nat):Int:=tab t.ps.length cs.length (gi t.ps) (oz t.ns st) (iz cs) i s
def aW (t:aF) (st:List Int) (cs:List (List Int)) (i:Nat):List Int:=(List.range cs.length).map (mP t st cs i)
theorem gD (t:aF) (st:List Int) (cs:List (List Int)) (i:Nat):(aW t st cs i).length=cs.length:=by simp [aW]
theorem eU (t:aF) (st:List Int) (cs:List (List Int)) (i:Nat) {s:Nat} (hs:s<cs.length):gi (aW t st cs i) s=mP t st cs i s:=by
 simp [gi,aW,hs]
def jD (t:aF) (st:List Int) (cs:List (List Int)) (s c:Nat):Int:=(bJ (gi (gl cs s)) (gi (aW t st cs c)) (aW t st cs c).length).1
theorem TJ (t:aF) (st:List Int) (cs:List (List Int)) (s c:Nat):jD t st cs s c=(bJ (iz cs s) (mP t st cs c) cs.length).1:=by
 unfold jD;rw [gD];have h:bJ (gi (gl cs s)) (gi (aW t st cs c)) cs.length=bJ (iz cs s) (mP t st cs c) cs.length:=qp (fun _ _=>rfl) fun j hj=>eU t st cs c hj;rw [h]
def fq (t:aF) (st:List Int) (i s:Nat):Int:=if 0<=oz t.ns st i/\oz t.ns st i≠s then -1 else 0
theorem J5 (t:aF) (st:List Int) (cs:List (List Int)) {i:Nat} (hi:i<t.ps.length) (s:Nat):mP t st cs i s=fq t st i s+((b7 t.ps i).map (jD t st cs s)).sum:=by
 unfold mP;rw [ML hi];unfold ya b7;rw [DJ];show fq t st i s+_=_;congr 1;exact gC fun c _=>by
  split
  ·exact (TJ t st cs s c).symm
  ·rfl
end
section
theorem Jt {t:aF} {st:List Int} {cs:List (List Int)} (h:iN t st cs=0):aB t=0/\oy cs=0/\nE st (az t.ns).length (-1) cs.length=0:=by
 unfold iN at h;by_cases h1:aB t=0
 ·rw [if_neg (fun e=>e h1)] at h
  by_cases h2:oy cs=0
  ·rw [if_neg (fun e=>e h2)] at h;exact ⟨h1,h2,h⟩
  ·rw [if_pos h2] at h;exact absurd h h2
 ·rw [if_pos h1] at h;cases h
theorem aM {t:aF} (h:aB t=0):0<t.ps.length/\t.ps.length<=64/\t.ns.length=t.ps.length/\jW t.ps=true/\∀i,i<t.ps.length->jC t.ps t.ns i=0:=by
 unfold aB at h;split at h
 ·cases h
 ·split at h
  ·cases h
  ·split at h
   ·cases h
   ·split at h
    ·exact ⟨by omega,by omega,by omega,‹_›,lB h⟩
    ·cases h
theorem uN {cs:List (List Int)} (h:oy cs=0):0<cs.length/\cs.length<=16/\(∀a,a<cs.length->(gl cs a).length=cs.length)/\(∀a k,0<=gi (gl cs a) k/\gi (gl cs a) k<=1000)/\∀a,a<cs.length->gi (gl cs a) a=0:=by
 unfold oy at h;split at h
 ·cases h
 ·split at h
  ·cases h
  ·split at h
   ·cases h
   ·rename_i hl
    split at h
    ·cases h
    ·rename_i hm
     (have hl2:MK cs=false:=by simpa using hl);(have hm2:J2 cs cs.length=false:=by simpa using hm);(have hlen:∀a,a<cs.length->(gl cs a).length=cs.length:=fun a ha=>by have:=any_false hl2 ha;simpa using this);have oA:∀a b,a<cs.length->b<(gl cs a).length->Le a b (gi (gl cs a) b)=false:=fun a b ha hb=>any_false (any_false hm2 ha) hb;refine ⟨by omega,by omega,hlen,fun a k=>?_,fun a ha=>?_⟩
     ·by_cases ha:a<cs.length
      ·by_cases hk:k<(gl cs a).length
       ·have:=oA a k ha hk
        simp [Le] at this;omega
       ·have:gi (gl cs a) k=0:=by simp [gi,List.getElem?_eq_none (by omega:(gl cs a).length<=k)]
        omega
      ·have:gl cs a=[]:=by simp [gl,List.getElem?_eq_none (by omega:cs.length<=a)]
       rw [this];simp [gi]
     ·have:=oA a a ha (by rw [hlen a ha];exact ha)
      simp [Le] at this;exact this.2
theorem uO {ns:List ByteArray} {x:Int}:x∈az ns↔∃i:Nat,x=i/\i<ns.length/\(gs ns i).size≠0:=by
 unfold az;rw [di];constructor
 ·rintro ⟨i,hi,rfl⟩
  rw [ny,cU] at hi;exact ⟨i,rfl,hi.1,by simpa using hi.2⟩
 ·rintro ⟨i,rfl,h1,h2⟩
  exact ⟨i,by rw [ny,cU];exact ⟨h1,by simpa using h2⟩,rfl⟩
theorem uP (ns:List ByteArray):(az ns).length<=ns.length:=by
 unfold az;rw [aD];exact aR (tW _ _) (by simp)
theorem yf {l:List Int} {k:Nat} (h:k<l.length):gi l k∈l:=by simp [gi,h]
theorem yg {ns:List ByteArray} {i:Nat} (h:0<=gK ns i):(gK ns i).toNat<(az ns).length/\gi (az ns) (gK ns i).toNat=i:=by
 unfold gK at h ⊢;generalize hx:cF (fun j=>decide ((i:Int)=gi (az ns) j)) (az ns).length=x at *;obtain ⟨k,rfl⟩:=tR h;have:=sr hx;rw [jd];exact ⟨this.1,by have:=this.2.1;simpa using (of_decide_eq_true this).symm⟩
structure Valid (t:aF) (st:List Int) (cs:List (List Int)):Prop where
 tree:aB t=0
 Sr:oy cs=0
 len:st.length=(az t.ns).length
 good:je st (-1) cs.length=false
theorem FD {t:aF} {st:List Int} {cs:List (List Int)} (h:iN t st cs=0):Valid t st cs:=by
 obtain ⟨h1,h2,h3⟩:=Jt h;unfold nE at h3;split at h3
 ·cases h3
 ·split at h3
  ·cases h3
  ·exact ⟨h1,h2,by omega,by simpa using ‹¬je st (-1) cs.length=true›⟩
theorem Valid.par {t:aF} {st:List Int} {cs:List (List Int)} (h:Valid t st cs):iN t st cs=0:=by
 unfold iN nE;rw [if_neg (fun e=>e h.tree),if_neg (fun e=>e h.Sr),if_neg (fun e=>e h.len),h.good];rfl
theorem BM {ps:List Int} (h:jW ps=true) {c:Nat} (hc:c<ps.length):gi ps c<c/\(0<c->0<=gi ps c)/\(c=0->gi ps c = -1):=by
 have:=CP h hc;unfold kC at this;split at this
 ·simp at this;omega
 ·simp at this;omega
theorem Ju {t:aF} (h:aB t=0) {i c:Nat} (hc:c<t.ps.length) (hi:i<c) (hp:gi t.ps c=i):(gs t.ns i).size=0:=by
 obtain ⟨_,_,_,hok,hn⟩:=aM h;have hin:isIn t.ps i=true:=eF.2 ⟨c,cU.2 hc,by simp [hp];omega⟩;have:=hn i (by omega);unfold jC at this;rw [if_pos hin] at this;by_cases e:(gs t.ns i).size=0
 ·exact e
 ·rw [if_neg e] at this;cases this
theorem wL {t:aF} (h:aB t=0) {i:Nat} (hi:i<t.ps.length) (hin:isIn t.ps i=false):bu (gs t.ns i).data.toList=true/\dW t.ns i=false:=by
 obtain ⟨_,_,_,hok,hn⟩:=aM h;have:=hn i hi;unfold jC at this;rw [hin] at this;cases h1:bu (gs t.ns i).data.toList
 ·rw [h1] at this;cases this
 ·cases h2:dW t.ns i
  ·exact ⟨rfl,rfl⟩
  ·rw [h1,h2] at this;cases this
theorem Valid.fine {t:aF} {st:List Int} {cs:List (List Int)} (h:Valid t st cs):U0 t.ps.length cs.length (gi t.ps) (oz t.ns st) (iz cs):=by
 obtain ⟨h1,h2,h3,hok,hn⟩:=aM h.tree;obtain ⟨m1,m2,m3,m4,m5⟩:=uN h.Sr;refine ⟨m1,fun c h0 hc=>(BM hok hc).2.1 h0,fun c hc=>(BM hok hc).1,fun i _=>?_,fun a b _ _=>m4 a b,fun i c hc hic hp=>?_⟩
 ·unfold oz
  split
  ·rename_i h0
   have hl:=yg h0;have hb:=any_false h.good (k:=(gK t.ns i).toNat) (by rw [h.len];exact hl.1);simp at hb;omega
  ·omega
 ·unfold oz
  rw [if_neg];intro h0;have hl:=yg h0;have hm:(i:Int)∈az t.ns:=by rw [<- hl.2];exact yf hl.1
  obtain ⟨j,e,_,hne⟩:=uO.1 hm;obtain rfl:i=j:=by omega
  exact hne (Ju h.tree hc hic hp)
theorem Valid.tb {t:aF} {st:List Int} {cs:List (List Int)} (h:Valid t st cs) (j s:Nat) (hj:j<t.ps.length):-1<=gi (aW t st cs j) s/\gi (aW t st cs j) s<=100000:=by
 by_cases hs:s<cs.length
 ·rw [eU t st cs j hs]
  have h1:=(FC h.fine (d:=t.ps.length) (i:=j) (by omega) hj).1 s hs;have h2:=YZ (par:=gi t.ps) h.fine.YY hj;obtain ⟨_,h3,_⟩:=aM h.tree;unfold mP;constructor<;>omega
 ·have:gi (aW t st cs j) s=0:=by simp [gi,aW,hs]
  omega
def cQ (t:aF) (st:List Int) (cs:List (List Int)):Int:=if iN t st cs=0 then (bJ (fun _=>0) (gi (aW t st cs 0)) cs.length).1 else 0
end
section
section
variable {t:aF} {st:List Int} {cs:List (List Int)}
theorem zH (hv:Valid t st cs) {c:Nat->Int} (hc:∀j,j<cs.length->0<=c j/\c j<=1000) {k:Nat} (hk:k<t.ps.length) :
  ∃o:Nat,(bJ c (gi (aW t st cs k)) cs.length).2=o/\o<cs.length/\0<=gi (aW t st cs k) o/\(bJ c (gi (aW t st cs k)) cs.length).1=c o+gi (aW t st cs k) o /\
   (∀j,j<cs.length->0<=gi (aW t st cs k) j->(bJ c (gi (aW t st cs k)) cs.length).1<=c j+gi (aW t st cs k) j) /\
   (∀j,j<o->0<=gi (aW t st cs k) j->(bJ c (gi (aW t st cs k)) cs.length).1<c j+gi (aW t st cs k) j):=by
 obtain ⟨_,⟨s,hs,hs0⟩,_⟩:=FC hv.fine (d:=t.ps.length) (i:=k) (by omega) hk;have hs1:0<=gi (aW t st cs k) s:=by rw [eU _ _ _ _ hs];exact hs0
 rcases wK (c:=c) (row:=gi (aW t st cs k)) (A:=100000) (by omega) (k:=cs.length) hc (fun j _=>(hv.tb k j hk).2) with ⟨_,h⟩ | h
 ·have:=h s hs;omega
 ·exact h
end
end
section
end
section
end
section
theorem MO (ns:List ByteArray) {i j:Nat} (hj:j<(az ns).length) (hij:i<j):gi (az ns) i<gi (az ns) j:=by
 have hp:(az ns).Pairwise (· < ·):=by unfold az;rw [List.pairwise_map];refine (List.Pairwise.filter _ List.pairwise_lt_range).imp ?_;intro a b h;omega
 have h:=rK.1 hp i j (by omega) hj hij;have hi:i<(az ns).length:=by omega
 simpa [gi,hi,hj] using h
theorem MP {ns:List ByteArray} {i k:Nat} (hi:i<(az ns).length) (hk:gi (az ns) i=k):gK ns k=i:=by
 unfold gK;refine mq hi (fun j hj=>?_) (by simp [hk]);have:=MO ns hi hj;simp;omega
theorem TK {ns:List ByteArray} {st:List Int} {i k:Nat} (hi:i<(az ns).length) (hk:gi (az ns) i=k):oz ns st k=gi st i:=by
 unfold oz;rw [MP hi hk,if_pos (by omega),jd]
theorem wM {ns:List ByteArray} {i:Nat} (hi:i<(az ns).length):∃k:Nat,gi (az ns) i=k/\k<ns.length/\(gs ns k).size≠0:=by
 obtain ⟨k,e,h1,h2⟩:=uO.1 (yf hi);exact ⟨k,e,h1,h2⟩
section
variable {t:aF} {st:List Int} {cs:List (List Int)}
theorem MQ (h:Valid t st cs):cQ t st cs=(bJ (fun _=>0) (gi (aW t st cs 0)) cs.length).1:=by unfold cQ;rw [if_pos h.par]
theorem FE (h:Valid t st cs):∃o:Nat,(bJ (fun _=>0) (gi (aW t st cs 0)) cs.length).2=o/\o<cs.length/\0<=mP t st cs 0 o/\cQ t st cs=mP t st cs 0 o /\
  ∀j,j<cs.length->0<=mP t st cs 0 j->cQ t st cs<=mP t st cs 0 j:=by
 have oB:=(aM h.tree).1;obtain ⟨o,h1,h2,h3,h4,h5,_⟩:=zH h (c:=fun _=>0) (fun _ _=>by omega) oB;rw [MQ h];rw [eU _ _ _ _ h2] at h3 h4;refine ⟨o,h1,h2,h3,by rw [h4];omega,fun j hj hj0=>?_⟩;have:=h5 j hj (by rw [eU _ _ _ _ hj];exact hj0);rw [eU _ _ _ _ hj] at this;omega
theorem su (h:Valid t st cs):0<=cQ t st cs:=by obtain ⟨o,_,_,h3,h4,_⟩:=FE h;omega
theorem DL (h:Valid t st cs):cQ t st cs<=100000:=by
 obtain ⟨o,_,h2,_,h4,_⟩:=FE h;have:=(h.tb 0 o (aM h.tree).1).2;rw [eU _ _ _ _ h2] at this;omega
end
end
section
end
section
end
end Go.Proofs.YthgabkgmkolobaaGreat
