/- What the functions of layers 1 and 31 compute, as plain functions on lists. Plain: the .. -/
import Derived.TacticsIn
import Derived.RangeFuncRecord
import Derived.MapKept
import Derived.Lib.Builder
import Derived.Laws.World
import Derived.Laws.AppendOwn
import Derived.Deep.Draws
import Derived.Below
import Derived.AtR
import Derived.WalkKit
import Derived.WalkSpells
import Derived.WalkLawsBesides
import Derived.Deep.OwnRows
import Derived.Deep.QuietTactic
import Derived.BigQuiet
import Derived.Lib.Hide
import Derived.Shelf.Small.Strs
import Derived.Test.YthgabkgmkolobaaGreatProg
set_option maxRecDepth 100000
set_option maxHeartbeats 400000
namespace Go.Proofs.YthgabkgmkolobaaGreat
abbrev S8:=@Array.getElem?_eq_none
abbrev fR:=@Array.getElem?_eq_some_iff
abbrev zq2Q:=@Array.getElem?_modify
abbrev oW:=@Array.getElem?_toList
abbrev Bh:=@Array.length_toList
abbrev ji:=@Array.replicate_succ
abbrev jk:=@Array.replicate_zero
abbrev bI:=@Go.RowKit.Below.block
abbrev zA:=@Go.RowKit.Below.grown
abbrev Hr:=@Go.RowKit.Below.heap_alloc
abbrev yB:=@Go.RowKit.Below.heap_setCell
abbrev dM:=@Go.RowKit.Below.refl
abbrev yC:=@Go.RowKit.Below.setCell
abbrev iH:=@Go.RowKit.Below.trans
abbrev gD:=@Bool.and_eq_true
abbrev uZ:=@Bool.eq_false_iff
abbrev lR:=@Bool.eq_iff_iff
abbrev Ag:=@Bool.not_eq_true'
abbrev CF:=@Bool.or_eq_false_iff
abbrev Ah:=@Bool.or_eq_true
abbrev Fm:=@ByteArray.data_extract
abbrev tK:=@Classical.byContradiction
abbrev Fo:=@Classical.not_not
abbrev pE:=@Int.eq_ofNat_of_zero_le
abbrev lT:=@Int.le_refl
abbrev CG:=@Int.natCast_nonneg
abbrev Ai:=@Int.ofNat_lt
abbrev cZ:=@Int.toNat_natCast
abbrev CH:=@Go.Lib.cell_of_heap
abbrev CI:=@List.Nodup.length_le_of_subset
abbrev Fp:=@List.Nodup.mem_erase_iff
abbrev Fq:=@List.Pairwise.filter
abbrev k9:=@List.Perm.refl
abbrev wL:=@List.all_eq_true
abbrev eO:=@List.any_eq_true
abbrev dN:=@List.append_assoc
abbrev gN:=@List.append_nil
abbrev ve:=@List.append_toArray
abbrev cr:=@List.cons_append
abbrev iP:=@List.contains_iff_mem
abbrev Aj:=@List.drop_eq_getElem_cons
abbrev JP:=@List.eq_nil_iff_forall_not_mem
abbrev oJ:=@List.eq_nil_of_length_eq_zero
abbrev Fs:=@List.exists_mem_of_ne_nil
abbrev wM:=@List.ext_getElem
abbrev wN:=@List.ext_getElem?
abbrev vg:=@List.filter_append
abbrev JQ:=@List.filter_cons_of_neg
abbrev MZ:=@List.filter_cons_of_pos
abbrev sF:=@List.flatMap_append
abbrev gU:=@List.flatMap_cons
abbrev Fu:=@List.flatMap_map
abbrev kD:=@List.getD_eq_getElem?_getD
abbrev zq53Q:=@List.getElem?_append
abbrev M3:=@List.getElem?_append_left
abbrev SV:=@List.getElem?_append_right
abbrev iQ:=@List.getElem?_eq_getElem
abbrev vh:=@List.getElem?_eq_none
abbrev pF:=@List.getElem?_eq_some_iff
abbrev jA:=@List.getElem?_map
abbrev JR:=@List.getElem?_set
abbrev lg:=@List.getElem_mem
abbrev vk:=@List.getElem_of_mem
abbrev CJ:=@List.getLast?_cons_cons
abbrev aZ:=@List.length_append
abbrev aT:=@List.length_cons
abbrev wO:=@List.length_drop
abbrev CK:=@List.length_eq_one_iff
abbrev CL:=@List.length_eq_zero_iff
abbrev pG:=@List.length_filter_le
abbrev aG:=@List.length_map
abbrev dO:=@List.length_nil
abbrev Ak:=@List.length_pos_iff
abbrev Fv:=@List.length_pos_of_mem
abbrev wP:=@List.length_range
abbrev M4:=@List.length_replicate
abbrev CM:=@List.length_singleton
abbrev yD:=@List.length_tail
abbrev gV:=@List.length_take
abbrev eC:=@List.lookup_cons
abbrev cg:=@List.map_append
abbrev lU:=@List.map_congr_left
abbrev cK:=@List.map_cons
abbrev CN:=@List.map_flatMap
abbrev jO:=@List.map_map
abbrev wQ:=@List.map_nil
abbrev dV:=@List.mem_append
abbrev JS:=@List.mem_append_left
abbrev JT:=@List.mem_append_right
abbrev aW:=@List.mem_cons
abbrev pH:=@List.mem_cons_of_mem
abbrev tL:=@List.mem_cons_self
abbrev fL:=@List.mem_filter
abbrev jP:=@List.mem_flatMap
abbrev CO:=@List.mem_iff_getElem
abbrev cm:=@List.mem_map
abbrev M5:=@List.mem_of_getElem?
abbrev JU:=@List.mem_of_mem_tail
abbrev CP:=@List.mem_of_mem_take
abbrev bh:=@List.mem_range
abbrev dP:=@List.mem_singleton
abbrev Ee:=@List.mergeSort_perm
abbrev cH:=@List.nil_append
abbrev nR:=@List.nodup_append
abbrev iR:=@List.nodup_cons
abbrev Ef:=@List.nodup_iff_pairwise_ne
abbrev yV:=@List.nodup_nil
abbrev qD:=@List.not_mem_nil
abbrev iI:=@List.pairwise_cons
abbrev Hs:=@List.pairwise_flatMap
abbrev nS:=@List.pairwise_iff_getElem
abbrev uD:=@List.pairwise_map
abbrev Bi:=@List.perm_append_comm
abbrev eV:=@List.push_toArray
abbrev rX:=@List.range_succ
abbrev eW:=@List.size_toArray
abbrev wR:=@List.take_append_drop
abbrev gh:=@List.take_length
abbrev Bj:=@List.take_of_length_le
abbrev Bk:=@List.take_succ_cons
abbrev jY:=@List.take_succ_eq_append_getElem
abbrev yX:=@Go.MapKept.run_getObj_map
abbrev Eg:=@Go.MapKept.run_setObj_map
abbrev jZ:=@Nat.add_zero
abbrev yY:=@Nat.eq_zero_or_pos
abbrev fB:=@Nat.le_of_eq
abbrev af:=@Nat.le_refl
abbrev lz:=@Nat.le_succ
abbrev aJ:=@Nat.le_trans
abbrev mU:=@Nat.lt_irrefl
abbrev js:=@Nat.lt_of_lt_of_le
abbrev pI:=@Nat.lt_succ_self
abbrev rY:=@Nat.lt_trichotomy
abbrev sW:=@Nat.mul_le_mul_left
abbrev yZ:=@Nat.mul_le_mul_right
abbrev bG:=@Nat.not_lt_zero
abbrev mg:=@Nat.zero_add
abbrev aL:=@Nat.zero_le
abbrev gj:=@Ne.symm
abbrev iJ:=@Go.Oper.semAt_eq
abbrev y5:=@Go.Oper.semAt_some
abbrev mh:=@Option.map_eq_some_iff
abbrev Eh:=@Option.some.injEq
abbrev mj:=@Prod.mk.injEq
abbrev Bl:=@UInt8.lt_iff_toNat_lt
abbrev mV:=@Go.World.alloc_heap_new
abbrev eG:=@Go.World.block_lt_of_cell?
abbrev zq147Q:=@Go.World.cell?_alloc_new
abbrev eX:=@Go.World.cell?_of_block
abbrev wS:=@Go.World.drewN_drewN
abbrev j8:=@Go.World.ownsRow.lt
abbrev nT:=@Go.World.putObj_heap_other
abbrev Bo:=@Go.World.rowIs_made
abbrev aQ:=@Go.World.size_alloc
abbrev mW:=@Go.World.size_setCell
open Go.RowKit in
theorem aa {p : Prop} (h : p) : Hid p := h
theorem aA {α : Type} {i : Nat} {a : α} {l : List α} : l.toArray.setIfInBounds i a = (l.set i a).toArray := List.setIfInBounds_toArray ..
theorem aB {α : Type} {a b : α} {l : List α} : (a :: l).set 0 b = b :: l := List.set_cons_zero ..
theorem aC {α : Type} {n : Nat} {a b : α} {l : List α} : (a :: l).set (n + 1) b = a :: l.set n b := List.set_cons_succ ..
section
def gi (l:List Int) (k:Nat):Int:=l.getD k 0
def gs (l:List ByteArray) (k:Nat):ByteArray:=l.getD k ByteArray.empty
def gb (l:List Bool) (k:Nat):Bool:=l.getD k false
def gl (l:List (List Int)) (k:Nat):List Int:=l.getD k []
structure az where
 ps:List Int
 ns:List ByteArray

theorem loop_eq (bs:ByteArray):∀(n i:Nat) (r:List UInt8),bs.size - i=n->ByteArray.toList.loop bs i r=r.reverse++bs.data.toList.drop i:=by
 intro n
 induction n with
 | zero =>
  intro i r h;unfold ByteArray.toList.loop;rw [if_neg (by omega),List.drop_of_length_le (by simp;omega)];simp
 | succ n ih =>
  intro i r h;unfold ByteArray.toList.loop;have hi:i<bs.size:=by omega
  rw [if_pos hi,ih (i+1) _ (by omega),List.reverse_cons,dN];congr 1;rw [Aj (i:=i) (by simpa using hi),List.singleton_append];congr 1;simp [ByteArray.get!,getElem!_pos,hi]
theorem toList_data (s:ByteArray):s.toList=s.data.toList:=by
 unfold ByteArray.toList;rw [loop_eq s _ 0 [] rfl];simp
theorem toList_nil (s:ByteArray):s.toList=[]↔s.size=0:=by
 rw [toList_data,<- CL];simp
theorem size_data (s:ByteArray):s.data.toList.length=s.size:=by simp
theorem j9 {a b:ByteArray} (h:a.data.toList=b.data.toList):a=b:=by
 cases a;cases b;simpa using h
def isLet (c:Nat):Bool:=(97<=c&&c<=122) || (65<=c&&c<=90)
def Fw (c:Nat):Bool:=c==46 || c==44 || c==59 || c==58 || c==33 || c==63 || c==40 || c==41 || c==45
def gW (c:Nat):Int:=if isLet c then 1 else if c=94\/c=126\/c=37 then 2 else if 48<=c/\c<=57 then 3 else if c=39 then 4 else if c=32 then 6 else if Fw c then 5 else 0
def zO (c:UInt8):Bool:=isLet c.toNat || (48<=c.toNat&&c.toNat<=57)
def rD (l:List UInt8):Nat:=l.countP zO
def jl (l:List UInt8):Bool:=1<=l.length&&l.length<=16&&l.all zO
def b7 (l:List UInt8):Bool:=if l.getLast? = some 42 then jl l.dropLast&&l.length<=16 else jl l

def qq (i:Nat) (p:Int):Bool:=if i=0 then p == -1 else decide (0<=p)&&decide (p<i)
def k8 (ps:List Int):Bool:=(List.range ps.length).all fun i=>qq i (gi ps i)
def Ht (ps:List Int) (n i:Nat):Bool:=(List.range n).any fun j=>decide (0<j)&&gi ps j==(i:Int)
def isIn (ps:List Int) (i:Nat):Bool:=Ht ps ps.length i
def fk (ns:List ByteArray) (i:Nat):Bool:=(List.range i).any fun j=>decide (gs ns j=gs ns i)
def oZ (ps:List Int) (ns:List ByteArray) (i:Nat):Int :=
 if isIn ps i then (if (gs ns i).size=0 then 0 else 14) else if b7 (gs ns i).data.toList then (if fk ns i then 7 else 0) else 14
def bU (f:Nat->Int):Nat->Int
 | 0=>0
 | n+1=>if bU f n=0 then f n else bU f n
def aH (t:az):Int :=
 if t.ps.length=0 then 5 else if 64<t.ps.length then 4 else if t.ns.length≠t.ps.length then 9
 else if k8 t.ps then bU (oZ t.ps t.ns) t.ps.length else 2
def aD (ns:List ByteArray):List Int:=((List.range ns.length).filter fun i=>(gs ns i).size≠0).map fun (i:Nat)=>(i:Int)

theorem cR {f:Nat->Int}:∀ {n:Nat},(∀j,j<n->f j=0)->bU f n=0
 | 0,_=>rfl
 | n+1,h=>by
  unfold bU
  rw [if_pos (cR fun j hj=>h j (by omega))];exact h n (by omega)
theorem gm {f:Nat->Int} {k:Nat}:∀ {n:Nat},k<n->(∀j,j<k->f j=0)->f k≠0->bU f n=f k
 | 0,h,_,_=>absurd h (bG _)
 | n+1,hk,h,hne=>by
  unfold bU
  by_cases e:k=n
  ·subst e;rw [if_pos (cR h)]
  ·rw [gm (by omega) h hne,if_neg hne]
theorem jB {f:Nat->Int}:∀ {n:Nat},bU f n=0->∀j,j<n->f j=0
 | 0,_,j,hj=>absurd hj (bG _)
 | n+1,h,j,hj=>by
  unfold bU at h
  split at h
  ·rename_i h0
   by_cases e:j=n
   ·subst e;exact h
   ·exact jB h0 j (by omega)
  ·rename_i h0;exact absurd h h0
theorem S9 (ps:List Int) (n i:Nat):Ht ps (n+1) i=(Ht ps n i || (decide (0<n)&&gi ps n==(i:Int))):=by
 simp [Ht,List.range_succ,List.any_append]
theorem Ta {ps:List Int} {k:Nat} (hk:k<ps.length) (h:qq k (gi ps k)=false):k8 ps=false:=by
 rw [uZ];intro e;have:=wL.1 e k (bh.2 hk);simp [h] at this
theorem Lx {ps:List Int} (h:∀j,j<ps.length->qq j (gi ps j)=true):k8 ps=true :=
 wL.2 fun j hj=>h j (bh.1 hj)
theorem JV {ps:List Int} (h:k8 ps=true) {j:Nat} (hj:j<ps.length):qq j (gi ps j)=true :=
 wL.1 h j (bh.2 hj)
def dI (p:Nat->Bool):Nat->Int
 | 0=>-1
 | n+1=>if dI p n = -1 then (if p n then (n:Int) else -1) else dI p n
theorem sX (p:Nat->Bool) (n:Nat):dI p (n+1)=if dI p n = -1 then (if p n then (n:Int) else -1) else dI p n:=rfl
theorem fI {p:Nat->Bool}:∀ {n:Nat},(∀j,j<n->p j=false)->dI p n = -1
 | 0,_=>rfl
 | n+1,h=>by
  rw [sX,if_pos (fI fun j hj=>h j (by omega)),h n (by omega)];rfl
theorem iK {p:Nat->Bool} {k:Nat}:∀ {n:Nat},k<n->(∀j,j<k->p j=false)->p k=true->dI p n=k
 | 0,h,_,_=>absurd h (bG _)
 | n+1,hk,h,hp=>by
  rw [sX]
  by_cases e:k=n
  ·subst e;rw [if_pos (fI h),hp];rfl
  ·rw [iK (by omega) h hp,if_neg (by omega)]
theorem M7 (p:Nat->Bool) (n:Nat):-1<=dI p n/\dI p n<n/\(dI p n = -1\/0<=dI p n):=by
 induction n with
 | zero=>simp [dI]
 | succ n ih=>rw [sX];split<;>(try split)<;>omega
theorem gX (p:Nat->Bool) (n:Nat):decide (0<=dI p n)=(List.range n).any p:=by
 induction n with
 | zero=>simp [dI]
 | succ n ih =>
  have hl:=M7 p n
  rw [rX,List.any_append,<- ih,sX]
  by_cases h:dI p n = -1
  ·rw [if_pos h,h];cases hp:p n<;>simp [hp]
  ·rw [if_neg h];have:0<=dI p n:=by omega
   simp [this]
theorem Bp {p:Nat->Bool} {n k:Nat} (h:dI p n=k):k<n/\p k=true/\∀j,j<k->p j=false:=by
 induction n with
 | zero=>simp [dI] at h
 | succ n ih =>
  rw [sX] at h
  by_cases h1:dI p n = -1
  ·rw [if_pos h1] at h
   by_cases hp:p n=true
   ·rw [if_pos hp] at h
    obtain rfl:n=k:=by omega
    refine ⟨by omega,hp,fun j hj=>?_⟩
    cases hq:p j with
    | false=>rfl
    | true =>
     exfalso
     have:=gX p n
     rw [h1] at this
     have h2:(List.range n).any p=true:=eO.2 ⟨j,bh.2 hj,hq⟩
     rw [h2] at this;simp at this
   ·rw [if_neg hp] at h;omega
  ·rw [if_neg h1] at h
   have:=ih h
   exact ⟨by omega,this.2⟩
end
section
def xR (ns:List ByteArray) (k:Nat):List Int:=((List.range k).filter fun i=>(gs ns i).size≠0).map fun (i:Nat)=>(i:Int)
theorem Tb (ns:List ByteArray) (k:Nat):xR ns (k+1)=xR ns k++(if (gs ns k).size=0 then [] else [(k:Int)]):=by
 unfold xR;rw [rX,vg,cg];congr 1;by_cases h:(gs ns k).size=0
 ·have h2:decide ((gs ns k).size≠0)=false:=by rw [decide_eq_false_iff_not];exact fun e=>e h
  rw [if_pos h];simp only [List.filter_cons,h2,List.filter_nil];rfl
 ·have h2:decide ((gs ns k).size≠0)=true:=by rw [decide_eq_true_eq];exact h
  rw [if_neg h];simp only [List.filter_cons,h2,List.filter_nil];rfl
theorem XD (ns:List ByteArray) (k:Nat):(xR ns k).length<=k:=by
 unfold xR;rw [aG];exact aJ (pG _ _) (by simp)
end
section
def dc (ps:List Int) (n k:Nat):List Nat:=(List.range k).filter fun i=>decide (n<i)&&gi ps i==(n:Int)
def bq (ps:List Int) (n:Nat):List Nat:=dc ps n ps.length
def jE (l:List Nat):List Int:=l.map fun (i:Nat)=>(i:Int)
theorem ng (ps:List Int) (n k:Nat):dc ps n (k+1)=dc ps n k++(if n<k/\gi ps k=n then [k] else []):=by
 unfold dc;rw [rX,vg];congr 1;by_cases h:n<k/\gi ps k=n
 ·rw [if_pos h];simp [h.1,h.2]
 ·rw [if_neg h]
  have:(decide (n<k)&&gi ps k==(n:Int))=false:=by rw [uZ];intro e;apply h;simpa using e
  simp [this]
theorem Ku (ps:List Int) (n:Nat):dc ps n (n+1)=[]:=by
 unfold dc;rw [List.filter_eq_nil_iff];intro a ha;have:=bh.1 ha;simp;omega
theorem vS (ps:List Int) (n k:Nat):(dc ps n k).length<=k:=by
 unfold dc;exact aJ (pG _ _) (by simp)
theorem cD {ps:List Int} {n i:Nat}:i∈bq ps n↔i<ps.length/\n<i/\gi ps i=n:=by
 unfold bq dc;rw [fL,bh];simp
theorem SH (a b:List Nat):jE (a++b)=jE a++jE b:=cg
theorem sY {ps:List Int} (h:k8 ps=true) (n:Nat):bq ps n≠[]↔isIn ps n=true:=by
 constructor
 ·intro hne
  obtain ⟨i,hi⟩:=Fs _ hne;obtain ⟨h1,h2,h3⟩:=cD.1 hi;exact eO.2 ⟨i,bh.2 h1,by simp [h3];omega⟩
 ·intro hin
  obtain ⟨i,hi,h2⟩:=eO.1 hin;have hi:=bh.1 hi;simp at h2;have:=JV h hi;unfold qq at this;rw [if_neg (by omega)] at this;simp at this;exact List.ne_nil_of_mem (cD.2 ⟨hi,by omega,h2.2⟩)
end
section
def mH (st:List Int) (least most:Int):Bool:=(List.range st.length).any fun k=>decide (gi st k<least) || decide (most<=gi st k)
def vv (st:List Int) (n:Nat) (least most:Int):Int:=if st.length≠n then 9 else if mH st least most then 2 else 0
def badc (a b:Nat) (c:Int):Bool:=decide (c<0) || decide (1000<c) || (decide (a=b)&&decide (c≠0))
def rowBad (a:Nat) (row:List Int) (k:Nat):Bool:=(List.range k).any fun b=>badc a b (gi row b)
def Yo (cs:List (List Int)) (k:Nat):Bool:=(List.range k).any fun a=>rowBad a (gl cs a) (gl cs a).length
def lenBad (cs:List (List Int)):Bool:=(List.range cs.length).any fun a=>decide ((gl cs a).length≠cs.length)
def uE (cs:List (List Int)):Int:=if cs.length=0 then 5 else if 16<cs.length then 4 else if lenBad cs then 9 else if Yo cs cs.length then 2 else 0
theorem any_none {p:Nat->Bool} {n:Nat} (h:∀j,j<n->p j=false):(List.range n).any p=false:=by
 rw [uZ];intro e;obtain ⟨j,hj,hp⟩:=eO.1 e;rw [h j (bh.1 hj)] at hp;cases hp
theorem Ei {p:Nat->Bool} {n k:Nat} (hk:k<n) (hp:p k=true):(List.range n).any p=true:=eO.2 ⟨k,bh.2 hk,hp⟩
theorem any_false {p:Nat->Bool} {n:Nat} (h:(List.range n).any p=false) {k:Nat} (hk:k<n):p k=false:=by
 cases e:p k with
 | false=>rfl
 | true=>rw [Ei hk e] at h;cases h
def nU (t:az) (st:List Int) (cs:List (List Int)):Int :=
 if aH t≠0 then 1 else if uE cs≠0 then uE cs else vv st (aD t.ns).length (-1) cs.length
end
section
def cN (c row:Nat->Int):Nat->Int×Int
 | 0=>(-1,0)
 | k+1=>if row k<0 then cN c row k else if (cN c row k).1<0\/c k+row k<(cN c row k).1 then (c k+row k,(k:Int)) else cN c row k
theorem tM (c row:Nat->Int) (k:Nat):cN c row (k+1)=if row k<0 then cN c row k else if (cN c row k).1<0\/c k+row k<(cN c row k).1 then (c k+row k,(k:Int)) else cN c row k:=rfl
theorem Tc {c row:Nat->Int} {A:Int} (hA:0<=A) (hc:∀k,0<=c k/\c k<=1000) (hr:∀k,row k<=A) (k:Nat):-1<=(cN c row k).1/\(cN c row k).1<=A+1000:=by
 induction k with
 | zero=>simp [cN];omega
 | succ k ih =>
  rw [tM]
  have:=hc k;have:=hr k
  split
  ·exact ih
  ·split
   ·simp;omega
   ·exact ih
end
section
def bJ (f:Nat->Int):Nat->Int
 | 0=>0
 | n+1=>bJ f n+f n
theorem fD (f:Nat->Int) (n:Nat):bJ f (n+1)=bJ f n+f n:=rfl
theorem eD {f g:Nat->Int}:∀ {n:Nat},(∀c,c<n->f c=g c)->bJ f n=bJ g n
 | 0,_=>rfl
 | n+1,h=>by rw [fD,fD,eD fun c hc=>h c (by omega),h n (by omega)]
theorem sZ (f g:Nat->Int):∀n:Nat,bJ (fun c=>f c+g c) n=bJ f n+bJ g n
 | 0=>rfl
 | n+1=>by rw [fD,fD,fD,sZ f g n];omega
theorem ki {f g:Nat->Int}:∀ {n:Nat},(∀c,c<n->f c<=g c)->bJ f n<=bJ g n
 | 0,_=>lT _
 | n+1,h=>by
  rw [fD,fD]
  have:=ki (f:=f) (g:=g) (n:=n) fun c hc=>h c (by omega)
  have:=h n (by omega);omega
theorem s8:∀n:Nat,bJ (fun _=>0) n=0
 | 0=>rfl
 | n+1=>by rw [fD,s8 n];rfl
theorem uG {f:Nat->Int} {n:Nat} (h:∀c,c<n->0<=f c):0<=bJ f n:=by
 have:=ki (f:=fun _=>0) (g:=f) (n:=n) h;rw [s8] at this;exact this
theorem vw (k:Nat) (x:Int):∀n:Nat,bJ (fun c=>if c=k then x else 0) n=if k<n then x else 0
 | 0=>rfl
 | n+1=>by
  rw [fD,vw k x n]
  by_cases h:n=k
  ·subst h;simp
  ·by_cases h2:k<n
   ·simp [h,h2];omega
   ·simp [h,h2];omega
theorem Hu (ps:List Int) (i:Nat) (g:Nat->Int):∀n:Nat,((dc ps i n).map g).sum=bJ (fun c=>if i<c/\gi ps c=i then g c else 0) n
 | 0=>rfl
 | n+1=>by
  rw [ng,cg,List.sum_append,Hu ps i g n,fD]
  split<;>simp
def DI (n m:Nat) (par own:Nat->Int) (cost:Nat->Nat->Int) (look:Nat->Nat->Int) (i s:Nat):Int :=
 (if 0<=own i/\own i≠s then -1 else 0)+bJ (fun c=>if i<c/\par c=i then (cN (cost s) (look c) m).1 else 0) n
def tabF (n m:Nat) (par own:Nat->Int) (cost:Nat->Nat->Int):Nat->Nat->Nat->Int
 | 0=>fun _ _=>0
 | d+1=>DI n m par own cost (tabF n m par own cost d)
def tab (n m:Nat) (par own:Nat->Int) (cost:Nat->Nat->Int) (i s:Nat):Int:=tabF n m par own cost n i s
theorem uH {c c' r r':Nat->Int}:∀ {k:Nat},(∀j,j<k->c j=c' j)->(∀j,j<k->r j=r' j)->cN c r k=cN c' r' k
 | 0,_,_=>rfl
 | k+1,h1,h2=>by
  rw [tM,tM,uH (fun j hj=>h1 j (by omega)) (fun j hj=>h2 j (by omega)),h1 k (by omega),h2 k (by omega)]
section
variable {n m:Nat} {par own:Nat->Int} {cost:Nat->Nat->Int}
theorem Qd:∀ {d e i:Nat},n<=i+d->n<=i+e->i<n->∀s,tabF n m par own cost d i s=tabF n m par own cost e i s
 | 0,_,_,h,_,hi,_=>by omega
 | _,0,_,_,h,hi,_=>by omega
 | d+1,e+1,i,h1,h2,hi,s=>by
  show DI _ _ _ _ _ _ _ _=DI _ _ _ _ _ _ _ _
  unfold DI
  congr 1
  refine eD fun c hc=>?_
  split
  ·rename_i hk
   rw [uH (fun _ _=>rfl) fun j _=>Qd (d:=d) (e:=e) (by omega) (by omega) hc j]
  ·rfl
theorem M8 {i:Nat} (hi:i<n) (s:Nat):tab n m par own cost i s=DI n m par own cost (tab n m par own cost) i s:=by
 unfold tab;obtain ⟨d,rfl⟩:∃d,n=d+1:=⟨n - 1,by omega⟩;show DI _ _ _ _ _ _ _ _=_;unfold DI;congr 1;refine eD fun c hc=>?_;split
 ·rename_i hk
  rw [uH (fun _ _=>rfl) fun j _=>Qd (d:=d) (e:=d+1) (by omega) (by omega) hc j]
 ·rfl
structure Fine (n m:Nat) (par own:Nat->Int) (cost:Nat->Nat->Int):Prop where
 m1:0<m
 par0:∀c,0<c->c<n->0<=par c
 SX:∀c,c<n->par c<c
 own1:∀i,i<n -> -1<=own i/\own i<m
 SY:∀a b,a<m->b<m->0<=cost a b/\cost a b<=1000
 leaf:∀i c,c<n->i<c->par c=i->own i = -1
theorem Al {c row:Nat->Int} {A:Int} (hA:0<=A):∀ {k:Nat},(∀j,j<k->0<=c j/\c j<=1000)->(∀j,j<k->row j<=A) ->
  ((cN c row k).1 = -1/\(∀j,j<k->row j<0)) \/
  (∃o:Nat,(cN c row k).2=o/\o<k/\0<=row o/\(cN c row k).1=c o+row o/\(∀j,j<k->0<=row j->(cN c row k).1<=c j+row j)/\(∀j,j<o->0<=row j->(cN c row k).1<c j+row j))
 | 0,_,_=>.inl ⟨rfl,fun j hj=>absurd hj (bG _)⟩
 | k+1,hc,hr=>by
  have ih:=Al (c:=c) (row:=row) hA (k:=k) (fun j hj=>hc j (by omega)) fun j hj=>hr j (by omega)
  have uI:=hc k (by omega)
  rw [tM]
  by_cases h0:row k<0
  ·rw [if_pos h0]
   rcases ih with ⟨h1,h2⟩ | ⟨o,h1,h2,h3,h4,h5,h6⟩
   ·exact .inl ⟨h1,fun j hj=>if e:j=k then e ▸ h0 else h2 j (by omega)⟩
   ·refine .inr ⟨o,h1,by omega,h3,h4,fun j hj hj0=>?_,h6⟩
    by_cases e:j=k
    ·subst e;omega
    ·exact h5 j (by omega) hj0
  ·rw [if_neg h0]
   rcases ih with ⟨h1,h2⟩ | ⟨o,h1,h2,h3,h4,h5,h6⟩
   ·rw [if_pos (.inl (by omega))]
    refine .inr ⟨k,rfl,by omega,by omega,rfl,fun j hj hj0=>?_,fun j hj hj0=>?_⟩
    ·by_cases e:j=k
     ·subst e;exact lT _
     ·have:=h2 j (by omega);omega
    ·have:=h2 j (by omega);omega
   ·have ho:=hc o (by omega)
    by_cases hlt:c k+row k<(cN c row k).1
    ·rw [if_pos (.inr hlt)]
     refine .inr ⟨k,rfl,by omega,by omega,rfl,fun j hj hj0=>?_,fun j hj hj0=>?_⟩
     ·by_cases e:j=k
      ·subst e;exact lT _
      ·have:=h5 j (by omega) hj0;simp only;omega
     ·have:=h5 j (by omega) hj0;simp only;omega
    ·rw [if_neg (by intro h;omega)]
     refine .inr ⟨o,h1,by omega,h3,h4,fun j hj hj0=>?_,h6⟩
     by_cases e:j=k
     ·subst e;omega
     ·exact h5 j (by omega) hj0
end
end
section
section
variable {n m:Nat} {par own:Nat->Int} {cost:Nat->Nat->Int}
def uF (n:Nat) (par:Nat->Int):Nat->Nat->Int
 | 0,_=>0
 | d+1,i=>bJ (fun c=>if i<c/\par c=i then uF n par d c+1000 else 0) n
def ub (n:Nat) (par:Nat->Int) (i:Nat):Int:=uF n par n i
theorem Yp:∀ {d e i:Nat},n<=i+d->n<=i+e->i<n->uF n par d i=uF n par e i
 | 0,_,_,h,_,hi=>by omega
 | _,0,_,_,h,hi=>by omega
 | d+1,e+1,i,h1,h2,hi=>by
  show bJ _ _=bJ _ _
  refine eD fun c hc=>?_
  split
  ·rename_i hk
   rw [Yp (d:=d) (e:=e) (by omega) (by omega) hc]
  ·rfl
theorem ub_eq {i:Nat} (hi:i<n):ub n par i=bJ (fun c=>if i<c/\par c=i then ub n par c+1000 else 0) n:=by
 unfold ub;obtain ⟨d,rfl⟩:∃d,n=d+1:=⟨n - 1,by omega⟩;show bJ _ _=_;refine eD fun c hc=>?_;split
 ·rename_i hk
  rw [Yp (d:=d) (e:=d+1) (by omega) (by omega) hc]
 ·rfl
theorem uF_nonneg (d:Nat):∀i:Nat,0<=uF n par d i:=by
 induction d with
 | zero=>intro i;exact lT _
 | succ d ih =>
  intro i
  exact uG fun c _=>by
   have:=ih c
   split<;>omega
theorem Hv (i:Nat):0<=ub n par i:=uF_nonneg _ _
def M9 (n:Nat) (par:Nat->Int) (k:Nat):Int:=bJ (fun c=>if k<=c/\par c<k then ub n par c+1000 else 0) n
theorem pot_step (h:∀c,c<n->par c<c) {k:Nat} (hk:k<n):M9 n par k=M9 n par (k+1)+1000:=by
 have h1:M9 n par k=bJ (fun c=>if k+1<=c/\par c<k then ub n par c+1000 else 0) n+bJ (fun c=>if c=k then ub n par k+1000 else 0) n:=by
  rw [<- sZ];unfold M9;refine eD fun c hc=>?_;by_cases e:c=k
  ·subst e
   have:=h c hc;rw [if_pos ⟨af _,this⟩,if_neg (by omega),if_pos rfl];omega
  ·by_cases h2:k<=c/\par c<k
   ·rw [if_pos h2,if_pos ⟨by omega,h2.2⟩,if_neg e];omega
   ·rw [if_neg h2,if_neg (fun h3=>h2 ⟨by omega,h3.2⟩),if_neg e];rfl
 have h2:M9 n par (k+1)=bJ (fun c=>if k+1<=c/\par c<k then ub n par c+1000 else 0) n+bJ (fun c=>if k<c/\par c=k then ub n par c+1000 else 0) n:=by
  rw [<- sZ];unfold M9;refine eD fun c _=>?_;by_cases h3:k+1<=c
  ·by_cases h4:par c=k
   ·rw [if_pos ⟨h3,by omega⟩,if_neg (by omega),if_pos ⟨h3,h4⟩];omega
   ·by_cases h5:par c<k
    ·rw [if_pos ⟨h3,by omega⟩,if_pos ⟨h3,h5⟩,if_neg (fun h=>h4 h.2)];omega
    ·rw [if_neg (by omega),if_neg (fun h=>h5 h.2),if_neg (fun h=>h4 h.2)];rfl
  ·rw [if_neg (fun h=>h3 h.1),if_neg (fun h=>h3 h.1),if_neg (fun h=>h3 (by omega))];rfl
 rw [vw,if_pos hk] at h1;rw [<- ub_eq hk] at h2;omega
theorem pot_le (h:∀c,c<n->par c<c):∀ {d k:Nat},k+d=n->M9 n par k=1000*(d:Int)
 | 0,k,e=>by
  have:M9 n par k=bJ (fun _=>0) n:=eD fun c hc=>by rw [if_neg (by omega)]
  rw [this,s8];rfl
 | d+1,k,e=>by
  rw [pot_step h (by omega),pot_le h (d:=d) (k:=k+1) (by omega)];omega
theorem Yq {f:Nat->Int}:∀ {n k:Nat},(∀c,c<n->0<=f c)->k<n->f k<=bJ f n
 | 0,_,_,h=>absurd h (bG _)
 | n+1,k,h,hk=>by
  rw [fD]
  by_cases e:k=n
  ·subst e;have:=uG (f:=f) (n:=k) fun c hc=>h c (by omega);omega
  ·have:=Yq (f:=f) (n:=n) (k:=k) (fun c hc=>h c (by omega)) (by omega)
   have:=h n (by omega);omega
theorem ub_le (h:∀c,c<n->par c<c) {k:Nat} (hk:k<n):ub n par k+1000<=1000*((n - k:Nat):Int):=by
 have h1:=pot_le h (d:=n - k) (k:=k) (by omega)
 have h2:=Yq (f:=fun c=>if k<=c/\par c<k then ub n par c+1000 else 0) (n:=n) (k:=k) (fun c _=>by
  have:=Hv (n:=n) (par:=par) c;show 0<=(if k<=c/\par c<k then ub n par c+1000 else 0)
  split<;>omega) hk
 rw [if_pos ⟨af _,h k hk⟩] at h2;unfold M9 at h1;omega
theorem Ej (F:Fine n m par own cost):∀ {d i:Nat},n<=i+d->i<n ->
  (∀s,s<m -> -1<=tab n m par own cost i s/\tab n m par own cost i s<=ub n par i)/\(∃s,s<m/\0<=tab n m par own cost i s) /\
  (own i = -1->∀s,s<m->0<=tab n m par own cost i s)/\(0<=own i->∀s,s<m->tab n m par own cost i s=if own i=s then 0 else -1)
 | 0,i,h,hi=>by omega
 | d+1,i,h,hi=>by
  have hkid:∀s,s<m->∀c,c<n->i<c->0<=(cN (cost s) (tab n m par own cost c) m).1/\(cN (cost s) (tab n m par own cost c) m).1<=ub n par c+1000:=by
   intro s hs c hc hic
   obtain ⟨h1,⟨j,hj,hj0⟩,_⟩:=Ej F (d:=d) (i:=c) (by omega) hc
   rcases Al (c:=cost s) (row:=tab n m par own cost c) (A:=ub n par c) (Hv _) (k:=m) (fun j hj=>F.SY s j hs hj) (fun j hj=>(h1 j hj).2) with ⟨_,h3⟩ | ⟨o,_,ho,Kv,h4,h5,_⟩
   ·have:=h3 j hj;omega
   ·have:=h5 j hj hj0
    have:=(h1 j hj).2
    have:=F.SY s j hs hj
    have:=F.SY s o hs ho
    constructor<;>omega
  have hsum:∀s,s<m->0<=bJ (fun c=>if i<c/\par c=i then (cN (cost s) (tab n m par own cost c) m).1 else 0) n/\bJ (fun c=>if i<c/\par c=i then (cN (cost s) (tab n m par own cost c) m).1 else 0) n<=ub n par i:=by
   intro s hs
   constructor
   ·exact uG fun c hc=>by
     split
     ·rename_i h2;exact (hkid s hs c hc h2.1).1
     ·exact lT _
   ·rw [ub_eq hi]
    exact ki fun c hc=>by
     split
     ·rename_i h2;exact (hkid s hs c hc h2.1).2
     ·exact lT _
  have heq:∀s,tab n m par own cost i s=(if 0<=own i/\own i≠s then -1 else 0)+bJ (fun c=>if i<c/\par c=i then (cN (cost s) (tab n m par own cost c) m).1 else 0) n:=fun s=>M8 hi s
  have Ek:=Hv (n:=n) (par:=par) i
  have ho:=F.own1 i hi
  refine ⟨fun s hs=>?_,?_,fun h0 s hs=>?_,fun h0 s hs=>?_⟩
  ·rw [heq s];have:=hsum s hs;split<;>omega
  ·by_cases h0:0<=own i
   ·refine ⟨(own i).toNat,by omega,?_⟩
    rw [heq,if_neg (by omega)];have:=hsum (own i).toNat (by omega);omega
   ·refine ⟨0,F.m1,?_⟩
    rw [heq,if_neg (by omega)];have:=hsum 0 F.m1;omega
  ·rw [heq,if_neg (by omega)];have:=hsum s hs;omega
  ·have hz:bJ (fun c=>if i<c/\par c=i then (cN (cost s) (tab n m par own cost c) m).1 else 0) n=0:=by
    refine (eD (g:=fun _=>0) fun c hc=>?_).trans (s8 n)
    rw [if_neg];intro h2;have:=F.leaf i c hc h2.1 h2.2;omega
   rw [heq,hz]
   by_cases e:own i=s
   ·rw [if_neg (fun h=>h.2 e),if_pos e];rfl
   ·rw [if_pos ⟨h0,e⟩,if_neg e];rfl
end
end
section
def kj (ns:List ByteArray) (i:Nat):Int:=dI (fun j=>decide ((i:Int)=gi (aD ns) j)) (aD ns).length
def nh (ns:List ByteArray) (st:List Int) (i:Nat):Int:=if 0<=kj ns i then gi st (kj ns i).toNat else -1
def jm (cs:List (List Int)) (a b:Nat):Int:=gi (gl cs a) b
def kG (t:az) (st:List Int) (cs:List (List Int)) (i s:Nat):Int:=tab t.ps.length cs.length (gi t.ps) (nh t.ns st) (jm cs) i s
def bK (t:az) (st:List Int) (cs:List (List Int)) (i:Nat):List Int:=(List.range cs.length).map (kG t st cs i)
theorem lV (t:az) (st:List Int) (cs:List (List Int)) (i:Nat):(bK t st cs i).length=cs.length:=by simp [bK]
theorem ig (t:az) (st:List Int) (cs:List (List Int)) (i:Nat) {s:Nat} (hs:s<cs.length):gi (bK t st cs i) s=kG t st cs i s:=by
 simp [gi,bK,hs]
def qg (t:az) (st:List Int) (cs:List (List Int)) (s c:Nat):Int:=(cN (gi (gl cs s)) (gi (bK t st cs c)) (bK t st cs c).length).1
theorem addK_eq (t:az) (st:List Int) (cs:List (List Int)) (s c:Nat):qg t st cs s c=(cN (jm cs s) (kG t st cs c) cs.length).1:=by
 unfold qg;rw [lV];have h:cN (gi (gl cs s)) (gi (bK t st cs c)) cs.length=cN (jm cs s) (kG t st cs c) cs.length:=uH (fun _ _=>rfl) fun j hj=>ig t st cs c hj;rw [h]
def jQ (t:az) (st:List Int) (i s:Nat):Int:=if 0<=nh t.ns st i/\nh t.ns st i≠s then -1 else 0
theorem Yr (t:az) (st:List Int) (cs:List (List Int)) {i:Nat} (hi:i<t.ps.length) (s:Nat):kG t st cs i s=jQ t st i s+((bq t.ps i).map (qg t st cs s)).sum:=by
 unfold kG;rw [M8 hi];unfold DI bq;rw [Hu];show jQ t st i s+_=_;congr 1;exact eD fun c _=>by
  split
  ·exact (addK_eq t st cs s c).symm
  ·rfl
end
section
theorem XE {t:az} {st:List Int} {cs:List (List Int)} (h:nU t st cs=0):aH t=0/\uE cs=0/\vv st (aD t.ns).length (-1) cs.length=0:=by
 unfold nU at h;by_cases h1:aH t=0
 ·rw [if_neg (fun e=>e h1)] at h
  by_cases h2:uE cs=0
  ·rw [if_neg (fun e=>e h2)] at h;exact ⟨h1,h2,h⟩
  ·rw [if_pos h2] at h;exact absurd h h2
 ·rw [if_pos h1] at h;cases h
theorem aF {t:az} (h:aH t=0):0<t.ps.length/\t.ps.length<=64/\t.ns.length=t.ps.length/\k8 t.ps=true/\∀i,i<t.ps.length->oZ t.ps t.ns i=0:=by
 unfold aH at h;split at h
 ·cases h
 ·split at h
  ·cases h
  ·split at h
   ·cases h
   ·split at h
    ·exact ⟨by omega,by omega,by omega,‹_›,jB h⟩
    ·cases h
theorem yE {cs:List (List Int)} (h:uE cs=0):0<cs.length/\cs.length<=16/\(∀a,a<cs.length->(gl cs a).length=cs.length)/\(∀a k,0<=gi (gl cs a) k/\gi (gl cs a) k<=1000)/\∀a,a<cs.length->gi (gl cs a) a=0:=by
 unfold uE at h;split at h
 ·cases h
 ·split at h
  ·cases h
  ·split at h
   ·cases h
   ·rename_i hl
    split at h
    ·cases h
    ·rename_i hm
     (have hl2:lenBad cs=false:=by simpa using hl);(have hm2:Yo cs cs.length=false:=by simpa using hm);(have hlen:∀a,a<cs.length->(gl cs a).length=cs.length:=fun a ha=>by have:=any_false hl2 ha;simpa using this);have rE:∀a b,a<cs.length->b<(gl cs a).length->badc a b (gi (gl cs a) b)=false:=fun a b ha hb=>any_false (any_false hm2 ha) hb;refine ⟨by omega,by omega,hlen,fun a k=>?_,fun a ha=>?_⟩
     ·by_cases ha:a<cs.length
      ·by_cases hk:k<(gl cs a).length
       ·have:=rE a k ha hk
        simp [badc] at this;omega
       ·have:gi (gl cs a) k=0:=by simp [gi,List.getElem?_eq_none (by omega:(gl cs a).length<=k)]
        omega
      ·have:gl cs a=[]:=by simp [gl,List.getElem?_eq_none (by omega:cs.length<=a)]
       rw [this];simp [gi]
     ·have:=rE a a ha (by rw [hlen a ha];exact ha)
      simp [badc] at this;exact this.2
theorem qh {ns:List ByteArray} {x:Int}:x∈aD ns↔∃i:Nat,x=i/\i<ns.length/\(gs ns i).size≠0:=by
 unfold aD;rw [cm];constructor
 ·rintro ⟨i,hi,rfl⟩
  rw [fL,bh] at hi;exact ⟨i,rfl,hi.1,by simpa using hi.2⟩
 ·rintro ⟨i,rfl,h1,h2⟩
  exact ⟨i,by rw [fL,bh];exact ⟨h1,by simpa using h2⟩,rfl⟩
theorem yF (ns:List ByteArray):(aD ns).length<=ns.length:=by
 unfold aD;rw [aG];exact aJ (pG _ _) (by simp)
theorem mq {l:List Int} {k:Nat} (h:k<l.length):gi l k∈l:=by simp [gi,h]
theorem CQ {ns:List ByteArray} {i:Nat} (h:0<=kj ns i):(kj ns i).toNat<(aD ns).length/\gi (aD ns) (kj ns i).toNat=i:=by
 unfold kj at h ⊢;generalize hx:dI (fun j=>decide ((i:Int)=gi (aD ns) j)) (aD ns).length=x at *;obtain ⟨k,rfl⟩:=pE h;have:=Bp hx;rw [cZ];exact ⟨this.1,by have:=this.2.1;simpa using (of_decide_eq_true this).symm⟩
structure Valid (t:az) (st:List Int) (cs:List (List Int)):Prop where
 tree:aH t=0
 mat:uE cs=0
 len:st.length=(aD t.ns).length
 good:mH st (-1) cs.length=false
theorem Td {t:az} {st:List Int} {cs:List (List Int)} (h:nU t st cs=0):Valid t st cs:=by
 obtain ⟨h1,h2,h3⟩:=XE h;unfold vv at h3;split at h3
 ·cases h3
 ·split at h3
  ·cases h3
  ·exact ⟨h1,h2,by omega,by simpa using ‹¬mH st (-1) cs.length=true›⟩
theorem Valid.par {t:az} {st:List Int} {cs:List (List Int)} (h:Valid t st cs):nU t st cs=0:=by
 unfold nU vv;rw [if_neg (fun e=>e h.tree),if_neg (fun e=>e h.mat),if_neg (fun e=>e h.len),h.good];rfl
theorem uJ {ps:List Int} (h:k8 ps=true) {c:Nat} (hc:c<ps.length):gi ps c<c/\(0<c->0<=gi ps c)/\(c=0->gi ps c = -1):=by
 have:=JV h hc;unfold qq at this;split at this
 ·simp at this;omega
 ·simp at this;omega
theorem uK {t:az} (h:aH t=0) {i c:Nat} (hc:c<t.ps.length) (hi:i<c) (hp:gi t.ps c=i):(gs t.ns i).size=0:=by
 obtain ⟨_,_,_,hok,hn⟩:=aF h;have hin:isIn t.ps i=true:=eO.2 ⟨c,bh.2 hc,by simp [hp];omega⟩;have:=hn i (by omega);unfold oZ at this;rw [if_pos hin] at this;by_cases e:(gs t.ns i).size=0
 ·exact e
 ·rw [if_neg e] at this;cases this
theorem Fx {t:az} (h:aH t=0) {i:Nat} (hi:i<t.ps.length) (hin:isIn t.ps i=false):b7 (gs t.ns i).data.toList=true/\fk t.ns i=false:=by
 obtain ⟨_,_,_,hok,hn⟩:=aF h;have:=hn i hi;unfold oZ at this;rw [hin] at this;cases h1:b7 (gs t.ns i).data.toList
 ·rw [h1] at this;cases this
 ·cases h2:fk t.ns i
  ·exact ⟨rfl,rfl⟩
  ·rw [h1,h2] at this;cases this
theorem Valid.fine {t:az} {st:List Int} {cs:List (List Int)} (h:Valid t st cs):Fine t.ps.length cs.length (gi t.ps) (nh t.ns st) (jm cs):=by
 obtain ⟨h1,h2,h3,hok,hn⟩:=aF h.tree;obtain ⟨m1,m2,m3,m4,m5⟩:=yE h.mat;refine ⟨m1,fun c h0 hc=>(uJ hok hc).2.1 h0,fun c hc=>(uJ hok hc).1,fun i _=>?_,fun a b _ _=>m4 a b,fun i c hc hic hp=>?_⟩
 ·unfold nh
  split
  ·rename_i h0
   have hl:=CQ h0;have hb:=any_false h.good (k:=(kj t.ns i).toNat) (by rw [h.len];exact hl.1);simp at hb;omega
  ·omega
 ·unfold nh
  rw [if_neg];intro h0;have hl:=CQ h0;have hm:(i:Int)∈aD t.ns:=by rw [<- hl.2];exact mq hl.1
  obtain ⟨j,e,_,hne⟩:=qh.1 hm;obtain rfl:i=j:=by omega
  exact hne (uK h.tree hc hic hp)
theorem Valid.tb {t:az} {st:List Int} {cs:List (List Int)} (h:Valid t st cs) (j s:Nat) (hj:j<t.ps.length):-1<=gi (bK t st cs j) s/\gi (bK t st cs j) s<=100000:=by
 by_cases hs:s<cs.length
 ·rw [ig t st cs j hs]
  have h1:=(Ej h.fine (d:=t.ps.length) (i:=j) (by omega) hj).1 s hs;have h2:=ub_le (par:=gi t.ps) h.fine.SX hj;obtain ⟨_,h3,_⟩:=aF h.tree;unfold kG;constructor<;>omega
 ·have:gi (bK t st cs j) s=0:=by simp [gi,bK,hs]
  omega
def dg (t:az) (st:List Int) (cs:List (List Int)):Int:=if nU t st cs=0 then (cN (fun _=>0) (gi (bK t st cs 0)) cs.length).1 else 0
end
section
section
variable {t:az} {st:List Int} {cs:List (List Int)}
theorem AV (hv:Valid t st cs) {c:Nat->Int} (hc:∀j,j<cs.length->0<=c j/\c j<=1000) {k:Nat} (hk:k<t.ps.length) :
  ∃o:Nat,(cN c (gi (bK t st cs k)) cs.length).2=o/\o<cs.length/\0<=gi (bK t st cs k) o/\(cN c (gi (bK t st cs k)) cs.length).1=c o+gi (bK t st cs k) o /\
   (∀j,j<cs.length->0<=gi (bK t st cs k) j->(cN c (gi (bK t st cs k)) cs.length).1<=c j+gi (bK t st cs k) j) /\
   (∀j,j<o->0<=gi (bK t st cs k) j->(cN c (gi (bK t st cs k)) cs.length).1<c j+gi (bK t st cs k) j):=by
 obtain ⟨_,⟨s,hs,hs0⟩,_⟩:=Ej hv.fine (d:=t.ps.length) (i:=k) (by omega) hk;have hs1:0<=gi (bK t st cs k) s:=by rw [ig _ _ _ _ hs];exact hs0
 rcases Al (c:=c) (row:=gi (bK t st cs k)) (A:=100000) (by omega) (k:=cs.length) hc (fun j _=>(hv.tb k j hk).2) with ⟨_,h⟩ | h
 ·have:=h s hs;omega
 ·exact h
end
end
section
end
section
end
section
theorem qi {ns:List ByteArray} {i:Nat} (hi:i<(aD ns).length):∃k:Nat,gi (aD ns) i=k/\k<ns.length/\(gs ns k).size≠0:=by
 obtain ⟨k,e,h1,h2⟩:=qh.1 (mq hi);exact ⟨k,e,h1,h2⟩
section
variable {t:az} {st:List Int} {cs:List (List Int)}
theorem scoreN_eq (h:Valid t st cs):dg t st cs=(cN (fun _=>0) (gi (bK t st cs 0)) cs.length).1:=by unfold dg;rw [if_pos h.par]
theorem Fy (h:Valid t st cs):∃o:Nat,(cN (fun _=>0) (gi (bK t st cs 0)) cs.length).2=o/\o<cs.length/\0<=kG t st cs 0 o/\dg t st cs=kG t st cs 0 o /\
  ∀j,j<cs.length->0<=kG t st cs 0 j->dg t st cs<=kG t st cs 0 j:=by
 have jW:=(aF h.tree).1;obtain ⟨o,h1,h2,h3,h4,h5,_⟩:=AV h (c:=fun _=>0) (fun _ _=>by omega) jW;rw [scoreN_eq h];rw [ig _ _ _ _ h2] at h3 h4;refine ⟨o,h1,h2,h3,by rw [h4];omega,fun j hj hj0=>?_⟩;have:=h5 j hj (by rw [ig _ _ _ _ hj];exact hj0);rw [ig _ _ _ _ hj] at this;omega
theorem s9 (h:Valid t st cs):0<=dg t st cs:=by obtain ⟨o,_,_,h3,h4,_⟩:=Fy h;omega
theorem Qe (h:Valid t st cs):dg t st cs<=100000:=by
 obtain ⟨o,_,h2,_,h4,_⟩:=Fy h;have:=(h.tb 0 o (aF h.tree).1).2;rw [ig _ _ _ _ h2] at this;omega
end
end
section
end
section
end
section
open Go.RowKit Go.Deep

def ay (S:Nat->Prop) (w:World) (v:Value) (n:Nat) (f:Nat->Value):Prop :=
 ∃p cap,v=.slice p n cap/\n<=cap/\(n=0\/∃b off,p=some ⟨b,off,none⟩/\S b/\∀k,k<n->w.cell? ⟨b,off+k,none⟩=some (f k))
def ah (S:Nat->Prop) (w:World) (v:Value) (xs:List Int):Prop:=ay S w v xs.length (fun k=>.int .i64 (gi xs k))
def au (S:Nat->Prop) (w:World) (v:Value) (xs:List ByteArray):Prop:=ay S w v xs.length (fun k=>.string (gs xs k))
def aR (S:Nat->Prop) (w:World) (v:Value) (xs:List (List Int)):Prop:=∃f,ay S w v xs.length f/\∀k,k<xs.length->ah S w (f k) (gl xs k)
def aI (S:Nat->Prop) (w:World) (v:Value) (t:az):Prop:=∃P N,v=.agg #[P,N]/\ah S w P t.ps/\au S w N t.ns

def Kept (S:Nat->Prop) (w w':World):Prop:=∀b,S b->b<w.heap.size->w'.heap[b]? = w.heap[b]?
def Any (_:Nat):Prop:=True

theorem ay.keep {S:Nat->Prop} {w w':World} {v:Value} {n:Nat} {f:Nat->Value} (h:ay S w v n f) (k:Kept S w w'):ay S w' v n f:=by
 obtain ⟨p,cap,rfl,hn,h⟩:=h;refine ⟨p,cap,rfl,hn,?_⟩;rcases h with h | ⟨b,off,rfl,hS,h⟩
 ·exact .inl h
 ·refine .inr ⟨b,off,rfl,hS,fun i hi=>?_⟩
  have hlt:b<w.heap.size:=eG w _ (h i hi);rw [eX (a:=⟨b,off+i,none⟩) (k b hS hlt)];exact h i hi
theorem ah.keep {S:Nat->Prop} {w w':World} {v:Value} {xs:List Int} (h:ah S w v xs) (k:Kept S w w'):ah S w' v xs:=ay.keep h k
theorem au.keep {S:Nat->Prop} {w w':World} {v:Value} {xs:List ByteArray} (h:au S w v xs) (k:Kept S w w'):au S w' v xs:=ay.keep h k
theorem aR.keep {S:Nat->Prop} {w w':World} {v:Value} {xs:List (List Int)} (h:aR S w v xs) (k:Kept S w w'):aR S w' v xs:=by
 obtain ⟨f,h,hr⟩:=h;exact ⟨f,h.keep k,fun i hi=>(hr i hi).keep k⟩
theorem aI.keep {S:Nat->Prop} {w w':World} {v:Value} {t:az} (h:aI S w v t) (k:Kept S w w'):aI S w' v t:=by
 obtain ⟨P,N,rfl,h1,h2⟩:=h;exact ⟨P,N,rfl,h1.keep k,h2.keep k⟩
theorem ay.sub {S T:Nat->Prop} {w:World} {v:Value} {n:Nat} {f:Nat->Value} (h:ay S w v n f) (k:∀b,S b->b<w.heap.size->T b):ay T w v n f:=by
 obtain ⟨p,cap,rfl,hn,h⟩:=h;refine ⟨p,cap,rfl,hn,?_⟩;rcases h with h | ⟨b,off,rfl,hS,h⟩
 ·exact .inl h
 ·by_cases hn0:n=0
  ·exact .inl hn0
  ·exact .inr ⟨b,off,rfl,k b hS (eG w _ (h 0 (by omega))),h⟩
theorem ah.sub {S T:Nat->Prop} {w:World} {v:Value} {xs:List Int} (h:ah S w v xs) (k:∀b,S b->b<w.heap.size->T b):ah T w v xs:=ay.sub h k
theorem au.sub {S T:Nat->Prop} {w:World} {v:Value} {xs:List ByteArray} (h:au S w v xs) (k:∀b,S b->b<w.heap.size->T b):au T w v xs:=ay.sub h k
theorem aR.sub {S T:Nat->Prop} {w:World} {v:Value} {xs:List (List Int)} (h:aR S w v xs) (k:∀b,S b->b<w.heap.size->T b):aR T w v xs:=by
 obtain ⟨f,h,hr⟩:=h;exact ⟨f,h.sub k,fun i hi=>(hr i hi).sub k⟩
theorem aI.sub {S T:Nat->Prop} {w:World} {v:Value} {t:az} (h:aI S w v t) (k:∀b,S b->b<w.heap.size->T b):aI T w v t:=by
 obtain ⟨P,N,rfl,h1,h2⟩:=h;exact ⟨P,N,rfl,h1.sub k,h2.sub k⟩
theorem Kept.below {S:Nat->Prop} {a b:World} (h:Below a.heap.size a b):Kept S a b:=fun i _ hl=>h.block i hl
theorem ay.open {S:Nat->Prop} {w:World} {v:Value} {n:Nat} {f:Nat->Value} (h:ay S w v n f) :
  ∃p cap,v=.slice p n cap/\n<=cap/\∀k,k<n->∃b off,p=some ⟨b,off,none⟩/\w.cell? ⟨b,off+k,none⟩=some (f k):=by
 obtain ⟨p,cap,rfl,hn,h⟩:=h;refine ⟨p,cap,rfl,hn,fun k hk=>?_⟩;rcases h with h | ⟨b,off,rfl,_,h⟩
 ·omega
 ·exact ⟨b,off,rfl,h k hk⟩
theorem below_drewN {B:Nat} {a w:World} (h:Below B a w) (n:Nat):Below B a (w.drewN n):=⟨h.os,h.tape,h.output,h.size,h.block⟩
theorem aM {k:IntKind} {a b:Int} (h:a=b):Ending.returned (.int k a)=.returned (.int k b):=by rw [h]
theorem aV {a b:Bool} (h:a=b):Ending.returned (.bool a)=.returned (.bool b):=by rw [h]
end
end Go.Proofs.YthgabkgmkolobaaGreat
namespace Go.Proofs
open Go.Shelf
def Tryz.lays106_ren:Go.Shelf.Ren:=⟨fun | 106=>242 | 213=>272 | 265=>289 | n=>n,fun | 9=>9 | 3=>3 | n=>n,fun | n=>n⟩
theorem Tryz.lays106:Go.Proofs.Lays.n106 Tryz.prog Tryz.lays106_ren:={
 mixed:=by kernel_rfl
 f106:=Tryz.func242.trans (congrArg some (by kernel_rfl))
 f213:=Tryz.func272.trans (congrArg some (by kernel_rfl))
 f265:=Tryz.func289.trans (congrArg some (by kernel_rfl))
 t3:=Tryz.underlying3
 a3:=Tryz.isAgg3
 z3:=Tryz.sizeOf3
 v3:=Tryz.zeroValue3
 t9:=Tryz.underlying9
 a9:=Tryz.isAgg9
 z9:=Tryz.sizeOf9
 v9:=Tryz.zeroValue9 }
open Go.RowKit in
theorem Tryz.strings_Compare (a b:ByteArray) (w:World) :
  Calls Tryz.prog 242 #[.string a,.string b] w fun e w'=>e=.returned (.int .i64 (Lib.compareBytes a.data.toList b.data.toList))/\w'=w:=Any.strings_Compare Tryz.lays106 a b w
def Tryz.lays137_ren:Go.Shelf.Ren:=⟨fun | 137=>261 | 217=>277 | 266=>290 | n=>n,fun | 9=>9 | 5=>5 | 3=>3 | n=>n,fun | n=>n⟩
theorem Tryz.lays137:Go.Proofs.Lays.n137 Tryz.prog Tryz.lays137_ren:={
 mixed:=by kernel_rfl
 f137:=Tryz.func261.trans (congrArg some (by kernel_rfl))
 f217:=Tryz.func277.trans (congrArg some (by kernel_rfl))
 f266:=Tryz.func290.trans (congrArg some (by kernel_rfl))
 t3:=Tryz.underlying3
 a3:=Tryz.isAgg3
 z3:=Tryz.sizeOf3
 v3:=Tryz.zeroValue3
 t5:=Tryz.underlying5
 a5:=Tryz.isAgg5
 z5:=Tryz.sizeOf5
 v5:=Tryz.zeroValue5
 t9:=Tryz.underlying9
 a9:=Tryz.isAgg9
 z9:=Tryz.sizeOf9
 v9:=Tryz.zeroValue9 }
open Go.RowKit in
theorem Tryz.strings_IndexByte (s:ByteArray) (c:Int) (w:World) :
  Calls Tryz.prog 261 #[.string s,.int .u8 c] w fun e w'=>e=.returned (.int .i64 (Lib.indexByte s.data.toList c.toNat.toUInt8))/\w'=w:=Any.strings_IndexByte Tryz.lays137 s c w
end Go.Proofs
namespace Go.Proofs.YthgabkgmkolobaaGreat
open Go.RowKit Go.Deep
def punS:ByteArray:=⟨#[46,44,59,58,33,63,40,41,45]⟩
theorem pun_ix:∀c,c<256->(decide (0<=Lib.indexByte punS.data.toList c.toUInt8))=Fw c:=by
 decide +kernel
theorem ofk {a b:Int} (h:a=b) {w w':World} (hw:w=w'):Ending.returned (.int .i64 a)=.returned (.int .i64 b)/\w=w':=⟨by rw [h],hw⟩
theorem pun_iff {c:Nat} {x:Int} (hc:c<256) (hx:Lib.indexByte [46,44,59,58,33,63,40,41,45] ((c:Int).toNat).toUInt8=x):0<=x↔Fw c=true:=by
 have h:=pun_ix c hc;rw [<- h,<- hx];simp [punS]
theorem kind_t (c:Nat) (hc:c<256) (w:World):Calls Tryz.prog 239 #[.int .u8 c] w fun e w'=>e=.returned (.int .i64 (gW c))/\w=w':=by
 go_enter Tryz.func239,Tryz.ntmps239
 go_wp2_with (go_at_call 261;refine (Tryz.strings_IndexByte _ _ _).mono ?_;rintro e w' ⟨rfl,rfl⟩;generalize hx:Lib.indexByte _ _=x)
 all_goals (try go_ret)
 all_goals (refine ofk ?_ rfl)
 all_goals (first | (have h5:=pun_iff hc ‹Lib.indexByte _ _=_›;unfold gW isLet;by_cases hp:Fw c=true<;>simp only [hp] at*<;> simp at*<;> omega) | (simp [gW,isLet,Fw] at *;done) | (simp [gW,isLet,Fw] at *;omega))
end Go.Proofs.YthgabkgmkolobaaGreat
