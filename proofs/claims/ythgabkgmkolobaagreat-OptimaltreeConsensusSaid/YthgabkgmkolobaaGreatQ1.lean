/- What the functions of layers 1 and 31 .. -/
import Derived.TacticsIn
import Derived.RangeFuncRecord
import Derived.MapKept
import Derived.Lib.Builder
import Derived.Laws.World
import Derived.Laws.AppendOwn
import Derived.Deep.Draws
import Derived.Below
import Derived.AtR
import Derived.WalkKit
import Derived.WalkSpells
import Derived.WalkLawsBesides
import Derived.Deep.OwnRows
import Derived.Deep.QuietTactic
import Derived.BigQuiet
import Derived.Lib.Hide
import Derived.Shelf.Small.Strs
import Derived.Test.YthgabkgmkolobaaGreatProg
set_option maxRecDepth 100000
set_option maxHeartbeats 400000
namespace Go.Proofs.YthgabkgmkolobaaGreat
open Go.RowKit in
theorem eM (w:World):∃x,x=w:=⟨_,rfl⟩
abbrev OA:=@Array.getElem?_eq_none
abbrev fq:=@Array.getElem?_eq_some_iff
abbrev afB:=@Array.getElem?_modify
abbrev o7:=@Array.getElem?_toList
abbrev CM:=@Array.length_toList
abbrev iu:=@Array.replicate_succ
abbrev iw:=@Array.replicate_zero
abbrev bH:=@Go.RowKit.Below.block
abbrev En:=@Go.RowKit.Below.heap_alloc
abbrev KT:=@Go.RowKit.Below.heap_setCell
abbrev cM:=@Go.RowKit.Below.refl
abbrev iz:=@Go.RowKit.Below.trans
abbrev eF:=@Bool.and_eq_true
abbrev rN:=@Bool.eq_false_iff
abbrev mW:=@Bool.eq_iff_iff
abbrev zV:=@Bool.not_eq_true'
abbrev zW:=@Bool.or_eq_false_iff
abbrev s7:=@Bool.or_eq_true
abbrev Ja:=@ByteArray.data_extract
abbrev FW:=@Classical.not_not
abbrev oa:=@Int.eq_ofNat_of_zero_le
abbrev qm:=@Int.le_refl
abbrev vP:=@Int.natCast_nonneg
abbrev tX:=@Int.ofNat_lt
abbrev fc:=@Int.toNat_natCast
abbrev zX:=@Go.Lib.cell_of_heap
abbrev CN:=@List.Nodup.mem_erase_iff
abbrev Jb:=@List.Pairwise.filter
abbrev mM:=@List.Perm.refl
abbrev s8:=@List.all_eq_true
abbrev dx:=@List.any_eq_true
abbrev dS:=@List.append_assoc
abbrev eG:=@List.append_nil
abbrev s9:=@List.append_toArray
abbrev cm:=@List.cons_append
abbrev dU:=@List.contains_iff_mem
abbrev CO:=@List.drop_eq_getElem_cons
abbrev FX:=@List.eq_nil_iff_forall_not_mem
abbrev od:=@List.eq_nil_of_length_eq_zero
abbrev CP:=@List.exists_mem_of_ne_nil
abbrev tY:=@List.ext_getElem
abbrev xL:=@List.ext_getElem?
abbrev rO:=@List.filter_append
abbrev FY:=@List.filter_cons_of_neg
abbrev FZ:=@List.filter_cons_of_pos
abbrev qq:=@List.flatMap_append
abbrev gj:=@List.flatMap_cons
abbrev CQ:=@List.flatMap_map
abbrev rP:=@List.getD_eq_getElem?_getD
abbrev adE:=@List.getElem?_append
abbrev F0:=@List.getElem?_append_left
abbrev Jc:=@List.getElem?_append_right
abbrev F2:=@List.getElem?_cons_succ
abbrev kQ:=@List.getElem?_eq_getElem
abbrev xM:=@List.getElem?_eq_none
abbrev o8:=@List.getElem?_eq_some_iff
abbrev kr:=@List.getElem?_map
abbrev jy:=@List.getElem_mem
abbrev rQ:=@List.getElem_of_mem
abbrev zY:=@List.getLast?_cons_cons
abbrev bg:=@List.length_append
abbrev aW:=@List.length_cons
abbrev xN:=@List.length_drop
abbrev zZ:=@List.length_eq_one_iff
abbrev xO:=@List.length_eq_zero_iff
abbrev mN:=@List.length_filter_le
abbrev aD:=@List.length_map
abbrev dw:=@List.length_nil
abbrev z7:=@List.length_pos_iff
abbrev vQ:=@List.length_range
abbrev Jd:=@List.length_replicate
abbrev z8:=@List.length_singleton
abbrev CR:=@List.length_tail
abbrev jl:=@List.length_take
abbrev gm:=@List.lookup_cons
abbrev cg:=@List.map_append
abbrev lz:=@List.map_congr_left
abbrev dV:=@List.map_cons
abbrev CS:=@List.map_flatMap
abbrev jA:=@List.map_map
abbrev ey:=@List.mem_append
abbrev Je:=@List.mem_append_left
abbrev Jf:=@List.mem_append_right
abbrev bA:=@List.mem_cons
abbrev mX:=@List.mem_cons_of_mem
abbrev tZ:=@List.mem_cons_self
abbrev gP:=@List.mem_filter
abbrev iA:=@List.mem_flatMap
abbrev F3:=@List.mem_iff_getElem
abbrev bI:=@List.mem_map
abbrev Jg:=@List.mem_of_getElem?
abbrev CT:=@List.mem_of_mem_take
abbrev bu:=@List.mem_range
abbrev cN:=@List.mem_singleton
abbrev F4:=@List.mergeSort_perm
abbrev di:=@List.nil_append
abbrev ua:=@List.nodup_append
abbrev qu:=@List.nodup_cons
abbrev Aa:=@List.nodup_iff_pairwise_ne
abbrev iB:=@List.pairwise_cons
abbrev BR:=@List.pairwise_flatMap
abbrev mY:=@List.pairwise_iff_getElem
abbrev sI:=@List.pairwise_map
abbrev Eo:=@List.perm_ext_iff_of_nodup
abbrev BS:=@List.prefix_refl
abbrev dX:=@List.push_toArray
abbrev pU:=@List.range_succ
abbrev dY:=@List.size_toArray
abbrev BU:=@List.take_add_one
abbrev BV:=@List.take_append_drop
abbrev fT:=@List.take_length
abbrev BW:=@List.take_of_length_le
abbrev yA:=@List.take_succ_cons
abbrev jQ:=@List.take_succ_eq_append_getElem
abbrev BX:=@Go.MapKept.run_getObj_map
abbrev wm:=@Nat.add_sub_cancel
abbrev mZ:=@Nat.add_zero
abbrev BZ:=@Nat.eq_zero_or_pos
abbrev fD:=@Nat.le_of_eq
abbrev ah:=@Nat.le_refl
abbrev oh:=@Nat.le_succ
abbrev aB:=@Nat.le_trans
abbrev iI:=@Nat.lt_of_lt_of_le
abbrev wu:=@Nat.lt_succ_self
abbrev oo:=@Nat.lt_trichotomy
abbrev qO:=@Nat.mul_le_mul_left
abbrev aZ:=@Nat.not_lt_zero
abbrev je:=@Nat.zero_add
abbrev aF:=@Nat.zero_le
abbrev iJ:=@Ne.symm
abbrev gF:=@Go.Oper.semAt_eq
abbrev yB:=@Go.Oper.semAt_some
abbrev jR:=@Option.map_eq_some_iff
abbrev B3:=@Option.some.injEq
abbrev kX:=@Prod.mk.injEq
abbrev yC:=@UInt8.lt_iff_toNat_lt
abbrev ng:=@Go.World.alloc_heap_new
abbrev dL:=@Go.World.block_lt_of_cell?
abbrev akU:=@Go.World.cell?_alloc_new
abbrev cU:=@Go.World.cell?_of_block
abbrev kY:=@Go.World.drewN_drewN
abbrev sJ:=@Go.World.ownsRow.lt
abbrev l9:=@Go.World.putObj_heap_other
abbrev aQ:=@Go.World.size_alloc
abbrev nh:=@Go.World.size_setCell
open Go.RowKit in
theorem aa {p : Prop} (h : p) : Hid p := h
theorem aL {α : Type} {i : Nat} {a : α} {l : List α} : l.toArray.setIfInBounds i a = (l.set i a).toArray := List.setIfInBounds_toArray ..
theorem aM {α : Type} {a b : α} {l : List α} : (a :: l).set 0 b = b :: l := List.set_cons_zero ..
theorem aN {α : Type} {n : Nat} {a b : α} {l : List α} : (a :: l).set (n + 1) b = a :: l.set n b := List.set_cons_succ ..
section
def gi (l:List Int) (k:Nat):Int:=l.getD k 0
def gs (l:List ByteArray) (k:Nat):ByteArray:=l.getD k ByteArray.empty
def gb (l:List Bool) (k:Nat):Bool:=l.getD k false
def gl (l:List (List Int)) (k:Nat):List Int:=l.getD k []
structure ax where
 ps:List Int
 ns:List ByteArray

theorem ad6 (bs:ByteArray):∀(n i:Nat) (r:List UInt8),bs.size - i=n->ByteArray.toList.loop bs i r=r.reverse++bs.data.toList.drop i:=by
 intro n
 induction n with
 | zero =>
  intro i r h;unfold ByteArray.toList.loop;rw [if_neg (by omega),List.drop_of_length_le (by simp;omega)];simp
 | succ n ih =>
  intro i r h;unfold ByteArray.toList.loop;have hi:i<bs.size:=by omega
  rw [if_pos hi,ih (i+1) _ (by omega),List.reverse_cons,dS];congr 1;rw [CO (i:=i) (by simpa using hi),List.singleton_append];congr 1;simp [ByteArray.get!,getElem!_pos,hi]
theorem toList_data (s:ByteArray):s.toList=s.data.toList:=by
 unfold ByteArray.toList;rw [ad6 s _ 0 [] rfl];simp
theorem toList_nil (s:ByteArray):s.toList=[]↔s.size=0:=by
 rw [toList_data,<- xO];simp
theorem size_data (s:ByteArray):s.data.toList.length=s.size:=by simp
theorem yD {a b:ByteArray} (h:a.data.toList=b.data.toList):a=b:=by
 cases a;cases b;simpa using h
def isLet (c:Nat):Bool:=(97<=c&&c<=122) || (65<=c&&c<=90)
def CU (c:Nat):Bool:=c==46 || c==44 || c==59 || c==58 || c==33 || c==63 || c==40 || c==41 || c==45
def fE (c:Nat):Int:=if isLet c then 1 else if c=94\/c=126\/c=37 then 2 else if 48<=c/\c<=57 then 3 else if c=39 then 4 else if c=32 then 6 else if CU c then 5 else 0
def xe (c:UInt8):Bool:=isLet c.toNat || (48<=c.toNat&&c.toNat<=57)
def o9 (l:List UInt8):Nat:=l.countP xe
def gN (l:List UInt8):Bool:=1<=l.length&&l.length<=16&&l.all xe
def bq (l:List UInt8):Bool:=if l.getLast? = some 42 then gN l.dropLast&&l.length<=16 else gN l

def oJ (i:Nat) (p:Int):Bool:=if i=0 then p == -1 else decide (0<=p)&&decide (p<i)
def jB (ps:List Int):Bool:=(List.range ps.length).all fun i=>oJ i (gi ps i)
def Gq (ps:List Int) (n i:Nat):Bool:=(List.range n).any fun j=>decide (0<j)&&gi ps j==(i:Int)
def isIn (ps:List Int) (i:Nat):Bool:=Gq ps ps.length i
def cW (ns:List ByteArray) (i:Nat):Bool:=(List.range i).any fun j=>decide (gs ns j=gs ns i)
def mg (ps:List Int) (ns:List ByteArray) (i:Nat):Int :=
 if isIn ps i then (if (gs ns i).size=0 then 0 else 14) else if bq (gs ns i).data.toList then (if cW ns i then 7 else 0) else 14
def bf (f:Nat->Int):Nat->Int
 | 0=>0
 | n+1=>if bf f n=0 then f n else bf f n
def aA (t:ax):Int :=
 if t.ps.length=0 then 5 else if 64<t.ps.length then 4 else if t.ns.length≠t.ps.length then 9
 else if jB t.ps then bf (mg t.ps t.ns) t.ps.length else 2
def ay (ns:List ByteArray):List Int:=((List.range ns.length).filter fun i=>(gs ns i).size≠0).map fun (i:Nat)=>(i:Int)

theorem cG {f:Nat->Int}:∀ {n:Nat},(∀j,j<n->f j=0)->bf f n=0
 | 0,_=>rfl
 | n+1,h=>by
  unfold bf
  rw [if_pos (cG fun j hj=>h j (by omega))];exact h n (by omega)
theorem eX {f:Nat->Int} {k:Nat}:∀ {n:Nat},k<n->(∀j,j<k->f j=0)->f k≠0->bf f n=f k
 | 0,h,_,_=>absurd h (aZ _)
 | n+1,hk,h,hne=>by
  unfold bf
  by_cases e:k=n
  ·subst e;rw [if_pos (cG h)]
  ·rw [eX (by omega) h hne,if_neg hne]
theorem iC {f:Nat->Int}:∀ {n:Nat},bf f n=0->∀j,j<n->f j=0
 | 0,_,j,hj=>absurd hj (aZ _)
 | n+1,h,j,hj=>by
  unfold bf at h
  split at h
  ·rename_i h0
   by_cases e:j=n
   ·subst e;exact h
   ·exact iC h0 j (by omega)
  ·rename_i h0;exact absurd h h0
theorem OB (ps:List Int) (n i:Nat):Gq ps (n+1) i=(Gq ps n i || (decide (0<n)&&gi ps n==(i:Int))):=by
 simp [Gq,List.range_succ,List.any_append]
theorem OC {ps:List Int} {k:Nat} (hk:k<ps.length) (h:oJ k (gi ps k)=false):jB ps=false:=by
 rw [rN];intro e;have:=s8.1 e k (bu.2 hk);simp [h] at this
theorem Hj {ps:List Int} (h:∀j,j<ps.length->oJ j (gi ps j)=true):jB ps=true :=
 s8.2 fun j hj=>h j (bu.1 hj)
theorem F5 {ps:List Int} (h:jB ps=true) {j:Nat} (hj:j<ps.length):oJ j (gi ps j)=true :=
 s8.1 h j (bu.2 hj)
def dr (p:Nat->Bool):Nat->Int
 | 0=>-1
 | n+1=>if dr p n = -1 then (if p n then (n:Int) else -1) else dr p n
theorem qP (p:Nat->Bool) (n:Nat):dr p (n+1)=if dr p n = -1 then (if p n then (n:Int) else -1) else dr p n:=rfl
theorem dZ {p:Nat->Bool}:∀ {n:Nat},(∀j,j<n->p j=false)->dr p n = -1
 | 0,_=>rfl
 | n+1,h=>by
  rw [qP,if_pos (dZ fun j hj=>h j (by omega)),h n (by omega)];rfl
theorem gG {p:Nat->Bool} {k:Nat}:∀ {n:Nat},k<n->(∀j,j<k->p j=false)->p k=true->dr p n=k
 | 0,h,_,_=>absurd h (aZ _)
 | n+1,hk,h,hp=>by
  rw [qP]
  by_cases e:k=n
  ·subst e;rw [if_pos (dZ h),hp];rfl
  ·rw [gG (by omega) h hp,if_neg (by omega)]
theorem CV (p:Nat->Bool) (n:Nat):-1<=dr p n/\dr p n<n/\(dr p n = -1\/0<=dr p n):=by
 induction n with
 | zero=>simp [dr]
 | succ n ih=>rw [qP];split<;>(try split)<;>omega
theorem iK (p:Nat->Bool) (n:Nat):decide (0<=dr p n)=(List.range n).any p:=by
 induction n with
 | zero=>simp [dr]
 | succ n ih =>
  have hl:=CV p n
  rw [pU,List.any_append,<- ih,qP]
  by_cases h:dr p n = -1
  ·rw [if_pos h,h];cases hp:p n<;>simp [hp]
  ·rw [if_neg h];have:0<=dr p n:=by omega
   simp [this]
theorem qQ {p:Nat->Bool} {n k:Nat} (h:dr p n=k):k<n/\p k=true/\∀j,j<k->p j=false:=by
 induction n with
 | zero=>simp [dr] at h
 | succ n ih =>
  rw [qP] at h
  by_cases h1:dr p n = -1
  ·rw [if_pos h1] at h
   by_cases hp:p n=true
   ·rw [if_pos hp] at h
    obtain rfl:n=k:=by omega
    refine ⟨by omega,hp,fun j hj=>?_⟩
    cases hq:p j with
    | false=>rfl
    | true =>
     exfalso
     have:=iK p n
     rw [h1] at this
     have h2:(List.range n).any p=true:=dx.2 ⟨j,bu.2 hj,hq⟩
     rw [h2] at this;simp at this
   ·rw [if_neg hp] at h;omega
  ·rw [if_neg h1] at h
   have:=ih h
   exact ⟨by omega,this.2⟩
end
section
def jI (ns:List ByteArray) (k:Nat):List Int:=((List.range k).filter fun i=>(gs ns i).size≠0).map fun (i:Nat)=>(i:Int)
theorem yE (ns:List ByteArray) (k:Nat):jI ns (k+1)=jI ns k++(if (gs ns k).size=0 then [] else [(k:Int)]):=by
 unfold jI;rw [pU,rO,cg];congr 1;by_cases h:(gs ns k).size=0
 ·have h2:decide ((gs ns k).size≠0)=false:=by rw [decide_eq_false_iff_not];exact fun e=>e h
  rw [if_pos h];simp only [List.filter_cons,h2,List.filter_nil];rfl
 ·have h2:decide ((gs ns k).size≠0)=true:=by rw [decide_eq_true_eq];exact h
  rw [if_neg h];simp only [List.filter_cons,h2,List.filter_nil];rfl
theorem Bi (ns:List ByteArray) (k:Nat):(jI ns k).length<=k:=by
 unfold jI;rw [aD];exact aB (mN _ _) (by simp)
end
section
def cZ (ps:List Int) (n k:Nat):List Nat:=(List.range k).filter fun i=>decide (n<i)&&gi ps i==(n:Int)
def bL (ps:List Int) (n:Nat):List Nat:=cZ ps n ps.length
def iL (l:List Nat):List Int:=l.map fun (i:Nat)=>(i:Int)
theorem lB (ps:List Int) (n k:Nat):cZ ps n (k+1)=cZ ps n k++(if n<k/\gi ps k=n then [k] else []):=by
 unfold cZ;rw [pU,rO];congr 1;by_cases h:n<k/\gi ps k=n
 ·rw [if_pos h];simp [h.1,h.2]
 ·rw [if_neg h]
  have:(decide (n<k)&&gi ps k==(n:Int))=false:=by rw [rN];intro e;apply h;simpa using e
  simp [this]
theorem Gr (ps:List Int) (n:Nat):cZ ps n (n+1)=[]:=by
 unfold cZ;rw [List.filter_eq_nil_iff];intro a ha;have:=bu.1 ha;simp;omega
theorem wA (ps:List Int) (n k:Nat):(cZ ps n k).length<=k:=by
 unfold cZ;exact aB (mN _ _) (by simp)
theorem cK {ps:List Int} {n i:Nat}:i∈bL ps n↔i<ps.length/\n<i/\gi ps i=n:=by
 unfold bL cZ;rw [gP,bu];simp
theorem Oe (a b:List Nat):iL (a++b)=iL a++iL b:=cg
theorem qR {ps:List Int} (h:jB ps=true) (n:Nat):bL ps n≠[]↔isIn ps n=true:=by
 constructor
 ·intro hne
  obtain ⟨i,hi⟩:=CP _ hne;obtain ⟨h1,h2,h3⟩:=cK.1 hi;exact dx.2 ⟨i,bu.2 h1,by simp [h3];omega⟩
 ·intro hin
  obtain ⟨i,hi,h2⟩:=dx.1 hin;have hi:=bu.1 hi;simp at h2;have:=F5 h hi;unfold oJ at this;rw [if_neg (by omega)] at this;simp at this;exact List.ne_nil_of_mem (cK.2 ⟨hi,by omega,h2.2⟩)
end
section
def rR (st:List Int) (least most:Int):Bool:=(List.range st.length).any fun k=>decide (gi st k<least) || decide (most<=gi st k)
def tr (st:List Int) (n:Nat) (least most:Int):Int:=if st.length≠n then 9 else if rR st least most then 2 else 0
def Vr (a b:Nat) (c:Int):Bool:=decide (c<0) || decide (1000<c) || (decide (a=b)&&decide (c≠0))
def afC (a:Nat) (row:List Int) (k:Nat):Bool:=(List.range k).any fun b=>Vr a b (gi row b)
def Tv (cs:List (List Int)) (k:Nat):Bool:=(List.range k).any fun a=>afC a (gl cs a) (gl cs a).length
def Xh (cs:List (List Int)):Bool:=(List.range cs.length).any fun a=>decide ((gl cs a).length≠cs.length)
def ud (cs:List (List Int)):Int:=if cs.length=0 then 5 else if 16<cs.length then 4 else if Xh cs then 9 else if Tv cs cs.length then 2 else 0
theorem any_none {p:Nat->Bool} {n:Nat} (h:∀j,j<n->p j=false):(List.range n).any p=false:=by
 rw [rN];intro e;obtain ⟨j,hj,hp⟩:=dx.1 e;rw [h j (bu.1 hj)] at hp;cases hp
theorem wC {p:Nat->Bool} {n k:Nat} (hk:k<n) (hp:p k=true):(List.range n).any p=true:=dx.2 ⟨k,bu.2 hk,hp⟩
theorem any_false {p:Nat->Bool} {n:Nat} (h:(List.range n).any p=false) {k:Nat} (hk:k<n):p k=false:=by
 cases e:p k with
 | false=>rfl
 | true=>rw [wC hk e] at h;cases h
def mh (t:ax) (st:List Int) (cs:List (List Int)):Int :=
 if aA t≠0 then 1 else if ud cs≠0 then ud cs else tr st (ay t.ns).length (-1) cs.length
end
section
def dg (c row:Nat->Int):Nat->Int×Int
 | 0=>(-1,0)
 | k+1=>if row k<0 then dg c row k else if (dg c row k).1<0\/c k+row k<(dg c row k).1 then (c k+row k,(k:Int)) else dg c row k
theorem rS (c row:Nat->Int) (k:Nat):dg c row (k+1)=if row k<0 then dg c row k else if (dg c row k).1<0\/c k+row k<(dg c row k).1 then (c k+row k,(k:Int)) else dg c row k:=rfl
theorem OD {c row:Nat->Int} {A:Int} (hA:0<=A) (hc:∀k,0<=c k/\c k<=1000) (hr:∀k,row k<=A) (k:Nat):-1<=(dg c row k).1/\(dg c row k).1<=A+1000:=by
 induction k with
 | zero=>simp [dg];omega
 | succ k ih =>
  rw [rS]
  have:=hc k;have:=hr k
  split
  ·exact ih
  ·split
   ·simp;omega
   ·exact ih
end
section
def eA (f:Nat->Int):Nat->Int
 | 0=>0
 | n+1=>eA f n+f n
theorem jJ (f:Nat->Int) (n:Nat):eA f (n+1)=eA f n+f n:=rfl
theorem ku {f g:Nat->Int}:∀ {n:Nat},(∀c,c<n->f c=g c)->eA f n=eA g n
 | 0,_=>rfl
 | n+1,h=>by rw [jJ,jJ,ku fun c hc=>h c (by omega),h n (by omega)]
theorem Hl (f g:Nat->Int):∀n:Nat,eA (fun c=>f c+g c) n=eA f n+eA g n
 | 0=>rfl
 | n+1=>by rw [jJ,jJ,jJ,Hl f g n];omega
theorem Ep {f g:Nat->Int}:∀ {n:Nat},(∀c,c<n->f c<=g c)->eA f n<=eA g n
 | 0,_=>qm _
 | n+1,h=>by
  rw [jJ,jJ]
  have:=Ep (f:=f) (g:=g) (n:=n) fun c hc=>h c (by omega)
  have:=h n (by omega);omega
theorem Ab:∀n:Nat,eA (fun _=>0) n=0
 | 0=>rfl
 | n+1=>by rw [jJ,Ab n];rfl
theorem Bj {f:Nat->Int} {n:Nat} (h:∀c,c<n->0<=f c):0<=eA f n:=by
 have:=Ep (f:=fun _=>0) (g:=f) (n:=n) h;rw [Ab] at this;exact this
theorem OE (k:Nat) (x:Int):∀n:Nat,eA (fun c=>if c=k then x else 0) n=if k<n then x else 0
 | 0=>rfl
 | n+1=>by
  rw [jJ,OE k x n]
  by_cases h:n=k
  ·subst h;simp
  ·by_cases h2:k<n
   ·simp [h,h2];omega
   ·simp [h,h2];omega
theorem LY (ps:List Int) (i:Nat) (g:Nat->Int):∀n:Nat,((cZ ps i n).map g).sum=eA (fun c=>if i<c/\gi ps c=i then g c else 0) n
 | 0=>rfl
 | n+1=>by
  rw [lB,cg,List.sum_append,LY ps i g n,jJ]
  split<;>simp
def Er (n m:Nat) (par own:Nat->Int) (cost:Nat->Nat->Int) (look:Nat->Nat->Int) (i s:Nat):Int :=
 (if 0<=own i/\own i≠s then -1 else 0)+eA (fun c=>if i<c/\par c=i then (dg (cost s) (look c) m).1 else 0) n
def Vs (n m:Nat) (par own:Nat->Int) (cost:Nat->Nat->Int):Nat->Nat->Nat->Int
 | 0=>fun _ _=>0
 | d+1=>Er n m par own cost (Vs n m par own cost d)
def tab (n m:Nat) (par own:Nat->Int) (cost:Nat->Nat->Int) (i s:Nat):Int:=Vs n m par own cost n i s
theorem vR {c c' r r':Nat->Int}:∀ {k:Nat},(∀j,j<k->c j=c' j)->(∀j,j<k->r j=r' j)->dg c r k=dg c' r' k
 | 0,_,_=>rfl
 | k+1,h1,h2=>by
  rw [rS,rS,vR (fun j hj=>h1 j (by omega)) (fun j hj=>h2 j (by omega)),h1 k (by omega),h2 k (by omega)]
section
variable {n m:Nat} {par own:Nat->Int} {cost:Nat->Nat->Int}
theorem LZ:∀ {d e i:Nat},n<=i+d->n<=i+e->i<n->∀s,Vs n m par own cost d i s=Vs n m par own cost e i s
 | 0,_,_,h,_,hi,_=>by omega
 | _,0,_,_,h,hi,_=>by omega
 | d+1,e+1,i,h1,h2,hi,s=>by
  show Er _ _ _ _ _ _ _ _=Er _ _ _ _ _ _ _ _
  unfold Er
  congr 1
  refine ku fun c hc=>?_
  split
  ·rename_i hk
   rw [vR (fun _ _=>rfl) fun j _=>LZ (d:=d) (e:=e) (by omega) (by omega) hc j]
  ·rfl
theorem Xi {i:Nat} (hi:i<n) (s:Nat):tab n m par own cost i s=Er n m par own cost (tab n m par own cost) i s:=by
 unfold tab;obtain ⟨d,rfl⟩:∃d,n=d+1:=⟨n - 1,by omega⟩;show Er _ _ _ _ _ _ _ _=_;unfold Er;congr 1;refine ku fun c hc=>?_;split
 ·rename_i hk
  rw [vR (fun _ _=>rfl) fun j _=>LZ (d:=d) (e:=d+1) (by omega) (by omega) hc j]
 ·rfl
structure afD (n m:Nat) (par own:Nat->Int) (cost:Nat->Nat->Int):Prop where
 m1:0<m
 alp:∀c,0<c->c<n->0<=par c
 aii:∀c,c<n->par c<c
 aiZ:∀i,i<n -> -1<=own i/\own i<m
 Vt:∀a b,a<m->b<m->0<=cost a b/\cost a b<=1000
 leaf:∀i c,c<n->i<c->par c=i->own i = -1
theorem CW {c row:Nat->Int} {A:Int} (hA:0<=A):∀ {k:Nat},(∀j,j<k->0<=c j/\c j<=1000)->(∀j,j<k->row j<=A) ->
  ((dg c row k).1 = -1/\(∀j,j<k->row j<0)) \/
  (∃o:Nat,(dg c row k).2=o/\o<k/\0<=row o/\(dg c row k).1=c o+row o/\(∀j,j<k->0<=row j->(dg c row k).1<=c j+row j)/\(∀j,j<o->0<=row j->(dg c row k).1<c j+row j))
 | 0,_,_=>.inl ⟨rfl,fun j hj=>absurd hj (aZ _)⟩
 | k+1,hc,hr=>by
  have ih:=CW (c:=c) (row:=row) hA (k:=k) (fun j hj=>hc j (by omega)) fun j hj=>hr j (by omega)
  have Es:=hc k (by omega)
  rw [rS]
  by_cases h0:row k<0
  ·rw [if_pos h0]
   rcases ih with ⟨h1,h2⟩ | ⟨o,h1,h2,h3,h4,h5,h6⟩
   ·exact .inl ⟨h1,fun j hj=>if e:j=k then e ▸ h0 else h2 j (by omega)⟩
   ·refine .inr ⟨o,h1,by omega,h3,h4,fun j hj hj0=>?_,h6⟩
    by_cases e:j=k
    ·subst e;omega
    ·exact h5 j (by omega) hj0
  ·rw [if_neg h0]
   rcases ih with ⟨h1,h2⟩ | ⟨o,h1,h2,h3,h4,h5,h6⟩
   ·rw [if_pos (.inl (by omega))]
    refine .inr ⟨k,rfl,by omega,by omega,rfl,fun j hj hj0=>?_,fun j hj hj0=>?_⟩
    ·by_cases e:j=k
     ·subst e;exact qm _
     ·have:=h2 j (by omega);omega
    ·have:=h2 j (by omega);omega
   ·have ho:=hc o (by omega)
    by_cases hlt:c k+row k<(dg c row k).1
    ·rw [if_pos (.inr hlt)]
     refine .inr ⟨k,rfl,by omega,by omega,rfl,fun j hj hj0=>?_,fun j hj hj0=>?_⟩
     ·by_cases e:j=k
      ·subst e;exact qm _
      ·have:=h5 j (by omega) hj0;simp only;omega
     ·have:=h5 j (by omega) hj0;simp only;omega
    ·rw [if_neg (by intro h;omega)]
     refine .inr ⟨o,h1,by omega,h3,h4,fun j hj hj0=>?_,h6⟩
     by_cases e:j=k
     ·subst e;omega
     ·exact h5 j (by omega) hj0
end
end
section
section
variable {n m:Nat} {par own:Nat->Int} {cost:Nat->Nat->Int}
def uF (n:Nat) (par:Nat->Int):Nat->Nat->Int
 | 0,_=>0
 | d+1,i=>eA (fun c=>if i<c/\par c=i then uF n par d c+1000 else 0) n
def ub (n:Nat) (par:Nat->Int) (i:Nat):Int:=uF n par n i
theorem Tw:∀ {d e i:Nat},n<=i+d->n<=i+e->i<n->uF n par d i=uF n par e i
 | 0,_,_,h,_,hi=>by omega
 | _,0,_,_,h,hi=>by omega
 | d+1,e+1,i,h1,h2,hi=>by
  show eA _ _=eA _ _
  refine ku fun c hc=>?_
  split
  ·rename_i hk
   rw [Tw (d:=d) (e:=e) (by omega) (by omega) hc]
  ·rfl
theorem adF {i:Nat} (hi:i<n):ub n par i=eA (fun c=>if i<c/\par c=i then ub n par c+1000 else 0) n:=by
 unfold ub;obtain ⟨d,rfl⟩:∃d,n=d+1:=⟨n - 1,by omega⟩;show eA _ _=_;refine ku fun c hc=>?_;split
 ·rename_i hk
  rw [Tw (d:=d) (e:=d+1) (by omega) (by omega) hc]
 ·rfl
theorem Xj (d:Nat):∀i:Nat,0<=uF n par d i:=by
 induction d with
 | zero=>intro i;exact qm _
 | succ d ih =>
  intro i
  exact Bj fun c _=>by
   have:=ih c
   split<;>omega
theorem Et (i:Nat):0<=ub n par i:=Xj _ _
def Jh (n:Nat) (par:Nat->Int) (k:Nat):Int:=eA (fun c=>if k<=c/\par c<k then ub n par c+1000 else 0) n
theorem aat (h:∀c,c<n->par c<c) {k:Nat} (hk:k<n):Jh n par k=Jh n par (k+1)+1000:=by
 have h1:Jh n par k=eA (fun c=>if k+1<=c/\par c<k then ub n par c+1000 else 0) n+eA (fun c=>if c=k then ub n par k+1000 else 0) n:=by
  rw [<- Hl];unfold Jh;refine ku fun c hc=>?_;by_cases e:c=k
  ·subst e
   have:=h c hc;rw [if_pos ⟨ah _,this⟩,if_neg (by omega),if_pos rfl];omega
  ·by_cases h2:k<=c/\par c<k
   ·rw [if_pos h2,if_pos ⟨by omega,h2.2⟩,if_neg e];omega
   ·rw [if_neg h2,if_neg (fun h3=>h2 ⟨by omega,h3.2⟩),if_neg e];rfl
 have h2:Jh n par (k+1)=eA (fun c=>if k+1<=c/\par c<k then ub n par c+1000 else 0) n+eA (fun c=>if k<c/\par c=k then ub n par c+1000 else 0) n:=by
  rw [<- Hl];unfold Jh;refine ku fun c _=>?_;by_cases h3:k+1<=c
  ·by_cases h4:par c=k
   ·rw [if_pos ⟨h3,by omega⟩,if_neg (by omega),if_pos ⟨h3,h4⟩];omega
   ·by_cases h5:par c<k
    ·rw [if_pos ⟨h3,by omega⟩,if_pos ⟨h3,h5⟩,if_neg (fun h=>h4 h.2)];omega
    ·rw [if_neg (by omega),if_neg (fun h=>h5 h.2),if_neg (fun h=>h4 h.2)];rfl
  ·rw [if_neg (fun h=>h3 h.1),if_neg (fun h=>h3 h.1),if_neg (fun h=>h3 (by omega))];rfl
 rw [OE,if_pos hk] at h1;rw [<- adF hk] at h2;omega
theorem Xk (h:∀c,c<n->par c<c):∀ {d k:Nat},k+d=n->Jh n par k=1000*(d:Int)
 | 0,k,e=>by
  have:Jh n par k=eA (fun _=>0) n:=ku fun c hc=>by rw [if_neg (by omega)]
  rw [this,Ab];rfl
 | d+1,k,e=>by
  rw [aat h (by omega),Xk h (d:=d) (k:=k+1) (by omega)];omega
theorem Tx {f:Nat->Int}:∀ {n k:Nat},(∀c,c<n->0<=f c)->k<n->f k<=eA f n
 | 0,_,_,h=>absurd h (aZ _)
 | n+1,k,h,hk=>by
  rw [jJ]
  by_cases e:k=n
  ·subst e;have:=Bj (f:=f) (n:=k) fun c hc=>h c (by omega);omega
  ·have:=Tx (f:=f) (n:=n) (k:=k) (fun c hc=>h c (by omega)) (by omega)
   have:=h n (by omega);omega
theorem aij (h:∀c,c<n->par c<c) {k:Nat} (hk:k<n):ub n par k+1000<=1000*((n - k:Nat):Int):=by
 have h1:=Xk h (d:=n - k) (k:=k) (by omega)
 have h2:=Tx (f:=fun c=>if k<=c/\par c<k then ub n par c+1000 else 0) (n:=n) (k:=k) (fun c _=>by
  have:=Et (n:=n) (par:=par) c;show 0<=(if k<=c/\par c<k then ub n par c+1000 else 0)
  split<;>omega) hk
 rw [if_pos ⟨ah _,h k hk⟩] at h2;unfold Jh at h1;omega
theorem OG (F:afD n m par own cost):∀ {d i:Nat},n<=i+d->i<n ->
  (∀s,s<m -> -1<=tab n m par own cost i s/\tab n m par own cost i s<=ub n par i)/\(∃s,s<m/\0<=tab n m par own cost i s) /\
  (own i = -1->∀s,s<m->0<=tab n m par own cost i s)/\(0<=own i->∀s,s<m->tab n m par own cost i s=if own i=s then 0 else -1)
 | 0,i,h,hi=>by omega
 | d+1,i,h,hi=>by
  have afE:∀s,s<m->∀c,c<n->i<c->0<=(dg (cost s) (tab n m par own cost c) m).1/\(dg (cost s) (tab n m par own cost c) m).1<=ub n par c+1000:=by
   intro s hs c hc hic
   obtain ⟨h1,⟨j,hj,hj0⟩,_⟩:=OG F (d:=d) (i:=c) (by omega) hc
   rcases CW (c:=cost s) (row:=tab n m par own cost c) (A:=ub n par c) (Et _) (k:=m) (fun j hj=>F.Vt s j hs hj) (fun j hj=>(h1 j hj).2) with ⟨_,h3⟩ | ⟨o,_,ho,OH,h4,h5,_⟩
   ·have:=h3 j hj;omega
   ·have:=h5 j hj hj0
    have:=(h1 j hj).2
    have:=F.Vt s j hs hj
    have:=F.Vt s o hs ho
    constructor<;>omega
  have Vu:∀s,s<m->0<=eA (fun c=>if i<c/\par c=i then (dg (cost s) (tab n m par own cost c) m).1 else 0) n/\eA (fun c=>if i<c/\par c=i then (dg (cost s) (tab n m par own cost c) m).1 else 0) n<=ub n par i:=by
   intro s hs
   constructor
   ·exact Bj fun c hc=>by
     split
     ·rename_i h2;exact (afE s hs c hc h2.1).1
     ·exact qm _
   ·rw [adF hi]
    exact Ep fun c hc=>by
     split
     ·rename_i h2;exact (afE s hs c hc h2.1).2
     ·exact qm _
  have heq:∀s,tab n m par own cost i s=(if 0<=own i/\own i≠s then -1 else 0)+eA (fun c=>if i<c/\par c=i then (dg (cost s) (tab n m par own cost c) m).1 else 0) n:=fun s=>Xi hi s
  have OJ:=Et (n:=n) (par:=par) i
  have ho:=F.aiZ i hi
  refine ⟨fun s hs=>?_,?_,fun h0 s hs=>?_,fun h0 s hs=>?_⟩
  ·rw [heq s];have:=Vu s hs;split<;>omega
  ·by_cases h0:0<=own i
   ·refine ⟨(own i).toNat,by omega,?_⟩
    rw [heq,if_neg (by omega)];have:=Vu (own i).toNat (by omega);omega
   ·refine ⟨0,F.m1,?_⟩
    rw [heq,if_neg (by omega)];have:=Vu 0 F.m1;omega
  ·rw [heq,if_neg (by omega)];have:=Vu s hs;omega
  ·have hz:eA (fun c=>if i<c/\par c=i then (dg (cost s) (tab n m par own cost c) m).1 else 0) n=0:=by
    refine (ku (g:=fun _=>0) fun c hc=>?_).trans (Ab n)
    rw [if_neg];intro h2;have:=F.leaf i c hc h2.1 h2.2;omega
   rw [heq,hz]
   by_cases e:own i=s
   ·rw [if_neg (fun h=>h.2 e),if_pos e];rfl
   ·rw [if_pos ⟨h0,e⟩,if_neg e];rfl
end
end
section
def mj (ns:List ByteArray) (i:Nat):Int:=dr (fun j=>decide ((i:Int)=gi (ay ns) j)) (ay ns).length
def Ho (ns:List ByteArray) (st:List Int) (i:Nat):Int:=if 0<=mj ns i then gi st (mj ns i).toNat else -1
def Ot (cs:List (List Int)) (a b:Nat):Int:=gi (gl cs a) b
def yF (t:ax) (st:List Int) (cs:List (List Int)) (i s:Nat):Int:=tab t.ps.length cs.length (gi t.ps) (Ho t.ns st) (Ot cs) i s
def bZ (t:ax) (st:List Int) (cs:List (List Int)) (i:Nat):List Int:=(List.range cs.length).map (yF t st cs i)
theorem lD (t:ax) (st:List Int) (cs:List (List Int)) (i:Nat):(bZ t st cs i).length=cs.length:=by simp [bZ]
theorem oK (t:ax) (st:List Int) (cs:List (List Int)) (i:Nat) {s:Nat} (hs:s<cs.length):gi (bZ t st cs i) s=yF t st cs i s:=by
 simp [gi,bZ,hs]
def sw (t:ax) (st:List Int) (cs:List (List Int)) (s c:Nat):Int:=(dg (gi (gl cs s)) (gi (bZ t st cs c)) (bZ t st cs c).length).1
theorem ad7 (t:ax) (st:List Int) (cs:List (List Int)) (s c:Nat):sw t st cs s c=(dg (Ot cs s) (yF t st cs c) cs.length).1:=by
 unfold sw;rw [lD];have h:dg (gi (gl cs s)) (gi (bZ t st cs c)) cs.length=dg (Ot cs s) (yF t st cs c) cs.length:=vR (fun _ _=>rfl) fun j hj=>oK t st cs c hj;rw [h]
def jO (t:ax) (st:List Int) (i s:Nat):Int:=if 0<=Ho t.ns st i/\Ho t.ns st i≠s then -1 else 0
theorem ad8 (t:ax) (st:List Int) (cs:List (List Int)) {i:Nat} (hi:i<t.ps.length) (s:Nat):yF t st cs i s=jO t st i s+((bL t.ps i).map (sw t st cs s)).sum:=by
 unfold yF;rw [Xi hi];unfold Er bL;rw [LY];show jO t st i s+_=_;congr 1;exact ku fun c _=>by
  split
  ·exact (ad7 t st cs s c).symm
  ·rfl
end
section
theorem SV {t:ax} {st:List Int} {cs:List (List Int)} (h:mh t st cs=0):aA t=0/\ud cs=0/\tr st (ay t.ns).length (-1) cs.length=0:=by
 unfold mh at h;by_cases h1:aA t=0
 ·rw [if_neg (fun e=>e h1)] at h
  by_cases h2:ud cs=0
  ·rw [if_neg (fun e=>e h2)] at h;exact ⟨h1,h2,h⟩
  ·rw [if_pos h2] at h;exact absurd h h2
 ·rw [if_pos h1] at h;cases h
theorem aH {t:ax} (h:aA t=0):0<t.ps.length/\t.ps.length<=64/\t.ns.length=t.ps.length/\jB t.ps=true/\∀i,i<t.ps.length->mg t.ps t.ns i=0:=by
 unfold aA at h;split at h
 ·cases h
 ·split at h
  ·cases h
  ·split at h
   ·cases h
   ·split at h
    ·exact ⟨by omega,by omega,by omega,‹_›,iC h⟩
    ·cases h
theorem Gs {cs:List (List Int)} (h:ud cs=0):0<cs.length/\cs.length<=16/\(∀a,a<cs.length->(gl cs a).length=cs.length)/\(∀a k,0<=gi (gl cs a) k/\gi (gl cs a) k<=1000)/\∀a,a<cs.length->gi (gl cs a) a=0:=by
 unfold ud at h;split at h
 ·cases h
 ·split at h
  ·cases h
  ·split at h
   ·cases h
   ·rename_i hl
    split at h
    ·cases h
    ·rename_i hm
     (have hl2:Xh cs=false:=by simpa using hl);(have hm2:Tv cs cs.length=false:=by simpa using hm);(have hlen:∀a,a<cs.length->(gl cs a).length=cs.length:=fun a ha=>by have:=any_false hl2 ha;simpa using this);have qT:∀a b,a<cs.length->b<(gl cs a).length->Vr a b (gi (gl cs a) b)=false:=fun a b ha hb=>any_false (any_false hm2 ha) hb;refine ⟨by omega,by omega,hlen,fun a k=>?_,fun a ha=>?_⟩
     ·by_cases ha:a<cs.length
      ·by_cases hk:k<(gl cs a).length
       ·have:=qT a k ha hk
        simp [Vr] at this;omega
       ·have:gi (gl cs a) k=0:=by simp [gi,List.getElem?_eq_none (by omega:(gl cs a).length<=k)]
        omega
      ·have:gl cs a=[]:=by simp [gl,List.getElem?_eq_none (by omega:cs.length<=a)]
       rw [this];simp [gi]
     ·have:=qT a a ha (by rw [hlen a ha];exact ha)
      simp [Vr] at this;exact this.2
theorem lK {ns:List ByteArray} {x:Int}:x∈ay ns↔∃i:Nat,x=i/\i<ns.length/\(gs ns i).size≠0:=by
 unfold ay;rw [bI];constructor
 ·rintro ⟨i,hi,rfl⟩
  rw [gP,bu] at hi;exact ⟨i,rfl,hi.1,by simpa using hi.2⟩
 ·rintro ⟨i,rfl,h1,h2⟩
  exact ⟨i,by rw [gP,bu];exact ⟨h1,by simpa using h2⟩,rfl⟩
theorem sK (ns:List ByteArray):(ay ns).length<=ns.length:=by
 unfold ay;rw [aD];exact aB (mN _ _) (by simp)
theorem sL {l:List Int} {k:Nat} (h:k<l.length):gi l k∈l:=by simp [gi,h]
theorem Eu {ns:List ByteArray} {i:Nat} (h:0<=mj ns i):(mj ns i).toNat<(ay ns).length/\gi (ay ns) (mj ns i).toNat=i:=by
 unfold mj at h ⊢;generalize hx:dr (fun j=>decide ((i:Int)=gi (ay ns) j)) (ay ns).length=x at *;obtain ⟨k,rfl⟩:=oa h;have:=qQ hx;rw [fc];exact ⟨this.1,by have:=this.2.1;simpa using (of_decide_eq_true this).symm⟩
structure Valid (t:ax) (st:List Int) (cs:List (List Int)):Prop where
 tree:aA t=0
 mat:ud cs=0
 len:st.length=(ay t.ns).length
 good:rR st (-1) cs.length=false
theorem OL {t:ax} {st:List Int} {cs:List (List Int)} (h:mh t st cs=0):Valid t st cs:=by
 obtain ⟨h1,h2,h3⟩:=SV h;unfold tr at h3;split at h3
 ·cases h3
 ·split at h3
  ·cases h3
  ·exact ⟨h1,h2,by omega,by simpa using ‹¬rR st (-1) cs.length=true›⟩
theorem Valid.par {t:ax} {st:List Int} {cs:List (List Int)} (h:Valid t st cs):mh t st cs=0:=by
 unfold mh tr;rw [if_neg (fun e=>e h.tree),if_neg (fun e=>e h.mat),if_neg (fun e=>e h.len),h.good];rfl
theorem OM {ps:List Int} (h:jB ps=true) {c:Nat} (hc:c<ps.length):gi ps c<c/\(0<c->0<=gi ps c)/\(c=0->gi ps c = -1):=by
 have:=F5 h hc;unfold oJ at this;split at this
 ·simp at this;omega
 ·simp at this;omega
theorem vS {t:ax} (h:aA t=0) {i c:Nat} (hc:c<t.ps.length) (hi:i<c) (hp:gi t.ps c=i):(gs t.ns i).size=0:=by
 obtain ⟨_,_,_,hok,hn⟩:=aH h;have hin:isIn t.ps i=true:=dx.2 ⟨c,bu.2 hc,by simp [hp];omega⟩;have:=hn i (by omega);unfold mg at this;rw [if_pos hin] at this;by_cases e:(gs t.ns i).size=0
 ·exact e
 ·rw [if_neg e] at this;cases this
theorem CX {t:ax} (h:aA t=0) {i:Nat} (hi:i<t.ps.length) (hin:isIn t.ps i=false):bq (gs t.ns i).data.toList=true/\cW t.ns i=false:=by
 obtain ⟨_,_,_,hok,hn⟩:=aH h;have:=hn i hi;unfold mg at this;rw [hin] at this;cases h1:bq (gs t.ns i).data.toList
 ·rw [h1] at this;cases this
 ·cases h2:cW t.ns i
  ·exact ⟨rfl,rfl⟩
  ·rw [h1,h2] at this;cases this
theorem Valid.fine {t:ax} {st:List Int} {cs:List (List Int)} (h:Valid t st cs):afD t.ps.length cs.length (gi t.ps) (Ho t.ns st) (Ot cs):=by
 obtain ⟨h1,h2,h3,hok,hn⟩:=aH h.tree;obtain ⟨m1,m2,m3,m4,m5⟩:=Gs h.mat;refine ⟨m1,fun c h0 hc=>(OM hok hc).2.1 h0,fun c hc=>(OM hok hc).1,fun i _=>?_,fun a b _ _=>m4 a b,fun i c hc hic hp=>?_⟩
 ·unfold Ho
  split
  ·rename_i h0
   have hl:=Eu h0;have hb:=any_false h.good (k:=(mj t.ns i).toNat) (by rw [h.len];exact hl.1);simp at hb;omega
  ·omega
 ·unfold Ho
  rw [if_neg];intro h0;have hl:=Eu h0;have hm:(i:Int)∈ay t.ns:=by rw [<- hl.2];exact sL hl.1
  obtain ⟨j,e,_,hne⟩:=lK.1 hm;obtain rfl:i=j:=by omega
  exact hne (vS h.tree hc hic hp)
theorem Valid.tb {t:ax} {st:List Int} {cs:List (List Int)} (h:Valid t st cs) (j s:Nat) (hj:j<t.ps.length):-1<=gi (bZ t st cs j) s/\gi (bZ t st cs j) s<=100000:=by
 by_cases hs:s<cs.length
 ·rw [oK t st cs j hs]
  have h1:=(OG h.fine (d:=t.ps.length) (i:=j) (by omega) hj).1 s hs;have h2:=aij (par:=gi t.ps) h.fine.aii hj;obtain ⟨_,h3,_⟩:=aH h.tree;unfold yF;constructor<;>omega
 ·have:gi (bZ t st cs j) s=0:=by simp [gi,bZ,hs]
  omega
def fK (t:ax) (st:List Int) (cs:List (List Int)):Int:=if mh t st cs=0 then (dg (fun _=>0) (gi (bZ t st cs 0)) cs.length).1 else 0
end
section
section
variable {t:ax} {st:List Int} {cs:List (List Int)}
theorem ad9 (hv:Valid t st cs) {c:Nat->Int} (hc:∀j,j<cs.length->0<=c j/\c j<=1000) {k:Nat} (hk:k<t.ps.length) :
  ∃o:Nat,(dg c (gi (bZ t st cs k)) cs.length).2=o/\o<cs.length/\0<=gi (bZ t st cs k) o/\(dg c (gi (bZ t st cs k)) cs.length).1=c o+gi (bZ t st cs k) o /\
   (∀j,j<cs.length->0<=gi (bZ t st cs k) j->(dg c (gi (bZ t st cs k)) cs.length).1<=c j+gi (bZ t st cs k) j) /\
   (∀j,j<o->0<=gi (bZ t st cs k) j->(dg c (gi (bZ t st cs k)) cs.length).1<c j+gi (bZ t st cs k) j):=by
 obtain ⟨_,⟨s,hs,hs0⟩,_⟩:=OG hv.fine (d:=t.ps.length) (i:=k) (by omega) hk;have hs1:0<=gi (bZ t st cs k) s:=by rw [oK _ _ _ _ hs];exact hs0
 rcases CW (c:=c) (row:=gi (bZ t st cs k)) (A:=100000) (by omega) (k:=cs.length) hc (fun j _=>(hv.tb k j hk).2) with ⟨_,h⟩ | h
 ·have:=h s hs;omega
 ·exact h
end
end
section
end
section
end
section
theorem vg {ns:List ByteArray} {i:Nat} (hi:i<(ay ns).length):∃k:Nat,gi (ay ns) i=k/\k<ns.length/\(gs ns k).size≠0:=by
 obtain ⟨k,e,h1,h2⟩:=lK.1 (sL hi);exact ⟨k,e,h1,h2⟩
section
variable {t:ax} {st:List Int} {cs:List (List Int)}
theorem Xl (h:Valid t st cs):fK t st cs=(dg (fun _=>0) (gi (bZ t st cs 0)) cs.length).1:=by unfold fK;rw [if_pos h.par]
theorem OO (h:Valid t st cs):∃o:Nat,(dg (fun _=>0) (gi (bZ t st cs 0)) cs.length).2=o/\o<cs.length/\0<=yF t st cs 0 o/\fK t st cs=yF t st cs 0 o /\
  ∀j,j<cs.length->0<=yF t st cs 0 j->fK t st cs<=yF t st cs 0 j:=by
 have xg:=(aH h.tree).1;obtain ⟨o,h1,h2,h3,h4,h5,_⟩:=ad9 h (c:=fun _=>0) (fun _ _=>by omega) xg;rw [Xl h];rw [oK _ _ _ _ h2] at h3 h4;refine ⟨o,h1,h2,h3,by rw [h4];omega,fun j hj hj0=>?_⟩;have:=h5 j hj (by rw [oK _ _ _ _ hj];exact hj0);rw [oK _ _ _ _ hj] at this;omega
theorem Ev (h:Valid t st cs):0<=fK t st cs:=by obtain ⟨o,_,_,h3,h4,_⟩:=OO h;omega
theorem L3 (h:Valid t st cs):fK t st cs<=100000:=by
 obtain ⟨o,_,h2,_,h4,_⟩:=OO h;have:=(h.tb 0 o (aH h.tree).1).2;rw [oK _ _ _ _ h2] at this;omega
end
end
section
end
section
end
section
open Go.RowKit Go.Deep

def aq (S:Nat->Prop) (w:World) (v:Value) (n:Nat) (f:Nat->Value):Prop :=
 ∃p cap,v=.slice p n cap/\n<=cap/\(n=0\/∃b off,p=some ⟨b,off,none⟩/\S b/\∀k,k<n->w.cell? ⟨b,off+k,none⟩=some (f k))
def af (S:Nat->Prop) (w:World) (v:Value) (xs:List Int):Prop:=aq S w v xs.length (fun k=>.int .i64 (gi xs k))
def aj (S:Nat->Prop) (w:World) (v:Value) (xs:List ByteArray):Prop:=aq S w v xs.length (fun k=>.string (gs xs k))
def aT (S:Nat->Prop) (w:World) (v:Value) (xs:List (List Int)):Prop:=∃f,aq S w v xs.length f/\∀k,k<xs.length->af S w (f k) (gl xs k)
def aG (S:Nat->Prop) (w:World) (v:Value) (t:ax):Prop:=∃P N,v=.agg #[P,N]/\af S w P t.ps/\aj S w N t.ns

def Kept (S:Nat->Prop) (w w':World):Prop:=∀b,S b->b<w.heap.size->w'.heap[b]? = w.heap[b]?
def Any (_:Nat):Prop:=True

theorem aq.keep {S:Nat->Prop} {w w':World} {v:Value} {n:Nat} {f:Nat->Value} (h:aq S w v n f) (k:Kept S w w'):aq S w' v n f:=by
 obtain ⟨p,cap,rfl,hn,h⟩:=h;refine ⟨p,cap,rfl,hn,?_⟩;rcases h with h | ⟨b,off,rfl,hS,h⟩
 ·exact .inl h
 ·refine .inr ⟨b,off,rfl,hS,fun i hi=>?_⟩
  have hlt:b<w.heap.size:=dL w _ (h i hi);rw [cU (a:=⟨b,off+i,none⟩) (k b hS hlt)];exact h i hi
theorem af.keep {S:Nat->Prop} {w w':World} {v:Value} {xs:List Int} (h:af S w v xs) (k:Kept S w w'):af S w' v xs:=aq.keep h k
theorem aj.keep {S:Nat->Prop} {w w':World} {v:Value} {xs:List ByteArray} (h:aj S w v xs) (k:Kept S w w'):aj S w' v xs:=aq.keep h k
theorem aT.keep {S:Nat->Prop} {w w':World} {v:Value} {xs:List (List Int)} (h:aT S w v xs) (k:Kept S w w'):aT S w' v xs:=by
 obtain ⟨f,h,hr⟩:=h;exact ⟨f,h.keep k,fun i hi=>(hr i hi).keep k⟩
theorem aG.keep {S:Nat->Prop} {w w':World} {v:Value} {t:ax} (h:aG S w v t) (k:Kept S w w'):aG S w' v t:=by
 obtain ⟨P,N,rfl,h1,h2⟩:=h;exact ⟨P,N,rfl,h1.keep k,h2.keep k⟩
theorem aq.sub {S T:Nat->Prop} {w:World} {v:Value} {n:Nat} {f:Nat->Value} (h:aq S w v n f) (k:∀b,S b->b<w.heap.size->T b):aq T w v n f:=by
 obtain ⟨p,cap,rfl,hn,h⟩:=h;refine ⟨p,cap,rfl,hn,?_⟩;rcases h with h | ⟨b,off,rfl,hS,h⟩
 ·exact .inl h
 ·by_cases hn0:n=0
  ·exact .inl hn0
  ·exact .inr ⟨b,off,rfl,k b hS (dL w _ (h 0 (by omega))),h⟩
theorem af.sub {S T:Nat->Prop} {w:World} {v:Value} {xs:List Int} (h:af S w v xs) (k:∀b,S b->b<w.heap.size->T b):af T w v xs:=aq.sub h k
theorem aj.sub {S T:Nat->Prop} {w:World} {v:Value} {xs:List ByteArray} (h:aj S w v xs) (k:∀b,S b->b<w.heap.size->T b):aj T w v xs:=aq.sub h k
theorem aT.sub {S T:Nat->Prop} {w:World} {v:Value} {xs:List (List Int)} (h:aT S w v xs) (k:∀b,S b->b<w.heap.size->T b):aT T w v xs:=by
 obtain ⟨f,h,hr⟩:=h;exact ⟨f,h.sub k,fun i hi=>(hr i hi).sub k⟩
theorem aG.sub {S T:Nat->Prop} {w:World} {v:Value} {t:ax} (h:aG S w v t) (k:∀b,S b->b<w.heap.size->T b):aG T w v t:=by
 obtain ⟨P,N,rfl,h1,h2⟩:=h;exact ⟨P,N,rfl,h1.sub k,h2.sub k⟩
theorem Kept.below {S:Nat->Prop} {a b:World} (h:Below a.heap.size a b):Kept S a b:=fun i _ hl=>h.block i hl
theorem aq.open {S:Nat->Prop} {w:World} {v:Value} {n:Nat} {f:Nat->Value} (h:aq S w v n f) :
  ∃p cap,v=.slice p n cap/\n<=cap/\∀k,k<n->∃b off,p=some ⟨b,off,none⟩/\w.cell? ⟨b,off+k,none⟩=some (f k):=by
 obtain ⟨p,cap,rfl,hn,h⟩:=h;refine ⟨p,cap,rfl,hn,fun k hk=>?_⟩;rcases h with h | ⟨b,off,rfl,_,h⟩
 ·omega
 ·exact ⟨b,off,rfl,h k hk⟩
theorem below_drewN {B:Nat} {a w:World} (h:Below B a w) (n:Nat):Below B a (w.drewN n):=⟨h.os,h.tape,h.output,h.size,h.block⟩
theorem aC {k:IntKind} {a b:Int} (h:a=b):Ending.returned (.int k a)=.returned (.int k b):=by rw [h]
theorem aO {a b:Bool} (h:a=b):Ending.returned (.bool a)=.returned (.bool b):=by rw [h]
end
end Go.Proofs.YthgabkgmkolobaaGreat
namespace Go.Proofs
open Go.Shelf
def Tryz.lays106_ren:Go.Shelf.Ren:=⟨fun | 106=>242 | 213=>272 | 265=>289 | n=>n,fun | 9=>9 | 3=>3 | n=>n,fun | n=>n⟩
theorem Tryz.lays106:Go.Proofs.Lays.n106 Tryz.prog Tryz.lays106_ren:={
 mixed:=by kernel_rfl
 f106:=Tryz.func242.trans (congrArg some (by kernel_rfl))
 f213:=Tryz.func272.trans (congrArg some (by kernel_rfl))
 f265:=Tryz.func289.trans (congrArg some (by kernel_rfl))
 t3:=Tryz.underlying3
 a3:=Tryz.isAgg3
 z3:=Tryz.sizeOf3
 v3:=Tryz.zeroValue3
 t9:=Tryz.underlying9
 a9:=Tryz.isAgg9
 z9:=Tryz.sizeOf9
 v9:=Tryz.zeroValue9 }
open Go.RowKit in
theorem Tryz.strings_Compare (a b:ByteArray) (w:World) :
  Calls Tryz.prog 242 #[.string a,.string b] w fun e w'=>e=.returned (.int .i64 (Lib.compareBytes a.data.toList b.data.toList))/\w'=w:=Any.strings_Compare Tryz.lays106 a b w
def Tryz.lays137_ren:Go.Shelf.Ren:=⟨fun | 137=>261 | 217=>277 | 266=>290 | n=>n,fun | 9=>9 | 5=>5 | 3=>3 | n=>n,fun | n=>n⟩
theorem Tryz.lays137:Go.Proofs.Lays.n137 Tryz.prog Tryz.lays137_ren:={
 mixed:=by kernel_rfl
 f137:=Tryz.func261.trans (congrArg some (by kernel_rfl))
 f217:=Tryz.func277.trans (congrArg some (by kernel_rfl))
 f266:=Tryz.func290.trans (congrArg some (by kernel_rfl))
 t3:=Tryz.underlying3
 a3:=Tryz.isAgg3
 z3:=Tryz.sizeOf3
 v3:=Tryz.zeroValue3
 t5:=Tryz.underlying5
 a5:=Tryz.isAgg5
 z5:=Tryz.sizeOf5
 v5:=Tryz.zeroValue5
 t9:=Tryz.underlying9
 a9:=Tryz.isAgg9
 z9:=Tryz.sizeOf9
 v9:=Tryz.zeroValue9 }
open Go.RowKit in
theorem Tryz.strings_IndexByte (s:ByteArray) (c:Int) (w:World) :
  Calls Tryz.prog 261 #[.string s,.int .u8 c] w fun e w'=>e=.returned (.int .i64 (Lib.indexByte s.data.toList c.toNat.toUInt8))/\w'=w:=Any.strings_IndexByte Tryz.lays137 s c w
end Go.Proofs
namespace Go.Proofs.YthgabkgmkolobaaGreat
open Go.RowKit Go.Deep
def afF:ByteArray:=⟨#[46,44,59,58,33,63,40,41,45]⟩
theorem afG:∀c,c<256->(decide (0<=Lib.indexByte afF.data.toList c.toUInt8))=CU c:=by
 decide +kernel
theorem ofk {a b:Int} (h:a=b) {w w':World} (hw:w=w'):Ending.returned (.int .i64 a)=.returned (.int .i64 b)/\w=w':=⟨by rw [h],hw⟩
theorem aea {c:Nat} {x:Int} (hc:c<256) (hx:Lib.indexByte [46,44,59,58,33,63,40,41,45] ((c:Int).toNat).toUInt8=x):0<=x↔CU c=true:=by
 have h:=afG c hc;rw [<- h,<- hx];simp [afF]
theorem afH (c:Nat) (hc:c<256) (w:World):Calls Tryz.prog 239 #[.int .u8 c] w fun e w'=>e=.returned (.int .i64 (fE c))/\w=w':=by
 go_in;go_wp2_with (go_at_call 261;refine (Tryz.strings_IndexByte _ _ _).mono ?_;rintro e w' ⟨rfl,rfl⟩;generalize hx:Lib.indexByte _ _=x)
 all_goals (try go_ret)
 all_goals (refine ofk ?_ rfl)
 all_goals (first | (have h5:=aea hc ‹Lib.indexByte _ _=_›;unfold fE isLet;by_cases hp:CU c=true<;>simp only [hp] at*<;> simp at*<;> omega) | (simp [fE,isLet,CU] at *;done) | (simp [fE,isLet,CU] at *;omega))
end Go.Proofs.YthgabkgmkolobaaGreat
