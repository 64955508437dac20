/- The contract of slices.SortFunc at entries of trees: the laying. Contracts of the library .. -/
import Derived.TacticsIn
import Derived.RangeFuncRecord
import Derived.MapKept
import Derived.Lib.Builder
import Derived.Laws.World
import Derived.Laws.AppendOwn
import Derived.Below
import Derived.AtR
import Derived.Lib.Hide
import Derived.Shelf.SlGeneric
import Derived.Shelf.SlSortCmp.WholeK
import Derived.Shelf.SlSortCmp.NoneTotal
import Derived.Ground.SlsfProg
import Derived.Ground.NamesProg
import Derived.Test.YtfomhlbhcifgbaaGreatDoorProg
import Derived.Shelf.Bits.Mul64
import Derived.Shelf.Strings.IndexAnyAll
import Derived.Ground.Names2Prog
import Derived.Shelf.Strings.BuilderK
import Derived.Shelf.SlLaysM
import Derived.Ground.SlgmProg
import Derived.Shelf.Small.Strs
set_option maxRecDepth 100000
namespace Go.Proofs
open Go.Shelf
def Tryz.sortEnt_ren:Go.Shelf.Ren:=⟨fun | 6=>45 | 15=>58 | 14=>77 | 28=>96 | 29=>97 | 20=>113 | 21=>114 | 22=>115 | 23=>116 | 24=>117 | 25=>118 | 26=>119 | 27=>120 | 46=>144 | 47=>132 | 48=>133 | 49=>145 | 50=>146 | 57=>158 | n=>n,fun | 22=>57 | 24=>62 | 25=>92 | 3=>3 | 39=>67 | 0=>0 | 53=>97 | 55=>100 | 4=>4 | 46=>152 | 45=>151 | 50=>157 | 5=>5 | 9=>9 | 66=>185 | 70=>189 | 76=>203 | 77=>142 | n=>n,fun | n=>n⟩
theorem Tryz.sortEnt:Go.Proofs.SlLaysF0.n6 Tryz.prog Tryz.sortEnt_ren:={
 mixed:=by kernel_rfl
 f6:=⟨Tryz.f45.name,by decide,Tryz.func45.trans (congrArg some (by kernel_rfl))⟩
 f14:=⟨Tryz.f77.name,by decide,Tryz.func77.trans (congrArg some (by kernel_rfl))⟩
 f15:=Tryz.func58.trans (congrArg some (by kernel_rfl))
 f20:=⟨Tryz.f113.name,by decide,Tryz.func113.trans (congrArg some (by kernel_rfl))⟩
 f21:=⟨Tryz.f114.name,by decide,Tryz.func114.trans (congrArg some (by kernel_rfl))⟩
 f22:=⟨Tryz.f115.name,by decide,Tryz.func115.trans (congrArg some (by kernel_rfl))⟩
 f23:=⟨Tryz.f116.name,by decide,Tryz.func116.trans (congrArg some (by kernel_rfl))⟩
 f24:=⟨Tryz.f117.name,by decide,Tryz.func117.trans (congrArg some (by kernel_rfl))⟩
 f25:=⟨Tryz.f118.name,by decide,Tryz.func118.trans (congrArg some (by kernel_rfl))⟩
 f26:=⟨Tryz.f119.name,by decide,Tryz.func119.trans (congrArg some (by kernel_rfl))⟩
 f27:=⟨Tryz.f120.name,by decide,Tryz.func120.trans (congrArg some (by kernel_rfl))⟩
 f28:=Tryz.func96.trans (congrArg some (by kernel_rfl))
 f29:=Tryz.func97.trans (congrArg some (by kernel_rfl))
 f46:=⟨Tryz.f144.name,by decide,Tryz.func144.trans (congrArg some (by kernel_rfl))⟩
 f47:=Tryz.func132.trans (congrArg some (by kernel_rfl))
 f48:=Tryz.func133.trans (congrArg some (by kernel_rfl))
 f49:=⟨Tryz.f145.name,by decide,Tryz.func145.trans (congrArg some (by kernel_rfl))⟩
 f50:=⟨Tryz.f146.name,by decide,Tryz.func146.trans (congrArg some (by kernel_rfl))⟩
 f57:=⟨Tryz.f158.name,by decide,Tryz.func158.trans (congrArg some (by kernel_rfl))⟩
 t0:=Tryz.underlying0
 a0:=Tryz.isAgg0
 z0:=Tryz.sizeOf0
 v0:=Tryz.zeroValue0
 t3:=Tryz.underlying3
 a3:=Tryz.isAgg3
 z3:=Tryz.sizeOf3
 v3:=Tryz.zeroValue3
 t4:=Tryz.underlying4
 a4:=Tryz.isAgg4
 z4:=Tryz.sizeOf4
 v4:=Tryz.zeroValue4
 t5:=Tryz.underlying5
 a5:=Tryz.isAgg5
 z5:=Tryz.sizeOf5
 v5:=Tryz.zeroValue5
 t9:=Tryz.underlying9
 a9:=Tryz.isAgg9
 z9:=Tryz.sizeOf9
 v9:=Tryz.zeroValue9
 t22:=Tryz.underlying57
 a22:=Tryz.isAgg57
 z22:=Tryz.sizeOf57
 v22:=Tryz.zeroValue57
 t25:=Tryz.underlying92
 a25:=Tryz.isAgg92
 z25:=Tryz.sizeOf92
 v25:=Tryz.zeroValue92
 t39:=Tryz.underlying67
 a39:=Tryz.isAgg67
 z39:=Tryz.sizeOf67
 v39:=Tryz.zeroValue67
 t45:=Tryz.underlying151
 a45:=Tryz.isAgg151
 z45:=Tryz.sizeOf151
 v45:=Tryz.zeroValue151
 t46:=Tryz.underlying152
 a46:=Tryz.isAgg152
 z46:=Tryz.sizeOf152
 v46:=Tryz.zeroValue152
 t50:=Tryz.underlying157
 a50:=Tryz.isAgg157
 z50:=Tryz.sizeOf157
 v50:=Tryz.zeroValue157
 t53:=Tryz.underlying97
 a53:=Tryz.isAgg97
 z53:=Tryz.sizeOf97
 v53:=Tryz.zeroValue97
 t55:=Tryz.underlying100
 a55:=Tryz.isAgg100
 z55:=Tryz.sizeOf100
 v55:=Tryz.zeroValue100
 t66:=Tryz.underlying185
 a66:=Tryz.isAgg185
 z66:=Tryz.sizeOf185
 v66:=Tryz.zeroValue185
 t70:=Tryz.underlying189
 a70:=Tryz.isAgg189
 z70:=Tryz.sizeOf189
 v70:=Tryz.zeroValue189
 t76:=Tryz.underlying203
 a76:=Tryz.isAgg203
 z76:=Tryz.sizeOf203
 v76:=Tryz.zeroValue203
 t77:=Tryz.underlying142
 a77:=Tryz.isAgg142
 z77:=Tryz.sizeOf142
 v77:=Tryz.zeroValue142 }
end Go.Proofs
namespace Go.Proofs
open Go.Shelf
def Tryz.lays212_ren:Go.Shelf.Ren:=⟨fun | 212=>27 | 263=>51 | 264=>52 | n=>n,fun | 46=>67 | 51=>97 | 53=>100 | 146=>98 | 148=>101 | n=>n,fun | n=>n⟩
theorem Tryz.lays212:Go.Proofs.Lays.n212 Tryz.prog Tryz.lays212_ren:={
 mixed:=by kernel_rfl
 f212:=Tryz.func27.trans (congrArg some (by kernel_rfl))
 f263:=Tryz.func51.trans (congrArg some (by kernel_rfl))
 f264:=Tryz.func52.trans (congrArg some (by kernel_rfl))
 t46:=Tryz.underlying67
 a46:=Tryz.isAgg67
 z46:=Tryz.sizeOf67
 v46:=Tryz.zeroValue67
 t51:=Tryz.underlying97
 a51:=Tryz.isAgg97
 z51:=Tryz.sizeOf97
 v51:=Tryz.zeroValue97
 t53:=Tryz.underlying100
 a53:=Tryz.isAgg100
 z53:=Tryz.sizeOf100
 v53:=Tryz.zeroValue100
 t146:=Tryz.underlying98
 a146:=Tryz.isAgg98
 z146:=Tryz.sizeOf98
 v146:=Tryz.zeroValue98
 t148:=Tryz.underlying101
 a148:=Tryz.isAgg101
 z148:=Tryz.sizeOf101
 v148:=Tryz.zeroValue101 }
theorem Tryz.bits_Mul (x y:Nat) (hx:x<18446744073709551616) (hy:y<18446744073709551616) (w:World) :
  Calls Tryz.prog 27 #[.int .u64 x,.int .u64 y] w fun e w'=>e=.returned (.tuple #[.int .u64 ((x*y / 18446744073709551616:Nat):Int),.int .u64 ((x*y % 18446744073709551616:Nat):Int)])/\w'=w:=Any.bits_Mul Tryz.lays212 x y hx hy w
end Go.Proofs
namespace Go.Proofs.YtfomhlbhcifgbaaGreatDoor
open Go.RowKit in
theorem e9 (w:World):∃x,x=w:=⟨_,rfl⟩
abbrev KO:=@Array.getElem?_eq_none
abbrev bq:=@Array.getElem?_eq_some_iff
abbrev Vh:=@Array.getElem?_modify
abbrev iZ:=@Array.getElem?_toList
abbrev uY:=@Array.length_toList
abbrev jL:=@Array.replicate_succ
abbrev jM:=@Array.replicate_zero
abbrev aO:=@Go.RowKit.Below.block
abbrev uZ:=@Go.RowKit.Below.heap_alloc
abbrev Ad:=@Go.RowKit.Below.heap_setCell
abbrev b7:=@Go.RowKit.Below.refl
abbrev jm:=@Go.RowKit.Below.setCell
abbrev dI:=@Go.RowKit.Below.trans
abbrev fN:=@Bool.and_eq_true
abbrev ve:=@Bool.eq_false_iff
abbrev nM:=@Bool.eq_iff_iff
abbrev vg:=@Bool.or_eq_true
abbrev A1:=@ByteArray.data_extract
abbrev o7:=@Int.eq_ofNat_of_zero_le
abbrev jN:=@Int.le_refl
abbrev ei:=@Int.toNat_natCast
abbrev sD:=@Go.Lib.cell_of_heap
abbrev qH:=@List.Perm.refl
abbrev sF:=@List.all_eq_true
abbrev yP:=@List.any_eq_false
abbrev cR:=@List.any_eq_true
abbrev cU:=@List.append_assoc
abbrev gm:=@List.append_nil
abbrev qI:=@List.append_toArray
abbrev cw:=@List.cons_append
abbrev A2:=@List.contains_iff_mem
abbrev nN:=@List.eq_nil_of_length_eq_zero
abbrev qJ:=@List.ext_getElem
abbrev vh:=@List.ext_getElem?
abbrev o8:=@List.filter_append
abbrev o9:=@List.flatMap_append
abbrev iI:=@List.flatMap_cons
abbrev mN:=@List.getD_eq_getElem?_getD
abbrev EZ:=@List.getElem?_append
abbrev KP:=@List.getElem?_append_left
abbrev kB:=@List.getElem?_eq_getElem
abbrev vq:=@List.getElem?_eq_none
abbrev mO:=@List.getElem?_eq_some_iff
abbrev iJ:=@List.getElem?_map
abbrev pg:=@List.getElem_mem
abbrev sG:=@List.getElem_of_mem
abbrev sH:=@List.getLast?_cons_cons
abbrev bG:=@List.length_append
abbrev bB:=@List.length_cons
abbrev A3:=@List.length_eq_zero_iff
abbrev mP:=@List.length_filter_le
abbrev aD:=@List.length_map
abbrev eW:=@List.length_nil
abbrev yQ:=@List.length_pos_iff
abbrev pq:=@List.length_replicate
abbrev vt:=@List.length_tail
abbrev iy:=@List.length_take
abbrev dJ:=@List.lookup_cons
abbrev cm:=@List.map_append
abbrev iK:=@List.map_congr_left
abbrev cV:=@List.map_cons
abbrev vu:=@List.map_flatMap
abbrev jO:=@List.map_map
abbrev eD:=@List.mem_append
abbrev bQ:=@List.mem_cons
abbrev yR:=@List.mem_cons_of_mem
abbrev sI:=@List.mem_cons_self
abbrev nO:=@List.mem_filter
abbrev jo:=@List.mem_flatMap
abbrev ek:=@List.mem_map
abbrev A4:=@List.mem_of_getElem?
abbrev vv:=@List.mem_of_mem_take
abbrev bX:=@List.mem_range
abbrev eN:=@List.mem_singleton
abbrev dz:=@List.nil_append
abbrev sJ:=@List.nodup_append
abbrev sK:=@List.nodup_cons
abbrev yS:=@List.pairwise_cons
abbrev vw:=@List.pairwise_iff_getElem
abbrev gH:=@List.push_toArray
abbrev sL:=@List.range_succ
abbrev gI:=@List.size_toArray
abbrev A5:=@List.take_append_drop
abbrev gq:=@List.take_length
abbrev sM:=@List.take_of_length_le
abbrev iL:=@List.take_succ_eq_append_getElem
abbrev yT:=@Go.MapKept.run_getObj_map
abbrev mQ:=@Nat.le_of_eq
abbrev aj:=@Nat.le_refl
abbrev jP:=@Nat.le_succ
abbrev aV:=@Nat.le_trans
abbrev lM:=@Nat.lt_of_lt_of_le
abbrev kC:=@Nat.lt_succ_self
abbrev qK:=@Nat.mul_le_mul_left
abbrev cz:=@Nat.not_lt_zero
abbrev jQ:=@Nat.zero_add
abbrev bg:=@Nat.zero_le
abbrev fe:=@Ne.symm
abbrev iM:=@Go.Oper.semAt_eq
abbrev vz:=@Go.Oper.semAt_some
abbrev iN:=@Option.map_eq_some_iff
abbrev um:=@Option.some.injEq
abbrev iO:=@Prod.mk.injEq
abbrev rj:=@UInt8.lt_iff_toNat_lt
abbrev nP:=@Go.World.alloc_heap_new
abbrev fS:=@Go.World.block_lt_of_cell?
abbrev abz:=@Go.World.cell?_alloc_new
abbrev cW:=@Go.World.cell?_of_block
abbrev mq:=@Go.World.ownsRow.lt
abbrev eA:=@Go.World.putObj_heap_other
abbrev xm:=@Go.World.putObj_heap_same
abbrev aN:=@Go.World.size_alloc
abbrev gX:=@Go.World.size_setCell
open Go.RowKit in
theorem aa {p : Prop} (h : p) : Hid p := h
theorem av {α : Type} {i : Nat} {a : α} {l : List α} : l.toArray.setIfInBounds i a = (l.set i a).toArray := List.setIfInBounds_toArray ..
theorem ax {α : Type} {a b : α} {l : List α} : (a :: l).set 0 b = b :: l := List.set_cons_zero ..
theorem ay {α : Type} {n : Nat} {a b : α} {l : List α} : (a :: l).set (n + 1) b = a :: l.set n b := List.set_cons_succ ..
inductive BT (α:Type) where
 | leaf (x:α)
 | node (a b:BT α)
namespace BT
def map {α β:Type} (f:α->β):BT α->BT β
 | leaf x=>leaf (f x)
 | node a b=>node (map f a) (map f b)
def gN {α:Type}:BT α->List α
 | leaf x=>[x]
 | node a b=>gN a++gN b
inductive E8 {α:Type}:BT α->BT α->Prop
 | leaf (x:α):E8 (leaf x) (leaf x)
 | node {a a' b b':BT α}:E8 a a'->E8 b b'->E8 (node a b) (node a' b')
 | swap {a a' b b':BT α}:E8 a a'->E8 b b'->E8 (node a b) (node b' a')
end BT
section
variable {α β:Type} [Inhabited α] [Inhabited β]
def cr (p:Nat->Bool) (L:List α) (n:Nat):List α:=((List.range n).filter p).map fun i=>L.getD i default
theorem lN (p:Nat->Bool) (L:List α) (n:Nat):cr p L (n+1)=cr p L n++if p n then [L.getD n default] else []:=by
 unfold cr;rw [sL,o8,cm];congr 1;cases h:p n<;>simp [h]
theorem xq (f:α->β) (p:Nat->Bool) (L:List α):∀ {n:Nat},n<=L.length->cr p (L.map f) n=(cr p L n).map f
 | 0,_=>rfl
 | n+1,h=>by
  rw [lN,lN,cm,xq f p L (by omega)]
  congr 1
  split
  ·have:n<L.length:=h
   simp [this]
  ·rfl
theorem tN (p:Nat->Bool) (L:List α):∀ {n:Nat},n<=L.length->(cr p L n++cr (fun i=>!p i) L n).Perm (L.take n)
 | 0,_=>by simp [cr]
 | n+1,h=>by
  have hn:n<L.length:=h
  have ih:=tN p L (n:=n) (by omega)
  rw [lN,lN,iL hn]
  have hg:L.getD n default=L[n]:=by simp [hn]
  rw [hg]
  cases hp:p n
  ·simp only [Bool.false_eq_true,if_false,gm,Bool.not_false,if_true]
   rw [<- cU]
   exact ih.append_right _
  ·simp only [if_true,Bool.not_true,Bool.false_eq_true,if_false,gm]
   refine List.Perm.trans ?_ (ih.append_right _)
   rw [cU,cU]
   exact List.Perm.append_left _ List.perm_append_comm
theorem Dn {p:Nat->Bool} {L:List α} {n:Nat} {x:α}:x∈cr p L n↔∃i,i<n/\p i=true/\L.getD i default=x:=by
 unfold cr;rw [ek];constructor
 ·rintro ⟨i,hi,h⟩
  rw [nO,bX] at hi;exact ⟨i,hi.1,hi.2,h⟩
 ·rintro ⟨i,h1,h2,h3⟩
  exact ⟨i,nO.2 ⟨bX.2 h1,h2⟩,h3⟩
theorem sN (p:Nat->Bool) (L:List α) (n:Nat):(cr p L n).length<=n:=by
 unfold cr;rw [aD];exact aV (mP _ _) (by simp)
def rt:Nat->List α->List (BT α)
 | 0,_=>[]
 | _+1,[]=>[]
 | _+1,[x]=>[.leaf x]
 | d+1,x::y::L=>(List.range' 1 (2 ^ (y::L).length - 1)).flatMap fun bits =>
   (rt d (x::cr (fun i=>!bits.testBit i) (y::L) (y::L).length)).flatMap fun a =>
    (rt d (cr (fun i=>bits.testBit i) (y::L) (y::L).length)).map fun b=>.node a b
theorem A6 (f:α->β):∀(d:Nat) (L:List α),rt d (L.map f)=(rt d L).map (BT.map f)
 | 0,_=>rfl
 | _+1,[]=>rfl
 | _+1,[x]=>rfl
 | d+1,x::y::L=>by
  rw [cV,cV,rt,rt,vu]
  have hl:(f y::L.map f).length=(y::L).length:=by simp
  rw [hl]
  congr 1
  funext bits
  have e:f y::L.map f=(y::L).map f:=rfl
  rw [e,xq f _ _ (aj _),xq f _ _ (aj _),<- cV,A6 f d,A6 f d,vu,List.flatMap_map]
  congr 1
  funext a
  rw [jO,jO]
  rfl
theorem xu:∀(d:Nat) (L:List α),∀r∈rt d L,r.gN.Perm L
 | 0,_=>fun r h=>by cases h
 | _+1,[]=>fun r h=>by cases h
 | _+1,[x]=>fun r h=>by rw [rt,eN] at h;rw [h];exact qH _
 | d+1,x::y::L=>fun r h=>by
  rw [rt,jo] at h
  obtain ⟨bits,hb,h⟩:=h
  rw [jo] at h
  obtain ⟨a,ha,h⟩:=h
  obtain ⟨b,hb2,rfl⟩:=ek.1 h
  have h1:=xu d _ a ha
  have h2:=xu d _ b hb2
  have h3:=tN (fun i=>bits.testBit i) (y::L) (aj _)
  rw [gq] at h3
  rw [BT.gN]
  refine (h1.append h2).trans ?_
  rw [cw]
  exact (List.perm_append_comm.trans h3).cons _
end
end Go.Proofs.YtfomhlbhcifgbaaGreatDoor
namespace Go.Proofs
open Go.Shelf
def Tryz.idxA_ren:Go.Shelf.Ren:=⟨fun | 153=>38 | 152=>60 | 226=>61 | 227=>62 | 228=>63 | 137=>100 | 119=>101 | 224=>102 | 225=>103 | 217=>137 | 266=>155 | n=>n,fun | 9=>9 | 3=>3 | 4=>4 | 5=>5 | 21=>21 | 117=>115 | 116=>114 | 0=>0 | 46=>67 | 124=>165 | n=>n,fun | n=>n⟩
theorem Tryz.idxA:Go.Proofs.Lays.n153 Tryz.prog Tryz.idxA_ren:={
 mixed:=by kernel_rfl
 f119:=Tryz.func101.trans (congrArg some (by kernel_rfl))
 f137:=Tryz.func100.trans (congrArg some (by kernel_rfl))
 f152:=Tryz.func60.trans (congrArg some (by kernel_rfl))
 f153:=Tryz.func38.trans (congrArg some (by kernel_rfl))
 f217:=Tryz.func137.trans (congrArg some (by kernel_rfl))
 f224:=Tryz.func102.trans (congrArg some (by kernel_rfl))
 f225:=Tryz.func103.trans (congrArg some (by kernel_rfl))
 f226:=Tryz.func61.trans (congrArg some (by kernel_rfl))
 f227:=Tryz.func62.trans (congrArg some (by kernel_rfl))
 f228:=Tryz.func63.trans (congrArg some (by kernel_rfl))
 f266:=Tryz.func155.trans (congrArg some (by kernel_rfl))
 t0:=Tryz.underlying0
 a0:=Tryz.isAgg0
 z0:=Tryz.sizeOf0
 v0:=Tryz.zeroValue0
 t3:=Tryz.underlying3
 a3:=Tryz.isAgg3
 z3:=Tryz.sizeOf3
 v3:=Tryz.zeroValue3
 t4:=Tryz.underlying4
 a4:=Tryz.isAgg4
 z4:=Tryz.sizeOf4
 v4:=Tryz.zeroValue4
 t5:=Tryz.underlying5
 a5:=Tryz.isAgg5
 z5:=Tryz.sizeOf5
 v5:=Tryz.zeroValue5
 t9:=Tryz.underlying9
 a9:=Tryz.isAgg9
 z9:=Tryz.sizeOf9
 v9:=Tryz.zeroValue9
 t21:=Tryz.underlying21
 a21:=Tryz.isAgg21
 z21:=Tryz.sizeOf21
 v21:=Tryz.zeroValue21
 t46:=Tryz.underlying67
 a46:=Tryz.isAgg67
 z46:=Tryz.sizeOf67
 v46:=Tryz.zeroValue67
 t116:=Tryz.underlying114
 a116:=Tryz.isAgg114
 z116:=Tryz.sizeOf114
 t117:=Tryz.underlying115
 a117:=Tryz.isAgg115
 z117:=Tryz.sizeOf115
 v117:=Tryz.zeroValue115
 t124:=Tryz.underlying165
 a124:=Tryz.isAgg165
 z124:=Tryz.sizeOf165
 v124:=Tryz.zeroValue165 }
end Go.Proofs
namespace Go.Proofs
open Go.Shelf
def Tryz.bldG_ren:Go.Shelf.Ren:=⟨fun | 169=>76 | n=>n,fun | 70=>127 | 9=>9 | 0=>0 | 72=>130 | 37=>128 | 127=>169 | 3=>3 | 5=>5 | n=>n,fun | n=>n⟩
theorem Tryz.bldG:Go.Proofs.Lays.n169 Tryz.prog Tryz.bldG_ren:={
 mixed:=by kernel_rfl
 f169:=Tryz.func76.trans (congrArg some (by kernel_rfl))
 t0:=Tryz.underlying0
 a0:=Tryz.isAgg0
 z0:=Tryz.sizeOf0
 v0:=Tryz.zeroValue0
 t3:=Tryz.underlying3
 a3:=Tryz.isAgg3
 z3:=Tryz.sizeOf3
 v3:=Tryz.zeroValue3
 t9:=Tryz.underlying9
 a9:=Tryz.isAgg9
 z9:=Tryz.sizeOf9
 v9:=Tryz.zeroValue9
 t37:=Tryz.underlying128
 a37:=Tryz.isAgg128
 z37:=Tryz.sizeOf128
 v37:=Tryz.zeroValue128
 t70:=Tryz.underlying127
 a70:=Tryz.isAgg127
 z70:=Tryz.sizeOf127
 v70:=Tryz.zeroValue127
 t72:=Tryz.underlying130
 a72:=Tryz.isAgg130
 z72:=Tryz.sizeOf130
 v72:=Tryz.zeroValue130
 t127:=Tryz.underlying169
 a127:=Tryz.isAgg169
 z127:=Tryz.sizeOf169
 v127:=Tryz.zeroValue169 }
end Go.Proofs
namespace Go.Proofs
open Go.Shelf
def Tryz.sortZ_ren:Go.Shelf.Ren:=⟨fun | 5=>34 | 8=>58 | 7=>57 | 19=>96 | 20=>97 | 10=>87 | 11=>88 | 12=>89 | 13=>90 | 14=>91 | 15=>92 | 16=>93 | 17=>94 | 18=>95 | 30=>131 | 31=>132 | 32=>133 | 33=>134 | 34=>135 | 35=>136 | 40=>154 | n=>n,fun | 23=>27 | 25=>3 | 3=>3 | 32=>67 | 22=>27 | 0=>0 | 44=>97 | 46=>100 | 4=>4 | 36=>152 | 35=>151 | 41=>157 | 5=>5 | 9=>9 | 53=>185 | 57=>189 | 63=>203 | 64=>142 | n=>n,fun | n=>n⟩
theorem Tryz.sortZ:Go.Proofs.SlLaysM.n5 Tryz.prog Tryz.sortZ_ren:={
 mixed:=by kernel_rfl
 f5:=⟨Tryz.f34.name,by decide,Tryz.func34.trans (congrArg some (by kernel_rfl))⟩
 f7:=⟨Tryz.f57.name,by decide,Tryz.func57.trans (congrArg some (by kernel_rfl))⟩
 f8:=Tryz.func58.trans (congrArg some (by kernel_rfl))
 f10:=⟨Tryz.f87.name,by decide,Tryz.func87.trans (congrArg some (by kernel_rfl))⟩
 f11:=⟨Tryz.f88.name,by decide,Tryz.func88.trans (congrArg some (by kernel_rfl))⟩
 f12:=⟨Tryz.f89.name,by decide,Tryz.func89.trans (congrArg some (by kernel_rfl))⟩
 f13:=⟨Tryz.f90.name,by decide,Tryz.func90.trans (congrArg some (by kernel_rfl))⟩
 f14:=⟨Tryz.f91.name,by decide,Tryz.func91.trans (congrArg some (by kernel_rfl))⟩
 f15:=⟨Tryz.f92.name,by decide,Tryz.func92.trans (congrArg some (by kernel_rfl))⟩
 f16:=⟨Tryz.f93.name,by decide,Tryz.func93.trans (congrArg some (by kernel_rfl))⟩
 f17:=⟨Tryz.f94.name,by decide,Tryz.func94.trans (congrArg some (by kernel_rfl))⟩
 f18:=⟨Tryz.f95.name,by decide,Tryz.func95.trans (congrArg some (by kernel_rfl))⟩
 f19:=Tryz.func96.trans (congrArg some (by kernel_rfl))
 f20:=Tryz.func97.trans (congrArg some (by kernel_rfl))
 f30:=⟨Tryz.f131.name,by decide,Tryz.func131.trans (congrArg some (by kernel_rfl))⟩
 f31:=Tryz.func132.trans (congrArg some (by kernel_rfl))
 f32:=Tryz.func133.trans (congrArg some (by kernel_rfl))
 f33:=⟨Tryz.f134.name,by decide,Tryz.func134.trans (congrArg some (by kernel_rfl))⟩
 f34:=⟨Tryz.f135.name,by decide,Tryz.func135.trans (congrArg some (by kernel_rfl))⟩
 f35:=⟨Tryz.f136.name,by decide,Tryz.func136.trans (congrArg some (by kernel_rfl))⟩
 f40:=⟨Tryz.f154.name,by decide,Tryz.func154.trans (congrArg some (by kernel_rfl))⟩
 t0:=Tryz.underlying0
 a0:=Tryz.isAgg0
 z0:=Tryz.sizeOf0
 v0:=Tryz.zeroValue0
 t3:=Tryz.underlying3
 a3:=Tryz.isAgg3
 z3:=Tryz.sizeOf3
 v3:=Tryz.zeroValue3
 t4:=Tryz.underlying4
 a4:=Tryz.isAgg4
 z4:=Tryz.sizeOf4
 v4:=Tryz.zeroValue4
 t5:=Tryz.underlying5
 a5:=Tryz.isAgg5
 z5:=Tryz.sizeOf5
 v5:=Tryz.zeroValue5
 t9:=Tryz.underlying9
 a9:=Tryz.isAgg9
 z9:=Tryz.sizeOf9
 v9:=Tryz.zeroValue9
 t22:=Tryz.underlying27
 a22:=Tryz.isAgg27
 z22:=Tryz.sizeOf27
 v22:=Tryz.zeroValue27
 t23:=Tryz.underlying27
 a23:=Tryz.isAgg27
 z23:=Tryz.sizeOf27
 v23:=Tryz.zeroValue27
 t25:=Tryz.underlying3
 a25:=Tryz.isAgg3
 z25:=Tryz.sizeOf3
 v25:=Tryz.zeroValue3
 t32:=Tryz.underlying67
 a32:=Tryz.isAgg67
 z32:=Tryz.sizeOf67
 v32:=Tryz.zeroValue67
 t35:=Tryz.underlying151
 a35:=Tryz.isAgg151
 z35:=Tryz.sizeOf151
 v35:=Tryz.zeroValue151
 t36:=Tryz.underlying152
 a36:=Tryz.isAgg152
 z36:=Tryz.sizeOf152
 v36:=Tryz.zeroValue152
 t41:=Tryz.underlying157
 a41:=Tryz.isAgg157
 z41:=Tryz.sizeOf157
 v41:=Tryz.zeroValue157
 t44:=Tryz.underlying97
 a44:=Tryz.isAgg97
 z44:=Tryz.sizeOf97
 v44:=Tryz.zeroValue97
 t46:=Tryz.underlying100
 a46:=Tryz.isAgg100
 z46:=Tryz.sizeOf100
 v46:=Tryz.zeroValue100
 t53:=Tryz.underlying185
 a53:=Tryz.isAgg185
 z53:=Tryz.sizeOf185
 v53:=Tryz.zeroValue185
 t57:=Tryz.underlying189
 a57:=Tryz.isAgg189
 z57:=Tryz.sizeOf189
 v57:=Tryz.zeroValue189
 t63:=Tryz.underlying203
 a63:=Tryz.isAgg203
 z63:=Tryz.sizeOf203
 v63:=Tryz.zeroValue203
 t64:=Tryz.underlying142
 a64:=Tryz.isAgg142
 z64:=Tryz.sizeOf142
 v64:=Tryz.zeroValue142 }
end Go.Proofs
namespace Go.Proofs
open Go.Shelf
def Tryz.sortNode_ren:Go.Shelf.Ren:=⟨fun | 6=>140 | 15=>58 | 14=>156 | 28=>96 | 29=>97 | 20=>161 | 21=>162 | 22=>163 | 23=>164 | 24=>165 | 25=>166 | 26=>167 | 27=>168 | 46=>170 | 47=>132 | 48=>133 | 49=>171 | 50=>172 | 57=>173 | n=>n,fun | 22=>79 | 24=>78 | 25=>193 | 3=>3 | 39=>67 | 0=>0 | 53=>97 | 55=>100 | 4=>4 | 46=>152 | 45=>151 | 50=>157 | 5=>5 | 9=>9 | 66=>185 | 70=>189 | 76=>203 | 77=>142 | n=>n,fun | n=>n⟩
theorem Tryz.sortNode:Go.Proofs.SlLaysF.n6 Tryz.prog Tryz.sortNode_ren:={
 mixed:=by kernel_rfl
 f6:=⟨Tryz.f140.name,by decide,Tryz.func140.trans (congrArg some (by kernel_rfl))⟩
 f14:=⟨Tryz.f156.name,by decide,Tryz.func156.trans (congrArg some (by kernel_rfl))⟩
 f15:=Tryz.func58.trans (congrArg some (by kernel_rfl))
 f20:=⟨Tryz.f161.name,by decide,Tryz.func161.trans (congrArg some (by kernel_rfl))⟩
 f21:=⟨Tryz.f162.name,by decide,Tryz.func162.trans (congrArg some (by kernel_rfl))⟩
 f22:=⟨Tryz.f163.name,by decide,Tryz.func163.trans (congrArg some (by kernel_rfl))⟩
 f23:=⟨Tryz.f164.name,by decide,Tryz.func164.trans (congrArg some (by kernel_rfl))⟩
 f24:=⟨Tryz.f165.name,by decide,Tryz.func165.trans (congrArg some (by kernel_rfl))⟩
 f25:=⟨Tryz.f166.name,by decide,Tryz.func166.trans (congrArg some (by kernel_rfl))⟩
 f26:=⟨Tryz.f167.name,by decide,Tryz.func167.trans (congrArg some (by kernel_rfl))⟩
 f27:=⟨Tryz.f168.name,by decide,Tryz.func168.trans (congrArg some (by kernel_rfl))⟩
 f28:=Tryz.func96.trans (congrArg some (by kernel_rfl))
 f29:=Tryz.func97.trans (congrArg some (by kernel_rfl))
 f46:=⟨Tryz.f170.name,by decide,Tryz.func170.trans (congrArg some (by kernel_rfl))⟩
 f47:=Tryz.func132.trans (congrArg some (by kernel_rfl))
 f48:=Tryz.func133.trans (congrArg some (by kernel_rfl))
 f49:=⟨Tryz.f171.name,by decide,Tryz.func171.trans (congrArg some (by kernel_rfl))⟩
 f50:=⟨Tryz.f172.name,by decide,Tryz.func172.trans (congrArg some (by kernel_rfl))⟩
 f57:=⟨Tryz.f173.name,by decide,Tryz.func173.trans (congrArg some (by kernel_rfl))⟩
 t0:=Tryz.underlying0
 a0:=Tryz.isAgg0
 z0:=Tryz.sizeOf0
 v0:=Tryz.zeroValue0
 t3:=Tryz.underlying3
 a3:=Tryz.isAgg3
 z3:=Tryz.sizeOf3
 v3:=Tryz.zeroValue3
 t4:=Tryz.underlying4
 a4:=Tryz.isAgg4
 z4:=Tryz.sizeOf4
 v4:=Tryz.zeroValue4
 t5:=Tryz.underlying5
 a5:=Tryz.isAgg5
 z5:=Tryz.sizeOf5
 v5:=Tryz.zeroValue5
 t9:=Tryz.underlying9
 a9:=Tryz.isAgg9
 z9:=Tryz.sizeOf9
 v9:=Tryz.zeroValue9
 t22:=Tryz.underlying79
 a22:=Tryz.isAgg79
 z22:=Tryz.sizeOf79
 v22:=Tryz.zeroValue79
 a24:=Tryz.isAgg78
 z24:=Tryz.sizeOf78
 t25:=Tryz.underlying193
 a25:=Tryz.isAgg193
 z25:=Tryz.sizeOf193
 v25:=Tryz.zeroValue193
 t39:=Tryz.underlying67
 a39:=Tryz.isAgg67
 z39:=Tryz.sizeOf67
 v39:=Tryz.zeroValue67
 t45:=Tryz.underlying151
 a45:=Tryz.isAgg151
 z45:=Tryz.sizeOf151
 v45:=Tryz.zeroValue151
 t46:=Tryz.underlying152
 a46:=Tryz.isAgg152
 z46:=Tryz.sizeOf152
 v46:=Tryz.zeroValue152
 t50:=Tryz.underlying157
 a50:=Tryz.isAgg157
 z50:=Tryz.sizeOf157
 v50:=Tryz.zeroValue157
 t53:=Tryz.underlying97
 a53:=Tryz.isAgg97
 z53:=Tryz.sizeOf97
 v53:=Tryz.zeroValue97
 t55:=Tryz.underlying100
 a55:=Tryz.isAgg100
 z55:=Tryz.sizeOf100
 v55:=Tryz.zeroValue100
 t66:=Tryz.underlying185
 a66:=Tryz.isAgg185
 z66:=Tryz.sizeOf185
 v66:=Tryz.zeroValue185
 t70:=Tryz.underlying189
 a70:=Tryz.isAgg189
 z70:=Tryz.sizeOf189
 v70:=Tryz.zeroValue189
 t76:=Tryz.underlying203
 a76:=Tryz.isAgg203
 z76:=Tryz.sizeOf203
 v76:=Tryz.zeroValue203
 t77:=Tryz.underlying142
 a77:=Tryz.isAgg142
 z77:=Tryz.sizeOf142
 v77:=Tryz.zeroValue142 }
end Go.Proofs
namespace Go.Proofs
open Go.Shelf
def Tryz.lays106_ren:Go.Shelf.Ren:=⟨fun | 106=>142 | 213=>157 | 265=>169 | n=>n,fun | 9=>9 | 3=>3 | n=>n,fun | n=>n⟩
theorem Tryz.lays106:Go.Proofs.Lays.n106 Tryz.prog Tryz.lays106_ren:={
 mixed:=by kernel_rfl
 f106:=Tryz.func142.trans (congrArg some (by kernel_rfl))
 f213:=Tryz.func157.trans (congrArg some (by kernel_rfl))
 f265:=Tryz.func169.trans (congrArg some (by kernel_rfl))
 t3:=Tryz.underlying3
 a3:=Tryz.isAgg3
 z3:=Tryz.sizeOf3
 v3:=Tryz.zeroValue3
 t9:=Tryz.underlying9
 a9:=Tryz.isAgg9
 z9:=Tryz.sizeOf9
 v9:=Tryz.zeroValue9 }
open Go.RowKit in
theorem Tryz.strings_Compare (a b:ByteArray) (w:World) :
  Calls Tryz.prog 142 #[.string a,.string b] w fun e w'=>e=.returned (.int .i64 (Lib.compareBytes a.data.toList b.data.toList))/\w'=w:=Any.strings_Compare Tryz.lays106 a b w
def Tryz.lays137_ren:Go.Shelf.Ren:=⟨fun | 137=>100 | 217=>137 | 266=>155 | n=>n,fun | 9=>9 | 5=>5 | 3=>3 | n=>n,fun | n=>n⟩
theorem Tryz.lays137:Go.Proofs.Lays.n137 Tryz.prog Tryz.lays137_ren:={
 mixed:=by kernel_rfl
 f137:=Tryz.func100.trans (congrArg some (by kernel_rfl))
 f217:=Tryz.func137.trans (congrArg some (by kernel_rfl))
 f266:=Tryz.func155.trans (congrArg some (by kernel_rfl))
 t3:=Tryz.underlying3
 a3:=Tryz.isAgg3
 z3:=Tryz.sizeOf3
 v3:=Tryz.zeroValue3
 t5:=Tryz.underlying5
 a5:=Tryz.isAgg5
 z5:=Tryz.sizeOf5
 v5:=Tryz.zeroValue5
 t9:=Tryz.underlying9
 a9:=Tryz.isAgg9
 z9:=Tryz.sizeOf9
 v9:=Tryz.zeroValue9 }
open Go.RowKit in
theorem Tryz.strings_IndexByte (s:ByteArray) (c:Int) (w:World) :
  Calls Tryz.prog 100 #[.string s,.int .u8 c] w fun e w'=>e=.returned (.int .i64 (Lib.indexByte s.data.toList c.toNat.toUInt8))/\w'=w:=Any.strings_IndexByte Tryz.lays137 s c w
end Go.Proofs
