/- The contract of slices.SortFunc at entries of trees: the laying. Contracts of the library .. -/
import Derived.Lib.Hide
import Derived.Shelf.SlGeneric
import Derived.Shelf.SlSortCmp.WholeK
import Derived.Shelf.SlSortCmp.NoneTotal
import Derived.Ground.SlsfProg
import Derived.Ground.NamesProg
import Derived.Test.YthgabkgmkolobaaGreatProg
import Derived.Shelf.Bits.Mul64
import Derived.Shelf.Strings.IndexAnyAll
import Derived.Ground.Names2Prog
import Derived.Shelf.Strings.BuilderK
import Derived.Shelf.SlLaysM
import Derived.Ground.SlgmProg
import Derived.Shelf.Small.Strs
set_option maxRecDepth 100000
namespace Go.Proofs
open Go.Shelf
def Tryz.sortEnt_ren:Go.Shelf.Ren:=⟨fun | 6=>122 | 15=>127 | 14=>167 | 28=>181 | 29=>182 | 20=>221 | 21=>222 | 22=>223 | 23=>224 | 24=>225 | 25=>226 | 26=>227 | 27=>228 | 46=>265 | 47=>235 | 48=>236 | 49=>266 | 50=>267 | 57=>278 | n=>n,fun | 22=>91 | 24=>96 | 25=>150 | 3=>3 | 39=>154 | 0=>0 | 53=>191 | 55=>193 | 4=>4 | 46=>183 | 45=>182 | 50=>188 | 5=>5 | 9=>9 | 66=>238 | 70=>242 | 76=>267 | 77=>177 | n=>n,fun | n=>n⟩
theorem Tryz.sortEnt:Go.Proofs.SlLaysF0.n6 Tryz.prog Tryz.sortEnt_ren:={
 mixed:=by kernel_rfl
 f6:=⟨Tryz.f122.name,by decide,Tryz.func122.trans (congrArg some (by kernel_rfl))⟩
 f14:=⟨Tryz.f167.name,by decide,Tryz.func167.trans (congrArg some (by kernel_rfl))⟩
 f15:=Tryz.func127.trans (congrArg some (by kernel_rfl))
 f20:=⟨Tryz.f221.name,by decide,Tryz.func221.trans (congrArg some (by kernel_rfl))⟩
 f21:=⟨Tryz.f222.name,by decide,Tryz.func222.trans (congrArg some (by kernel_rfl))⟩
 f22:=⟨Tryz.f223.name,by decide,Tryz.func223.trans (congrArg some (by kernel_rfl))⟩
 f23:=⟨Tryz.f224.name,by decide,Tryz.func224.trans (congrArg some (by kernel_rfl))⟩
 f24:=⟨Tryz.f225.name,by decide,Tryz.func225.trans (congrArg some (by kernel_rfl))⟩
 f25:=⟨Tryz.f226.name,by decide,Tryz.func226.trans (congrArg some (by kernel_rfl))⟩
 f26:=⟨Tryz.f227.name,by decide,Tryz.func227.trans (congrArg some (by kernel_rfl))⟩
 f27:=⟨Tryz.f228.name,by decide,Tryz.func228.trans (congrArg some (by kernel_rfl))⟩
 f28:=Tryz.func181.trans (congrArg some (by kernel_rfl))
 f29:=Tryz.func182.trans (congrArg some (by kernel_rfl))
 f46:=⟨Tryz.f265.name,by decide,Tryz.func265.trans (congrArg some (by kernel_rfl))⟩
 f47:=Tryz.func235.trans (congrArg some (by kernel_rfl))
 f48:=Tryz.func236.trans (congrArg some (by kernel_rfl))
 f49:=⟨Tryz.f266.name,by decide,Tryz.func266.trans (congrArg some (by kernel_rfl))⟩
 f50:=⟨Tryz.f267.name,by decide,Tryz.func267.trans (congrArg some (by kernel_rfl))⟩
 f57:=⟨Tryz.f278.name,by decide,Tryz.func278.trans (congrArg some (by kernel_rfl))⟩
 t0:=Tryz.underlying0
 a0:=Tryz.isAgg0
 z0:=Tryz.sizeOf0
 v0:=Tryz.zeroValue0
 t3:=Tryz.underlying3
 a3:=Tryz.isAgg3
 z3:=Tryz.sizeOf3
 v3:=Tryz.zeroValue3
 t4:=Tryz.underlying4
 a4:=Tryz.isAgg4
 z4:=Tryz.sizeOf4
 v4:=Tryz.zeroValue4
 t5:=Tryz.underlying5
 a5:=Tryz.isAgg5
 z5:=Tryz.sizeOf5
 v5:=Tryz.zeroValue5
 t9:=Tryz.underlying9
 a9:=Tryz.isAgg9
 z9:=Tryz.sizeOf9
 v9:=Tryz.zeroValue9
 t22:=Tryz.underlying91
 a22:=Tryz.isAgg91
 z22:=Tryz.sizeOf91
 v22:=Tryz.zeroValue91
 t25:=Tryz.underlying150
 a25:=Tryz.isAgg150
 z25:=Tryz.sizeOf150
 v25:=Tryz.zeroValue150
 t39:=Tryz.underlying154
 a39:=Tryz.isAgg154
 z39:=Tryz.sizeOf154
 v39:=Tryz.zeroValue154
 t45:=Tryz.underlying182
 a45:=Tryz.isAgg182
 z45:=Tryz.sizeOf182
 v45:=Tryz.zeroValue182
 t46:=Tryz.underlying183
 a46:=Tryz.isAgg183
 z46:=Tryz.sizeOf183
 v46:=Tryz.zeroValue183
 t50:=Tryz.underlying188
 a50:=Tryz.isAgg188
 z50:=Tryz.sizeOf188
 v50:=Tryz.zeroValue188
 t53:=Tryz.underlying191
 a53:=Tryz.isAgg191
 z53:=Tryz.sizeOf191
 v53:=Tryz.zeroValue191
 t55:=Tryz.underlying193
 a55:=Tryz.isAgg193
 z55:=Tryz.sizeOf193
 v55:=Tryz.zeroValue193
 t66:=Tryz.underlying238
 a66:=Tryz.isAgg238
 z66:=Tryz.sizeOf238
 v66:=Tryz.zeroValue238
 t70:=Tryz.underlying242
 a70:=Tryz.isAgg242
 z70:=Tryz.sizeOf242
 v70:=Tryz.zeroValue242
 t76:=Tryz.underlying267
 a76:=Tryz.isAgg267
 z76:=Tryz.sizeOf267
 v76:=Tryz.zeroValue267
 t77:=Tryz.underlying177
 a77:=Tryz.isAgg177
 z77:=Tryz.sizeOf177
 v77:=Tryz.zeroValue177 }
end Go.Proofs
namespace Go.Proofs
open Go.Shelf
def Tryz.lays212_ren:Go.Shelf.Ren:=⟨fun | 212=>269 | 263=>279 | 264=>280 | n=>n,fun | 46=>154 | 51=>191 | 53=>193 | 146=>275 | 148=>277 | n=>n,fun | n=>n⟩
theorem Tryz.lays212:Go.Proofs.Lays.n212 Tryz.prog Tryz.lays212_ren:={
 mixed:=by kernel_rfl
 f212:=Tryz.func269.trans (congrArg some (by kernel_rfl))
 f263:=Tryz.func279.trans (congrArg some (by kernel_rfl))
 f264:=Tryz.func280.trans (congrArg some (by kernel_rfl))
 t46:=Tryz.underlying154
 a46:=Tryz.isAgg154
 z46:=Tryz.sizeOf154
 v46:=Tryz.zeroValue154
 t51:=Tryz.underlying191
 a51:=Tryz.isAgg191
 z51:=Tryz.sizeOf191
 v51:=Tryz.zeroValue191
 t53:=Tryz.underlying193
 a53:=Tryz.isAgg193
 z53:=Tryz.sizeOf193
 v53:=Tryz.zeroValue193
 t146:=Tryz.underlying275
 a146:=Tryz.isAgg275
 z146:=Tryz.sizeOf275
 v146:=Tryz.zeroValue275
 t148:=Tryz.underlying277
 a148:=Tryz.isAgg277
 z148:=Tryz.sizeOf277
 v148:=Tryz.zeroValue277 }
theorem Tryz.bits_Mul (x y:Nat) (hx:x<18446744073709551616) (hy:y<18446744073709551616) (w:World) :
  Calls Tryz.prog 269 #[.int .u64 x,.int .u64 y] w fun e w'=>e=.returned (.tuple #[.int .u64 ((x*y / 18446744073709551616:Nat):Int),.int .u64 ((x*y % 18446744073709551616:Nat):Int)])∧w'=w:=Any.bits_Mul Tryz.lays212 x y hx hy w
end Go.Proofs
namespace Go.Proofs.YthgabkgmkolobaaGreat
open Go.RowKit in
theorem aa {p : Prop} (h : p) : Hid p := h
theorem ay {α : Type} {i : Nat} {a : α} {l : List α} : l.toArray.setIfInBounds i a = (l.set i a).toArray := List.setIfInBounds_toArray ..
theorem az {α : Type} {a b : α} {l : List α} : (a :: l).set 0 b = b :: l := List.set_cons_zero ..
theorem aA {α : Type} {n : Nat} {a b : α} {l : List α} : (a :: l).set (n + 1) b = a :: l.set n b := List.set_cons_succ ..
inductive BT (α:Type) where
 | leaf (x:α)
 | node (a b:BT α)
namespace BT
def map {α β:Type} (f:α→β):BT α→BT β
 | leaf x=>leaf (f x)
 | node a b=>node (map f a) (map f b)
def fZ {α:Type}:BT α→List α
 | leaf x=>[x]
 | node a b=>fZ a++fZ b
inductive DZ {α:Type}:BT α→BT α→Prop
 | leaf (x:α):DZ (leaf x) (leaf x)
 | node {a a' b b':BT α}:DZ a a'→DZ b b'→DZ (node a b) (node a' b')
 | swap {a a' b b':BT α}:DZ a a'→DZ b b'→DZ (node a b) (node b' a')
end BT
section
variable {α β:Type} [Inhabited α] [Inhabited β]
def bh (p:Nat→Bool) (L:List α) (n:Nat):List α:=((List.range n).filter p).map fun i=>L.getD i default
theorem ig (p:Nat→Bool) (L:List α) (n:Nat):bh p L (n+1)=bh p L n++if p n then [L.getD n default] else []:=by
 unfold bh;rw [List.range_succ,List.filter_append,List.map_append];congr 1;cases h:p n<;>simp [h]
theorem vW (f:α→β) (p:Nat→Bool) (L:List α):∀ {n:Nat},n≤L.length→bh p (L.map f) n=(bh p L n).map f
 | 0,_=>rfl
 | n+1,h=>by
  rw [ig,ig,List.map_append,vW f p L (by omega)]
  congr 1
  split
  ·have:n<L.length:=h
   simp [this]
  ·rfl
theorem sw (p:Nat→Bool) (L:List α):∀ {n:Nat},n≤L.length→(bh p L n++bh (fun i=>!p i) L n).Perm (L.take n)
 | 0,_=>by simp [bh]
 | n+1,h=>by
  have hn:n<L.length:=h
  have ih:=sw p L (n:=n) (by omega)
  rw [ig,ig,List.take_succ_eq_append_getElem hn]
  have hg:L.getD n default=L[n]:=by simp [hn]
  rw [hg]
  cases hp:p n
  ·simp only [Bool.false_eq_true,if_false,List.append_nil,Bool.not_false,if_true]
   rw [← List.append_assoc]
   exact ih.append_right _
  ·simp only [if_true,Bool.not_true,Bool.false_eq_true,if_false,List.append_nil]
   refine List.Perm.trans ?_ (ih.append_right _)
   rw [List.append_assoc,List.append_assoc]
   exact List.Perm.append_left _ List.perm_append_comm
theorem B2 {p:Nat→Bool} {L:List α} {n:Nat} {x:α}:x∈bh p L n↔∃i,i<n∧p i=true∧L.getD i default=x:=by
 unfold bh;rw [List.mem_map];constructor
 ·rintro ⟨i,hi,h⟩
  rw [List.mem_filter,List.mem_range] at hi;exact ⟨i,hi.1,hi.2,h⟩
 ·rintro ⟨i,h1,h2,h3⟩
  exact ⟨i,List.mem_filter.2 ⟨List.mem_range.2 h1,h2⟩,h3⟩
theorem nZ {p q:Nat→Bool} {L:List α} {n:Nat} (h:∀i,i<n→p i=q i):bh p L n=bh q L n:=by
 unfold bh;congr 1;exact List.filter_congr fun i hi=>h i (List.mem_range.1 hi)
theorem lZ (p:Nat→Bool) (L:List α) (n:Nat):(bh p L n).length≤n:=by
 unfold bh;rw [List.length_map];exact Nat.le_trans (List.length_filter_le _ _) (by simp)
def rt:Nat→List α→List (BT α)
 | 0,_=>[]
 | _+1,[]=>[]
 | _+1,[x]=>[.leaf x]
 | d+1,x::y::L=>(List.range' 1 (2 ^ (y::L).length - 1)).flatMap fun bits =>
   (rt d (x::bh (fun i=>!bits.testBit i) (y::L) (y::L).length)).flatMap fun a =>
    (rt d (bh (fun i=>bits.testBit i) (y::L) (y::L).length)).map fun b=>.node a b
def rf:Nat→List α→List (BT α)
 | 0,_=>[]
 | _+1,[]=>[]
 | _+1,[x]=>[.leaf x]
 | d+1,x::y::L=>(List.range (2 ^ (y::L).length - 1)).flatMap fun bits =>
   (rf d (x::bh (fun i=>bits.testBit i) (y::L) (y::L).length)).flatMap fun a =>
    (rf d (bh (fun i=>!bits.testBit i) (y::L) (y::L).length)).map fun b=>.node a b
theorem oW {γ δ:Type} {f g:γ→List δ}:∀ {l:List γ},(∀a∈l,(f a).Perm (g a))→(l.flatMap f).Perm (l.flatMap g)
 | [],_=>by simp
 | a::l,h=>by
  rw [List.flatMap_cons,List.flatMap_cons]
  exact (h a (by simp)).append (oW fun b hb=>h b (by simp [hb]))
theorem uY {γ δ:Type} {f:γ→List δ} {l l':List γ} (h:l.Perm l'):(l.flatMap f).Perm (l'.flatMap f):=by
 induction h with
 | nil=>exact List.Perm.refl _
 | cons x _ ih=>rw [List.flatMap_cons,List.flatMap_cons];exact ih.append_left _
 | swap x y l =>
  simp only [List.flatMap_cons]
  rw [← List.append_assoc,← List.append_assoc]
  exact List.perm_append_comm.append_right _
 | trans _ _ h1 h2=>exact h1.trans h2
theorem KT (m:Nat):(List.range' 1 (m - 1)).Perm ((List.range (m - 1)).map fun k=>m - 1 - k):=by
 have h:(List.range' 1 (m - 1))=((List.range (m - 1)).map fun k=>m - 1 - k).reverse:=by
  apply List.ext_getElem
  ·simp
  ·intro i h1 h2
   simp at h1;simp;omega
 rw [h];exact List.reverse_perm _
theorem Jy:∀(d:Nat) (L:List α),(rt d L).Perm (rf d L)
 | 0,_=>List.Perm.refl _
 | _+1,[]=>List.Perm.refl _
 | _+1,[x]=>List.Perm.refl _
 | d+1,x::y::L=>by
  rw [rt,rf]
  refine List.Perm.trans (uY (KT _)) ?_
  rw [List.flatMap_map]
  refine oW fun k hk=>?_
  have hk:=List.mem_range.1 hk
  generalize hn:(y::L).length=n at *
  have e1:∀i,i<n→(2 ^ n - 1 - k).testBit i=!k.testBit i:=fun i hi=>by
   have:=Nat.testBit_two_pow_sub_succ (x:=k) (n:=n) (by omega) i
   rw [show 2 ^ n - 1 - k=2 ^ n - (k+1) by omega,this]
   simp [hi]
  rw [nZ (p:=fun i=>!(2 ^ n - 1 - k).testBit i) (q:=fun i=>k.testBit i) fun i hi=>by rw [e1 i hi,Bool.not_not],nZ (p:=fun i=>(2 ^ n - 1 - k).testBit i) (q:=fun i=>!k.testBit i) e1]
  refine List.Perm.trans (uY (Jy d _)) (oW fun a _=>(Jy d _).map _)
theorem zO (f:α→β):∀(d:Nat) (L:List α),rt d (L.map f)=(rt d L).map (BT.map f)
 | 0,_=>rfl
 | _+1,[]=>rfl
 | _+1,[x]=>rfl
 | d+1,x::y::L=>by
  rw [List.map_cons,List.map_cons,rt,rt,List.map_flatMap]
  have hl:(f y::L.map f).length=(y::L).length:=by simp
  rw [hl]
  congr 1
  funext bits
  have e:f y::L.map f=(y::L).map f:=rfl
  rw [e,vW f _ _ (Nat.le_refl _),vW f _ _ (Nat.le_refl _),← List.map_cons,zO f d,zO f d,List.map_flatMap,List.flatMap_map]
  congr 1
  funext a
  rw [List.map_map,List.map_map]
  rfl
theorem vX:∀(d:Nat) (L:List α),∀r∈rt d L,r.fZ.Perm L
 | 0,_=>fun r h=>by cases h
 | _+1,[]=>fun r h=>by cases h
 | _+1,[x]=>fun r h=>by rw [rt,List.mem_singleton] at h;rw [h];exact List.Perm.refl _
 | d+1,x::y::L=>fun r h=>by
  rw [rt,List.mem_flatMap] at h
  obtain ⟨bits,hb,h⟩:=h
  rw [List.mem_flatMap] at h
  obtain ⟨a,ha,h⟩:=h
  obtain ⟨b,hb2,rfl⟩:=List.mem_map.1 h
  have h1:=vX d _ a ha
  have h2:=vX d _ b hb2
  have h3:=sw (fun i=>bits.testBit i) (y::L) (Nat.le_refl _)
  rw [List.take_length] at h3
  rw [BT.fZ]
  refine (h1.append h2).trans ?_
  rw [List.cons_append]
  exact (List.perm_append_comm.trans h3).cons _
end
end Go.Proofs.YthgabkgmkolobaaGreat
namespace Go.Proofs
open Go.Shelf
def Tryz.idxA_ren:Go.Shelf.Ren:=⟨fun | 153=>166 | 152=>217 | 226=>218 | 227=>219 | 228=>220 | 137=>261 | 119=>262 | 224=>263 | 225=>264 | 217=>277 | 266=>290 | n=>n,fun | 9=>9 | 3=>3 | 4=>4 | 5=>5 | 21=>21 | 117=>226 | 116=>225 | 0=>0 | 46=>154 | 124=>262 | n=>n,fun | n=>n⟩
theorem Tryz.idxA:Go.Proofs.Lays.n153 Tryz.prog Tryz.idxA_ren:={
 mixed:=by kernel_rfl
 f119:=Tryz.func262.trans (congrArg some (by kernel_rfl))
 f137:=Tryz.func261.trans (congrArg some (by kernel_rfl))
 f152:=Tryz.func217.trans (congrArg some (by kernel_rfl))
 f153:=Tryz.func166.trans (congrArg some (by kernel_rfl))
 f217:=Tryz.func277.trans (congrArg some (by kernel_rfl))
 f224:=Tryz.func263.trans (congrArg some (by kernel_rfl))
 f225:=Tryz.func264.trans (congrArg some (by kernel_rfl))
 f226:=Tryz.func218.trans (congrArg some (by kernel_rfl))
 f227:=Tryz.func219.trans (congrArg some (by kernel_rfl))
 f228:=Tryz.func220.trans (congrArg some (by kernel_rfl))
 f266:=Tryz.func290.trans (congrArg some (by kernel_rfl))
 t0:=Tryz.underlying0
 a0:=Tryz.isAgg0
 z0:=Tryz.sizeOf0
 v0:=Tryz.zeroValue0
 t3:=Tryz.underlying3
 a3:=Tryz.isAgg3
 z3:=Tryz.sizeOf3
 v3:=Tryz.zeroValue3
 t4:=Tryz.underlying4
 a4:=Tryz.isAgg4
 z4:=Tryz.sizeOf4
 v4:=Tryz.zeroValue4
 t5:=Tryz.underlying5
 a5:=Tryz.isAgg5
 z5:=Tryz.sizeOf5
 v5:=Tryz.zeroValue5
 t9:=Tryz.underlying9
 a9:=Tryz.isAgg9
 z9:=Tryz.sizeOf9
 v9:=Tryz.zeroValue9
 t21:=Tryz.underlying21
 a21:=Tryz.isAgg21
 z21:=Tryz.sizeOf21
 v21:=Tryz.zeroValue21
 t46:=Tryz.underlying154
 a46:=Tryz.isAgg154
 z46:=Tryz.sizeOf154
 v46:=Tryz.zeroValue154
 t116:=Tryz.underlying225
 a116:=Tryz.isAgg225
 z116:=Tryz.sizeOf225
 t117:=Tryz.underlying226
 a117:=Tryz.isAgg226
 z117:=Tryz.sizeOf226
 v117:=Tryz.zeroValue226
 t124:=Tryz.underlying262
 a124:=Tryz.isAgg262
 z124:=Tryz.sizeOf262
 v124:=Tryz.zeroValue262 }
end Go.Proofs
namespace Go.Proofs
open Go.Shelf
def Tryz.bldG_ren:Go.Shelf.Ren:=⟨fun | 169=>94 | n=>n,fun | 70=>115 | 9=>9 | 0=>0 | 72=>117 | 37=>77 | 127=>164 | 3=>3 | 5=>5 | n=>n,fun | n=>n⟩
theorem Tryz.bldG:Go.Proofs.Lays.n169 Tryz.prog Tryz.bldG_ren:={
 mixed:=by kernel_rfl
 f169:=Tryz.func94.trans (congrArg some (by kernel_rfl))
 t0:=Tryz.underlying0
 a0:=Tryz.isAgg0
 z0:=Tryz.sizeOf0
 v0:=Tryz.zeroValue0
 t3:=Tryz.underlying3
 a3:=Tryz.isAgg3
 z3:=Tryz.sizeOf3
 v3:=Tryz.zeroValue3
 t9:=Tryz.underlying9
 a9:=Tryz.isAgg9
 z9:=Tryz.sizeOf9
 v9:=Tryz.zeroValue9
 t37:=Tryz.underlying77
 a37:=Tryz.isAgg77
 z37:=Tryz.sizeOf77
 v37:=Tryz.zeroValue77
 t70:=Tryz.underlying115
 a70:=Tryz.isAgg115
 z70:=Tryz.sizeOf115
 v70:=Tryz.zeroValue115
 t72:=Tryz.underlying117
 a72:=Tryz.isAgg117
 z72:=Tryz.sizeOf117
 v72:=Tryz.zeroValue117
 t127:=Tryz.underlying164
 a127:=Tryz.isAgg164
 z127:=Tryz.sizeOf164
 v127:=Tryz.zeroValue164 }
end Go.Proofs
namespace Go.Proofs
open Go.Shelf
def Tryz.sortZ_ren:Go.Shelf.Ren:=⟨fun | 5=>71 | 8=>127 | 7=>126 | 19=>181 | 20=>182 | 10=>172 | 11=>173 | 12=>174 | 13=>175 | 14=>176 | 15=>177 | 16=>178 | 17=>179 | 18=>180 | 30=>234 | 31=>235 | 32=>236 | 33=>237 | 34=>238 | 35=>131 | 40=>270 | n=>n,fun | 23=>26 | 25=>3 | 3=>3 | 32=>154 | 22=>26 | 0=>0 | 44=>191 | 46=>193 | 4=>4 | 36=>183 | 35=>182 | 41=>188 | 5=>5 | 9=>9 | 53=>238 | 57=>242 | 63=>267 | 64=>177 | n=>n,fun | n=>n⟩
theorem Tryz.sortZ:Go.Proofs.SlLaysM.n5 Tryz.prog Tryz.sortZ_ren:={
 mixed:=by kernel_rfl
 f5:=⟨Tryz.f71.name,by decide,Tryz.func71.trans (congrArg some (by kernel_rfl))⟩
 f7:=⟨Tryz.f126.name,by decide,Tryz.func126.trans (congrArg some (by kernel_rfl))⟩
 f8:=Tryz.func127.trans (congrArg some (by kernel_rfl))
 f10:=⟨Tryz.f172.name,by decide,Tryz.func172.trans (congrArg some (by kernel_rfl))⟩
 f11:=⟨Tryz.f173.name,by decide,Tryz.func173.trans (congrArg some (by kernel_rfl))⟩
 f12:=⟨Tryz.f174.name,by decide,Tryz.func174.trans (congrArg some (by kernel_rfl))⟩
 f13:=⟨Tryz.f175.name,by decide,Tryz.func175.trans (congrArg some (by kernel_rfl))⟩
 f14:=⟨Tryz.f176.name,by decide,Tryz.func176.trans (congrArg some (by kernel_rfl))⟩
 f15:=⟨Tryz.f177.name,by decide,Tryz.func177.trans (congrArg some (by kernel_rfl))⟩
 f16:=⟨Tryz.f178.name,by decide,Tryz.func178.trans (congrArg some (by kernel_rfl))⟩
 f17:=⟨Tryz.f179.name,by decide,Tryz.func179.trans (congrArg some (by kernel_rfl))⟩
 f18:=⟨Tryz.f180.name,by decide,Tryz.func180.trans (congrArg some (by kernel_rfl))⟩
 f19:=Tryz.func181.trans (congrArg some (by kernel_rfl))
 f20:=Tryz.func182.trans (congrArg some (by kernel_rfl))
 f30:=⟨Tryz.f234.name,by decide,Tryz.func234.trans (congrArg some (by kernel_rfl))⟩
 f31:=Tryz.func235.trans (congrArg some (by kernel_rfl))
 f32:=Tryz.func236.trans (congrArg some (by kernel_rfl))
 f33:=⟨Tryz.f237.name,by decide,Tryz.func237.trans (congrArg some (by kernel_rfl))⟩
 f34:=⟨Tryz.f238.name,by decide,Tryz.func238.trans (congrArg some (by kernel_rfl))⟩
 f35:=⟨Tryz.f131.name,by decide,Tryz.func131.trans (congrArg some (by kernel_rfl))⟩
 f40:=⟨Tryz.f270.name,by decide,Tryz.func270.trans (congrArg some (by kernel_rfl))⟩
 t0:=Tryz.underlying0
 a0:=Tryz.isAgg0
 z0:=Tryz.sizeOf0
 v0:=Tryz.zeroValue0
 t3:=Tryz.underlying3
 a3:=Tryz.isAgg3
 z3:=Tryz.sizeOf3
 v3:=Tryz.zeroValue3
 t4:=Tryz.underlying4
 a4:=Tryz.isAgg4
 z4:=Tryz.sizeOf4
 v4:=Tryz.zeroValue4
 t5:=Tryz.underlying5
 a5:=Tryz.isAgg5
 z5:=Tryz.sizeOf5
 v5:=Tryz.zeroValue5
 t9:=Tryz.underlying9
 a9:=Tryz.isAgg9
 z9:=Tryz.sizeOf9
 v9:=Tryz.zeroValue9
 t22:=Tryz.underlying26
 a22:=Tryz.isAgg26
 z22:=Tryz.sizeOf26
 v22:=Tryz.zeroValue26
 t23:=Tryz.underlying26
 a23:=Tryz.isAgg26
 z23:=Tryz.sizeOf26
 v23:=Tryz.zeroValue26
 t25:=Tryz.underlying3
 a25:=Tryz.isAgg3
 z25:=Tryz.sizeOf3
 v25:=Tryz.zeroValue3
 t32:=Tryz.underlying154
 a32:=Tryz.isAgg154
 z32:=Tryz.sizeOf154
 v32:=Tryz.zeroValue154
 t35:=Tryz.underlying182
 a35:=Tryz.isAgg182
 z35:=Tryz.sizeOf182
 v35:=Tryz.zeroValue182
 t36:=Tryz.underlying183
 a36:=Tryz.isAgg183
 z36:=Tryz.sizeOf183
 v36:=Tryz.zeroValue183
 t41:=Tryz.underlying188
 a41:=Tryz.isAgg188
 z41:=Tryz.sizeOf188
 v41:=Tryz.zeroValue188
 t44:=Tryz.underlying191
 a44:=Tryz.isAgg191
 z44:=Tryz.sizeOf191
 v44:=Tryz.zeroValue191
 t46:=Tryz.underlying193
 a46:=Tryz.isAgg193
 z46:=Tryz.sizeOf193
 v46:=Tryz.zeroValue193
 t53:=Tryz.underlying238
 a53:=Tryz.isAgg238
 z53:=Tryz.sizeOf238
 v53:=Tryz.zeroValue238
 t57:=Tryz.underlying242
 a57:=Tryz.isAgg242
 z57:=Tryz.sizeOf242
 v57:=Tryz.zeroValue242
 t63:=Tryz.underlying267
 a63:=Tryz.isAgg267
 z63:=Tryz.sizeOf267
 v63:=Tryz.zeroValue267
 t64:=Tryz.underlying177
 a64:=Tryz.isAgg177
 z64:=Tryz.sizeOf177
 v64:=Tryz.zeroValue177 }
end Go.Proofs
namespace Go.Proofs
open Go.Shelf
def Tryz.sortNode_ren:Go.Shelf.Ren:=⟨fun | 6=>240 | 15=>127 | 14=>271 | 28=>181 | 29=>182 | 20=>281 | 21=>282 | 22=>283 | 23=>284 | 24=>285 | 25=>286 | 26=>287 | 27=>288 | 46=>291 | 47=>235 | 48=>236 | 49=>292 | 50=>293 | 57=>294 | n=>n,fun | 22=>120 | 24=>119 | 25=>247 | 3=>3 | 39=>154 | 0=>0 | 53=>191 | 55=>193 | 4=>4 | 46=>183 | 45=>182 | 50=>188 | 5=>5 | 9=>9 | 66=>238 | 70=>242 | 76=>267 | 77=>177 | n=>n,fun | n=>n⟩
theorem Tryz.sortNode:Go.Proofs.SlLaysF.n6 Tryz.prog Tryz.sortNode_ren:={
 mixed:=by kernel_rfl
 f6:=⟨Tryz.f240.name,by decide,Tryz.func240.trans (congrArg some (by kernel_rfl))⟩
 f14:=⟨Tryz.f271.name,by decide,Tryz.func271.trans (congrArg some (by kernel_rfl))⟩
 f15:=Tryz.func127.trans (congrArg some (by kernel_rfl))
 f20:=⟨Tryz.f281.name,by decide,Tryz.func281.trans (congrArg some (by kernel_rfl))⟩
 f21:=⟨Tryz.f282.name,by decide,Tryz.func282.trans (congrArg some (by kernel_rfl))⟩
 f22:=⟨Tryz.f283.name,by decide,Tryz.func283.trans (congrArg some (by kernel_rfl))⟩
 f23:=⟨Tryz.f284.name,by decide,Tryz.func284.trans (congrArg some (by kernel_rfl))⟩
 f24:=⟨Tryz.f285.name,by decide,Tryz.func285.trans (congrArg some (by kernel_rfl))⟩
 f25:=⟨Tryz.f286.name,by decide,Tryz.func286.trans (congrArg some (by kernel_rfl))⟩
 f26:=⟨Tryz.f287.name,by decide,Tryz.func287.trans (congrArg some (by kernel_rfl))⟩
 f27:=⟨Tryz.f288.name,by decide,Tryz.func288.trans (congrArg some (by kernel_rfl))⟩
 f28:=Tryz.func181.trans (congrArg some (by kernel_rfl))
 f29:=Tryz.func182.trans (congrArg some (by kernel_rfl))
 f46:=⟨Tryz.f291.name,by decide,Tryz.func291.trans (congrArg some (by kernel_rfl))⟩
 f47:=Tryz.func235.trans (congrArg some (by kernel_rfl))
 f48:=Tryz.func236.trans (congrArg some (by kernel_rfl))
 f49:=⟨Tryz.f292.name,by decide,Tryz.func292.trans (congrArg some (by kernel_rfl))⟩
 f50:=⟨Tryz.f293.name,by decide,Tryz.func293.trans (congrArg some (by kernel_rfl))⟩
 f57:=⟨Tryz.f294.name,by decide,Tryz.func294.trans (congrArg some (by kernel_rfl))⟩
 t0:=Tryz.underlying0
 a0:=Tryz.isAgg0
 z0:=Tryz.sizeOf0
 v0:=Tryz.zeroValue0
 t3:=Tryz.underlying3
 a3:=Tryz.isAgg3
 z3:=Tryz.sizeOf3
 v3:=Tryz.zeroValue3
 t4:=Tryz.underlying4
 a4:=Tryz.isAgg4
 z4:=Tryz.sizeOf4
 v4:=Tryz.zeroValue4
 t5:=Tryz.underlying5
 a5:=Tryz.isAgg5
 z5:=Tryz.sizeOf5
 v5:=Tryz.zeroValue5
 t9:=Tryz.underlying9
 a9:=Tryz.isAgg9
 z9:=Tryz.sizeOf9
 v9:=Tryz.zeroValue9
 t22:=Tryz.underlying120
 a22:=Tryz.isAgg120
 z22:=Tryz.sizeOf120
 v22:=Tryz.zeroValue120
 a24:=Tryz.isAgg119
 z24:=Tryz.sizeOf119
 t25:=Tryz.underlying247
 a25:=Tryz.isAgg247
 z25:=Tryz.sizeOf247
 v25:=Tryz.zeroValue247
 t39:=Tryz.underlying154
 a39:=Tryz.isAgg154
 z39:=Tryz.sizeOf154
 v39:=Tryz.zeroValue154
 t45:=Tryz.underlying182
 a45:=Tryz.isAgg182
 z45:=Tryz.sizeOf182
 v45:=Tryz.zeroValue182
 t46:=Tryz.underlying183
 a46:=Tryz.isAgg183
 z46:=Tryz.sizeOf183
 v46:=Tryz.zeroValue183
 t50:=Tryz.underlying188
 a50:=Tryz.isAgg188
 z50:=Tryz.sizeOf188
 v50:=Tryz.zeroValue188
 t53:=Tryz.underlying191
 a53:=Tryz.isAgg191
 z53:=Tryz.sizeOf191
 v53:=Tryz.zeroValue191
 t55:=Tryz.underlying193
 a55:=Tryz.isAgg193
 z55:=Tryz.sizeOf193
 v55:=Tryz.zeroValue193
 t66:=Tryz.underlying238
 a66:=Tryz.isAgg238
 z66:=Tryz.sizeOf238
 v66:=Tryz.zeroValue238
 t70:=Tryz.underlying242
 a70:=Tryz.isAgg242
 z70:=Tryz.sizeOf242
 v70:=Tryz.zeroValue242
 t76:=Tryz.underlying267
 a76:=Tryz.isAgg267
 z76:=Tryz.sizeOf267
 v76:=Tryz.zeroValue267
 t77:=Tryz.underlying177
 a77:=Tryz.isAgg177
 z77:=Tryz.sizeOf177
 v77:=Tryz.zeroValue177 }
end Go.Proofs
namespace Go.Proofs
open Go.Shelf
def Tryz.lays106_ren:Go.Shelf.Ren:=⟨fun | 106=>242 | 213=>272 | 265=>289 | n=>n,fun | 9=>9 | 3=>3 | n=>n,fun | n=>n⟩
theorem Tryz.lays106:Go.Proofs.Lays.n106 Tryz.prog Tryz.lays106_ren:={
 mixed:=by kernel_rfl
 f106:=Tryz.func242.trans (congrArg some (by kernel_rfl))
 f213:=Tryz.func272.trans (congrArg some (by kernel_rfl))
 f265:=Tryz.func289.trans (congrArg some (by kernel_rfl))
 t3:=Tryz.underlying3
 a3:=Tryz.isAgg3
 z3:=Tryz.sizeOf3
 v3:=Tryz.zeroValue3
 t9:=Tryz.underlying9
 a9:=Tryz.isAgg9
 z9:=Tryz.sizeOf9
 v9:=Tryz.zeroValue9 }
open Go.RowKit in
theorem Tryz.strings_Compare (a b:ByteArray) (w:World) :
  Calls Tryz.prog 242 #[.string a,.string b] w fun e w'=>e=.returned (.int .i64 (Lib.compareBytes a.data.toList b.data.toList))∧w'=w:=Any.strings_Compare Tryz.lays106 a b w
def Tryz.lays137_ren:Go.Shelf.Ren:=⟨fun | 137=>261 | 217=>277 | 266=>290 | n=>n,fun | 9=>9 | 5=>5 | 3=>3 | n=>n,fun | n=>n⟩
theorem Tryz.lays137:Go.Proofs.Lays.n137 Tryz.prog Tryz.lays137_ren:={
 mixed:=by kernel_rfl
 f137:=Tryz.func261.trans (congrArg some (by kernel_rfl))
 f217:=Tryz.func277.trans (congrArg some (by kernel_rfl))
 f266:=Tryz.func290.trans (congrArg some (by kernel_rfl))
 t3:=Tryz.underlying3
 a3:=Tryz.isAgg3
 z3:=Tryz.sizeOf3
 v3:=Tryz.zeroValue3
 t5:=Tryz.underlying5
 a5:=Tryz.isAgg5
 z5:=Tryz.sizeOf5
 v5:=Tryz.zeroValue5
 t9:=Tryz.underlying9
 a9:=Tryz.isAgg9
 z9:=Tryz.sizeOf9
 v9:=Tryz.zeroValue9 }
open Go.RowKit in
theorem Tryz.strings_IndexByte (s:ByteArray) (c:Int) (w:World) :
  Calls Tryz.prog 261 #[.string s,.int .u8 c] w fun e w'=>e=.returned (.int .i64 (Lib.indexByte s.data.toList c.toNat.toUInt8))∧w'=w:=Any.strings_IndexByte Tryz.lays137 s c w
end Go.Proofs
