/- Maps whose keys are pointers at nodes. The closure that compares children: its contract. .. -/
import Derived.MapKept
import Derived.Laws.Pointers
import Derived.Shelf.SlGeneric
import Derived.Shelf.SlSortCmp.NoneTotal
import Derived.Sort.OwnSorted
import Derived.OrdersHeld
import Derived.Deep.RegionHeld
import Derived.Test.YthgabkgmkolobaaGreatQ5
set_option maxRecDepth 100000
set_option maxHeartbeats 800000
namespace Go.Proofs.YthgabkgmkolobaaGreat
section
open Go.RowKit Go.Deep
def Plain (w:World) (b:Nat):Prop:=∃c t,w.heap[b]? = some (.cells c t (0,0))/\0<c.size
section
variable {P:Program} {w:World}
theorem TA {a b:Nat} (ha:Plain w a) (hb:Plain w b):(sameAddr ⟨a,0,none⟩ ⟨b,0,none⟩).run P w=.ok (decide (a=b)) w:=by
 obtain ⟨ca,ta,ha,hca⟩:=ha;obtain ⟨cb,tb,hb,hcb⟩:=hb;by_cases h:a=b
 ·subst h;simp [sameAddr]
 ·have h1:(a==b)=false:=by simp [h]
  simp [sameAddr,h1,h,World.frozen?,ha,hb,noView,viewAt,mayBeOne,stringish,World.shape?,getObj,Sem.run,shape,frozen]
def pk:Option Nat->Value
 | none=>.pointer none
 | some b=>.pointer (some ⟨b,0,none⟩)
def lW (w:World):Option Nat->Prop
 | none=>True
 | some b=>Plain w b
theorem run_eqIn {t e:TypeId} (ht:P.underlying t=some (.pointer e)) (he:∀w,(sizeOf e).run P w=.ok 3 w) {x y:Option Nat} (hx:lW w x) (hy:lW w y) (d:Nat):(Op.equalIn (d+1) t (pk x) (pk y)).run P w=.ok (decide (x=y)) w:=by
 have hu:=run_underlying (w:=w) ht;unfold Op.equalIn;cases x with
 | none=>cases y<;>simp [hu,pk]
 | some a =>
  cases y with
  | none=>simp [hu,pk]
  | some b =>
   have h:=TA (P:=P) hx hy;simp [hu,pk,he,h]
theorem Yz {t e:TypeId} (ht:P.underlying t=some (.pointer e)) (he:∀w,(sizeOf e).run P w=.ok 3 w) {x y:Option Nat} (hx:lW w x) (hy:lW w y):(Op.equal t (pk x) (pk y)).run P w=.ok (decide (x=y)) w :=
 run_eqIn ht he hx hy 9999
theorem run_asking {t e:TypeId} (ht:P.underlying t=some (.pointer e)) (he:∀w,(sizeOf e).run P w=.ok 3 w) {k:Option Nat} (hk:lW w k):∀(es:List MapEntry) (l:List (Option Nat×Value)) (i:Nat),
  es.map (fun x=>(x.key,x.val))=l.map (fun x=>(pk x.1,x.2))->(∀x∈l,lW w x.1) ->
   (l.lookup k=none/\(Instr.findAsking t (pk k) es i).run P w=.ok none w)\/∃j v,l.lookup k=some v/\(Instr.findAsking t (pk k) es i).run P w=.ok (some (j,v)) w:=by
 intro es
 induction es with
 | nil =>
  intro l i hl _;cases l with
  | nil=>exact .inl ⟨rfl,by simp [Instr.findAsking]⟩
  | cons=>cases hl
 | cons x es ih =>
  intro l i hl hok;cases l with
  | nil=>cases hl
  | cons y l =>
   simp only [cK,List.cons.injEq,mj] at hl;obtain ⟨⟨h1,h2⟩,h3⟩:=hl;have heq:=Yz (w:=w) ht he hk (hok y (by simp));rw [<- h1] at heq;by_cases h:k=y.1
   ·subst h
    refine .inr ⟨i,y.2,?_,?_⟩
    ·obtain ⟨y1,y2⟩:=y;simp
    ·simp [Instr.findAsking,heq,h2]
   ·have hb:(k==y.1)=false:=by simpa using h
    rcases ih l (i+1) h3 (fun z hz=>hok z (by simp [hz])) with ⟨h4,h5⟩ | ⟨j,v,h4,h5⟩
    ·refine .inl ⟨?_,by simp [Instr.findAsking,heq,h,h5]⟩
     obtain ⟨y1,y2⟩:=y;rw [eC,hb];exact h4
    ·refine .inr ⟨j,v,?_,by simp [Instr.findAsking,heq,h,h5]⟩
     obtain ⟨y1,y2⟩:=y;rw [eC,hb];exact h4
def qH (w:World) (b:Nat) (l:List (Option Nat×Value)):Prop:=∃es clock,w.heap[b]? = some (.map es clock)/\es.toList.map (fun x=>(x.key,x.val))=l.map (fun x=>(pk x.1,x.2))
theorem run_findKey {t e:TypeId} (ht:P.underlying t=some (.pointer e)) (he:∀w,(sizeOf e).run P w=.ok 3 w) {k:Option Nat} (hk:lW w k) (es:List MapEntry) (l:List (Option Nat×Value))
  (hl:es.map (fun x=>(x.key,x.val))=l.map (fun x=>(pk x.1,x.2))) (hok:∀x∈l,lW w x.1) :
   (l.lookup k=none/\(Instr.findKey t (pk k) es).run P w=.ok none w)\/∃j v,l.lookup k=some v/\(Instr.findKey t (pk k) es).run P w=.ok (some (j,v)) w:=by
 have hu:=run_underlying (w:=w) ht;have h:=run_asking ht he hk es l 0 hl hok;cases es with
 | nil =>
  cases l with
  | nil=>exact .inl ⟨rfl,by simp [Instr.findKey,hu,Instr.findNow]⟩
  | cons=>cases hl
 | cons x es =>
  have hn:Instr.findNow (.pointer e) (pk k) (x::es) 0=none:=by simp [Instr.findNow,Instr.sameNow]
  rcases h with ⟨h1,h2⟩ | ⟨j,v,h1,h2⟩
  ·exact .inl ⟨h1,by simp [Instr.findKey,hu,hn,h2]⟩
  ·exact .inr ⟨j,v,h1,by simp [Instr.findKey,hu,hn,h2]⟩
theorem run_checkKey {t e:TypeId} (ht:P.underlying t=some (.pointer e)) (em:Bool) (k:Option Nat):(Instr.checkKey em 10000 t (pk k)).run P w=.ok () w:=by
 have hu:=run_underlying (w:=w) ht;show (Instr.checkKey em (9999+1) t (pk k)).run P w=_;unfold Instr.checkKey;cases k<;>simp [hu,pk]
theorem FE {mt t e el:TypeId} (hm:P.underlying mt=some (.map t el)) (ht:P.underlying t=some (.pointer e)) (he:∀w,(sizeOf e).run P w=.ok 3 w) {b:Nat} {l:List (Option Nat×Value)} (h:qH w b l) {k:Option Nat} {v:Value}
  (hk:lW w k) (hok:∀x∈l,lW w x.1) (hv:l.lookup k=some v):(Instr.lookup mt (.map (some b)) (pk k) false).run P w=.ok v w:=by
 obtain ⟨es,clock,hb,hl⟩:=h;have hu:=run_underlying (w:=w) hm;have hg:=yX (P:=P) hb;rcases run_findKey ht he hk es.toList l hl hok with ⟨h1,h2⟩ | ⟨j,v',h1,h2⟩
 ·rw [h1] at hv;cases hv
 ·rw [h1] at hv;injection hv with hv;subst hv
  simp [Instr.lookup,hu,hg,run_checkKey ht,h2]
theorem TB {mt t e el:TypeId} (hm:P.underlying mt=some (.map t el)) (ht:P.underlying t=some (.pointer e)) (he:∀w,(sizeOf e).run P w=.ok 3 w) {b:Nat} {l:List (Option Nat×Value)} (h:qH w b l) {k:Option Nat} (v:Value)
  (hk:lW w k) (hok:∀x∈l,lW w x.1) (hv:l.lookup k=none) :
  ∃w',(Instr.mapUpdate mt (.map (some b)) (pk k) v).run P w=.ok () w'/\qH w' b (l++[(k,v)])/\w'.heap.size=w.heap.size/\w'.os=w.os/\w'.tape=w.tape/\w'.output=w.output/\∀j,j≠b->w'.heap[j]? = w.heap[j]?:=by
 obtain ⟨es,clock,hb,hl⟩:=h;have hu:=run_underlying (w:=w) hm;have hg:=yX (P:=P) hb;rcases run_findKey ht he hk es.toList l hl hok with ⟨h1,h2⟩ | ⟨j,v',h1,h2⟩
 ·have hs:=Eg (P:=P) (.map (es.push { key:=pk k,val:=v,born:=clock }) (clock+1)) hb
  refine ⟨{ w with heap:=w.heap.setIfInBounds b (.map (es.push { key:=pk k,val:=v,born:=clock }) (clock+1)) },by simp [Instr.mapUpdate,hu,hg,run_checkKey ht,h2,hs],⟨es.push { key:=pk k,val:=v,born:=clock },clock+1,?_,by simp [hl]⟩,by simp,rfl,rfl,rfl,fun j hj=>?_⟩
  ·have:=(fR.1 hb).1
   simp [this]
  ·simp [Ne.symm hj]
 ·rw [h1] at hv;cases hv
end
theorem Tryz.BF:∀w,(Go.sizeOf 122).run Tryz.prog w=.ok 3 w:=Tryz.sizeOf122
structure sL (n:Nat) (A:Nat->Nat) (kv:Nat->Value) (w w':World):Prop where
 os:w'.os=w.os
 tape:w'.tape=w.tape
 output:w'.output=w.output
 size:w.heap.size<=w'.heap.size
 block:∀b,b<w.heap.size->(∀i,i<n->b≠A i)->(∀i,i<n->(kv i).ownBlock≠some b)->w'.heap[b]? = w.heap[b]?
section
variable {n base:Nat} {A:Nat->Nat} {kv:Nat->Value} {F:ct} {a b c:World}
theorem sL.refl (n:Nat) (A:Nat->Nat) (kv:Nat->Value) (w:World):sL n A kv w w:=⟨rfl,rfl,rfl,af _,fun _ _ _ _=>rfl⟩
theorem sL.trans (h:sL n A kv a b) (k:sL n A kv b c):sL n A kv a c :=
 ⟨k.os.trans h.os,k.tape.trans h.tape,k.output.trans h.output,aJ h.size k.size,fun j hj h1 h2=>(k.block j (js hj h.size) h1 h2).trans (h.block j hj h1 h2)⟩
theorem sL.JY (h:Up a b):sL n A kv a b:=⟨h.os,h.tape,h.output,h.size,fun j hj _ _=>bI h j hj⟩
theorem sL.below (h:sL n A kv a b) (hF:cU base n A kv F a) (hb:base<=a.heap.size):Below base a b :=
 ⟨h.os,h.tape,h.output,h.size,fun j hj=>h.block j (by omega) (fun i hi e=>by have:=hF.lo i hi;omega) (fun i hi e=>by have:=(hF.ni hi e).1;omega)⟩
end
theorem sorted1_t (w:World) (bx m0 x y:Nat) (l:List (Option Nat×Value)) (sx sy:ByteArray) (iT:w.cell? ⟨bx,0,none⟩=some (.map (some m0))) (hm:qH w m0 l) (hok:∀z∈l,lW w z.1) (hx:Plain w x) (hy:Plain w y)
  (h1:l.lookup (some x)=some (.string sx)) (h2:l.lookup (some y)=some (.string sy)) :
  Calls Tryz.prog 241 #[.pointer (some ⟨x,0,none⟩),.pointer (some ⟨y,0,none⟩),.pointer (some ⟨bx,0,none⟩)] w fun e w'=>e=.returned (.int .i64 (fG sx sy))/\w=w':=by
 have g1:=FE (P:=Tryz.prog) Tryz.underlying245 Tryz.underlying119 Tryz.BF hm (k:=some x) hx hok h1;have g2:=FE (P:=Tryz.prog) Tryz.underlying245 Tryz.underlying119 Tryz.BF hm (k:=some y) hy hok h2;simp only [pk] at g1 g2;clear hm hok hx hy h1 h2
 go_enter Tryz.func241,Tryz.ntmps241
 go_wp2_with (go_at_call 242;refine (Tryz.strings_Compare sx sy _).mono ?_;rintro e w' ⟨rfl,rfl⟩);go_ret;exact ⟨rfl,rfl⟩
end
end Go.Proofs.YthgabkgmkolobaaGreat
namespace Go.Proofs
open Go.Shelf
def Tryz.sortNode_ren:Go.Shelf.Ren:=⟨fun | 6=>240 | 15=>127 | 14=>271 | 28=>181 | 29=>182 | 20=>281 | 21=>282 | 22=>283 | 23=>284 | 24=>285 | 25=>286 | 26=>287 | 27=>288 | 46=>291 | 47=>235 | 48=>236 | 49=>292 | 50=>293 | 57=>294 | n=>n,fun | 22=>120 | 24=>119 | 25=>247 | 3=>3 | 39=>154 | 0=>0 | 53=>191 | 55=>193 | 4=>4 | 46=>183 | 45=>182 | 50=>188 | 5=>5 | 9=>9 | 66=>238 | 70=>242 | 76=>267 | 77=>177 | n=>n,fun | n=>n⟩
theorem Tryz.sortNode:Go.Proofs.SlLaysF.n6 Tryz.prog Tryz.sortNode_ren:={
 mixed:=by kernel_rfl
 f6:=⟨Tryz.f240.name,by decide,Tryz.func240.trans (congrArg some (by kernel_rfl))⟩
 f14:=⟨Tryz.f271.name,by decide,Tryz.func271.trans (congrArg some (by kernel_rfl))⟩
 f15:=Tryz.func127.trans (congrArg some (by kernel_rfl))
 f20:=⟨Tryz.f281.name,by decide,Tryz.func281.trans (congrArg some (by kernel_rfl))⟩
 f21:=⟨Tryz.f282.name,by decide,Tryz.func282.trans (congrArg some (by kernel_rfl))⟩
 f22:=⟨Tryz.f283.name,by decide,Tryz.func283.trans (congrArg some (by kernel_rfl))⟩
 f23:=⟨Tryz.f284.name,by decide,Tryz.func284.trans (congrArg some (by kernel_rfl))⟩
 f24:=⟨Tryz.f285.name,by decide,Tryz.func285.trans (congrArg some (by kernel_rfl))⟩
 f25:=⟨Tryz.f286.name,by decide,Tryz.func286.trans (congrArg some (by kernel_rfl))⟩
 f26:=⟨Tryz.f287.name,by decide,Tryz.func287.trans (congrArg some (by kernel_rfl))⟩
 f27:=⟨Tryz.f288.name,by decide,Tryz.func288.trans (congrArg some (by kernel_rfl))⟩
 f28:=Tryz.func181.trans (congrArg some (by kernel_rfl))
 f29:=Tryz.func182.trans (congrArg some (by kernel_rfl))
 f46:=⟨Tryz.f291.name,by decide,Tryz.func291.trans (congrArg some (by kernel_rfl))⟩
 f47:=Tryz.func235.trans (congrArg some (by kernel_rfl))
 f48:=Tryz.func236.trans (congrArg some (by kernel_rfl))
 f49:=⟨Tryz.f292.name,by decide,Tryz.func292.trans (congrArg some (by kernel_rfl))⟩
 f50:=⟨Tryz.f293.name,by decide,Tryz.func293.trans (congrArg some (by kernel_rfl))⟩
 f57:=⟨Tryz.f294.name,by decide,Tryz.func294.trans (congrArg some (by kernel_rfl))⟩
 t0:=Tryz.underlying0
 a0:=Tryz.isAgg0
 z0:=Tryz.sizeOf0
 v0:=Tryz.zeroValue0
 t3:=Tryz.underlying3
 a3:=Tryz.isAgg3
 z3:=Tryz.sizeOf3
 v3:=Tryz.zeroValue3
 t4:=Tryz.underlying4
 a4:=Tryz.isAgg4
 z4:=Tryz.sizeOf4
 v4:=Tryz.zeroValue4
 t5:=Tryz.underlying5
 a5:=Tryz.isAgg5
 z5:=Tryz.sizeOf5
 v5:=Tryz.zeroValue5
 t9:=Tryz.underlying9
 a9:=Tryz.isAgg9
 z9:=Tryz.sizeOf9
 v9:=Tryz.zeroValue9
 t22:=Tryz.underlying120
 a22:=Tryz.isAgg120
 z22:=Tryz.sizeOf120
 v22:=Tryz.zeroValue120
 a24:=Tryz.isAgg119
 z24:=Tryz.sizeOf119
 t25:=Tryz.underlying247
 a25:=Tryz.isAgg247
 z25:=Tryz.sizeOf247
 v25:=Tryz.zeroValue247
 t39:=Tryz.underlying154
 a39:=Tryz.isAgg154
 z39:=Tryz.sizeOf154
 v39:=Tryz.zeroValue154
 t45:=Tryz.underlying182
 a45:=Tryz.isAgg182
 z45:=Tryz.sizeOf182
 v45:=Tryz.zeroValue182
 t46:=Tryz.underlying183
 a46:=Tryz.isAgg183
 z46:=Tryz.sizeOf183
 v46:=Tryz.zeroValue183
 t50:=Tryz.underlying188
 a50:=Tryz.isAgg188
 z50:=Tryz.sizeOf188
 v50:=Tryz.zeroValue188
 t53:=Tryz.underlying191
 a53:=Tryz.isAgg191
 z53:=Tryz.sizeOf191
 v53:=Tryz.zeroValue191
 t55:=Tryz.underlying193
 a55:=Tryz.isAgg193
 z55:=Tryz.sizeOf193
 v55:=Tryz.zeroValue193
 t66:=Tryz.underlying238
 a66:=Tryz.isAgg238
 z66:=Tryz.sizeOf238
 v66:=Tryz.zeroValue238
 t70:=Tryz.underlying242
 a70:=Tryz.isAgg242
 z70:=Tryz.sizeOf242
 v70:=Tryz.zeroValue242
 t76:=Tryz.underlying267
 a76:=Tryz.isAgg267
 z76:=Tryz.sizeOf267
 v76:=Tryz.zeroValue267
 t77:=Tryz.underlying177
 a77:=Tryz.isAgg177
 z77:=Tryz.sizeOf177
 v77:=Tryz.zeroValue177 }
end Go.Proofs
namespace Go.Proofs.YthgabkgmkolobaaGreat
section
open Go.RowKit Go.Deep Go.Sort Go.Shelf Go.Lib
section
variable {α:Type} [Inhabited α] {enc:α->Value}
theorem take_put (cur:Array Value) (ts:List α) (h:ts.length<=cur.size):(putCells enc 0 ts.toArray cur).toList.take ts.length=ts.map enc:=by
 apply wN;intro j;by_cases hj:j<ts.length
 ·rw [List.getElem?_take_of_lt hj,oW]
  simp [putCells,hj,show j<cur.size by omega]
 ·rw [List.getElem?_take_eq_none (by omega),vh (by simp;omega)]
theorem Es (w:World) (g n:Nat) (d:Array α) (os:Array Obj):w.heap.size<=(sortWorld enc w g 0 n d os).heap.size:=by
 simp [sortWorld,grow,putRow,mapBlock,Sort.ahead]
theorem iL {w:World} {g n:Nat} {d:Array α} {os:Array Obj} {b:Nat} (h:b≠g) (hl:b<w.heap.size):(sortWorld enc w g 0 n d os).heap[b]? = w.heap[b]?:=by
 unfold sortWorld;rw [heap_grow_old _ _ (by simpa [putRow,mapBlock,Sort.ahead] using hl)];simp [putRow,mapBlock,Sort.ahead,Array.getElem?_modify,Ne.symm h]
theorem SI {w:World} {g n:Nat} {d:Array α} {os:Array Obj} {cur:Array Value} {e:TypeId} {fr:Nat×Nat} (hb:w.heap[g]? = some (.cells cur e fr)) :
  (sortWorld enc w g 0 n d os).heap[g]? = some (.cells (putCells enc 0 d cur) e fr):=by
 have hg:g<w.heap.size:=(fR.1 hb).1;unfold sortWorld;rw [heap_grow_old _ _ (by simpa [putRow,mapBlock,Sort.ahead] using hg)];simp [putRow,mapBlock,Sort.ahead,Array.getElem?_modify,hb,onCells]
end
theorem ax.sorted {α:Type} [Inhabited α] {enc:α->Value} {base g cap n:Nat} {e:TypeId} {w:World} {os:Array Obj} {vs:List Value} {ts:List α} (h:ax base e w (.slice (some ⟨g,0,none⟩) vs.length cap) vs) (hl:ts.length=vs.length) :
  ax base e (sortWorld enc w g 0 n ts.toArray os) (.slice (some ⟨g,0,none⟩) vs.length cap) (ts.map enc):=by
 obtain ⟨_,⟨h1,_⟩ | ⟨g',cap',cur,hs,hg,hc,hn,hcm,hcs,ht⟩⟩:=h
 ·cases h1
 ·injection hs with hs1 hs2 hs3
  injection hs1 with hs1;injection hs1 with hs1;subst hs1;subst hs3;refine ⟨by simp,.inr ⟨g,cap,putCells enc 0 ts.toArray cur,by simp [hl],hg,SI hc,by simp [hl];exact hn,hcm,by simpa [putCells] using hcs,?_⟩⟩;rw [aG,Nat.mul_one];exact take_put cur ts (by omega)
theorem ltOf_cmp (f:Nat->ByteArray) {L:List Nat}:SWO (ltOf fun (x y:{k // k∈L})=>fG (f x.1) (f y.1)) where
 irrefl x:=by simp [ltOf,Qn]
 trans x y z h1 h2:=by
  simp only [ltOf,decide_eq_true_eq] at *
  exact Ap h1 h2
 ntrans x y z h1 h2:=by
  simp only [ltOf,decide_eq_false_iff_not] at *
  intro h3
  by_cases e:fG (f x.1) (f y.1)=0
  ·rw [nD e] at h3;exact h2 h3
  ·have h4:fG (f y.1) (f x.1)<0:=by have:=nC (f x.1) (f y.1);omega
   exact h2 (Ap h4 h3)
def SnPost (n base:Nat) (A:Nat->Nat) (kv:Nat->Value) (F:ct) (w:World) (i:Nat) (l:List Nat) (e:Ending) (w':World):Prop :=
 e=.returned (.tuple #[])/\cU base n A kv { F with kids:=upd F.kids i l } w'/\sL n A kv w w'
theorem cU.plain {base n:Nat} {A:Nat->Nat} {kv:Nat->Value} {F:ct} {w:World} (h:cU base n A kv F w) {i:Nat} (hi:i<n):Plain w (A i):=⟨_,_,h.node i hi,by simp⟩
theorem Plain.of_block {w w':World} {b:Nat} (h:Plain w b) (e:w'.heap[b]? = w.heap[b]?):Plain w' b:=by
 obtain ⟨c,t,h1,h2⟩:=h;exact ⟨c,t,by rw [e];exact h1,h2⟩
theorem qH.of_block {w w':World} {b:Nat} {l:List (Option Nat×Value)} (h:qH w b l) (e:w'.heap[b]? = w.heap[b]?):qH w' b l:=by
 obtain ⟨es,c,h1,h2⟩:=h;exact ⟨es,c,by rw [e];exact h1,h2⟩
theorem qH.lt {w:World} {b:Nat} {l:List (Option Nat×Value)} (h:qH w b l):b<w.heap.size:=by
 obtain ⟨es,c,h1,h2⟩:=h;exact (fR.1 h1).1
theorem XH {base n:Nat} {A:Nat->Nat} {kv:Nat->Value} {F:ct} {w:World} (hF:cU base n A kv F w) {i g cap:Nat} (hi:i<n) (hv:kv i=.slice (some ⟨g,0,none⟩) (F.kids i).length cap) (h0:F.kids i≠[]) (hlen:(F.kids i).length<=1000000)
  (f:Nat->ByteArray) (hs:Sep f (F.kids i)) {bx m0:Nat} {l:List (Option Nat×Value)} (iT:w.cell? ⟨bx,0,none⟩=some (.map (some m0))) (hm:qH w m0 l) (hgb:g≠bx) (hgm:g≠m0)
  (hl:∀k∈F.kids i,l.lookup (some (A k))=some (.string (f k))) (hok:∀z∈l,∃k,k<n/\z.1=some (A k)) :
  Calls Tryz.prog 240 #[kv i,.func (.func 241) #[] #[.pointer (some ⟨bx,0,none⟩)]] w (SnPost n base A kv F w i (fV f (F.kids i))):=by
 obtain ⟨k0,kW⟩:∃k,k∈F.kids i:=Fs _ h0;letI:Inhabited {k // k∈F.kids i}:=⟨⟨k0,kW⟩⟩;have hown:=hF.own i hi;rw [hv] at hown;have hgo:(kv i).ownBlock=some g:=by rw [hv];rfl
 have CT:=(hF.ni hi hgo).2;have hAg:∀j,j<n->A j≠g:=fun j hj e=>hF.apart i j hi hj (by rw [hgo,e]);have eg:∀args w,(callFunc 241 args).run Tryz.prog w=.ok (.enter 241 args) w:=enters_of Tryz.func241 (by kernel_rfl) rfl;have hsize:((F.kids i).attach.toArray).size=(F.kids i).length:=by simp
 have qA:((F.kids i).map (cV A)).length=(F.kids i).length:=by simp
 have hH:Holds (fun (x:{k // k∈F.kids i})=>cV A x.1) w g 0 (F.kids i).attach.toArray:=by
  intro j hj;rw [hsize] at hj;obtain ⟨p,c,e,_,H⟩:=hown.vz.open;injection e with e1;subst e1;obtain ⟨b,off,e,hc⟩:=H j (by rw [qA];exact hj);injection e with e;injection e with e1 e2;subst e1;subst e2;refine ⟨?_,?_⟩
  ·rw [hc,getElem!_pos _ _ (by simpa using hj)];simp [hj]
  ·obtain ⟨_,⟨h1,_⟩ | ⟨g',cap',cur,hs',_,hc',_⟩⟩:=hown
   ·cases h1
   ·injection hs' with hs1
    injection hs1 with hs1;injection hs1 with hs1;subst hs1;simp [World.frozen?,hc']
 have hcmp:CmpLays1 Tryz.prog 241 #[.pointer (some ⟨bx,0,none⟩)] (fun (x:{k // k∈F.kids i})=>cV A x.1) (fun x y=>fG (f x.1) (f y.1)) g 0 (F.kids i).attach.toArray.size w:=by
  intro m os dk hdk x y;have hx:=hF.kid i hi x.1 x.2;have hy:=hF.kid i hi y.1 y.2;have hbl:bx<w.heap.size:=eG w _ iT;have h1:(sortWorld (fun (x:{k // k∈F.kids i})=>cV A x.1) w g 0 m dk os).cell? ⟨bx,0,none⟩=some (.map (some m0)):=by rw [eX (a:=⟨bx,0,none⟩) (iL (gj hgb) hbl)];exact iT
  refine (sorted1_t _ bx m0 (A x.1) (A y.1) l (f x.1) (f y.1) h1 (hm.of_block (iL (gj hgm) hm.lt)) (fun z hz=>?_)
   ((hF.plain hx).of_block (iL (hAg _ hx) (hF.lt hx))) ((hF.plain hy).of_block (iL (hAg _ hy) (hF.lt hy))) (hl x.1 x.2) (hl y.1 y.2)).mono fun e w' ⟨he,hw⟩=>⟨he,0,#[],by rw [<- hw,grow_empty];rfl⟩
  obtain ⟨k,hk,e⟩:=hok z hz;rw [e];exact (hF.plain hk).of_block (iL (hAg _ hk) (hF.lt hk))
 have hcon:=Any.slices_SortFunc_total Tryz.sortNode (fun (x:{k // k∈F.kids i})=>cV A x.1) (fun _=>rfl) (fun x y=>fG (f x.1) (f y.1)) (ltOf_cmp f) 241 #[.pointer (some ⟨bx,0,none⟩)] g 0 cap (F.kids i).attach.toArray w eg hcmp hH CT (by rw [hsize];omega)
  (fun x y h1 h2=>by
   simp only [ltOf,decide_eq_false_iff_not] at h1 h2;have h3:fG (f x.1) (f y.1)=0:=by have:=nC (f x.1) (f y.1);omega
   exact Subtype.ext (hs x.1 x.2 y.1 y.2 (nD h3)))
 rw [hsize,<- hv] at hcon;refine hcon.mono fun e w' ⟨he,m,os,hw⟩=>⟨he,?_,?_⟩
 ·have hsrt:(((F.kids i).attach.toArray.toList.mergeSort fun x y=>!(ltOf fun (x y:{k // k∈F.kids i})=>fG (f x.1) (f y.1)) y x).map fun x=>x.1)=fV f (F.kids i):=by
   have h:=List.map_mergeSort (f:=fun (x:{k // k∈F.kids i})=>x.1) (r:=fun x y=>!(ltOf fun (x y:{k // k∈F.kids i})=>fG (f x.1) (f y.1)) y x) (s:=vV f) (l:=(F.kids i).attach) (fun a _ b _=>by
    simp only [ltOf,vV]
    have:=nC (f a.1) (f b.1)
    by_cases h:fG (f a.1) (f b.1)<=0
    ·rw [decide_eq_true h];simp;omega
    ·rw [decide_eq_false h];simp;omega)
   rw [List.toList_toArray]
   rw [h,List.attach_map_subtype_val]
   rfl
  have ho:ax base 119 w' (kv i) ((fV f (F.kids i)).map (cV A)):=by
   rw [hv,hw,<- hsrt,jO]
   have h:=ax.sorted (enc:=fun (x:{k // k∈F.kids i})=>cV A x.1) (n:=m) (os:=os) (ts:=((F.kids i).attach.toArray.toList.mergeSort fun x y=>!(ltOf fun (x y:{k // k∈F.kids i})=>fG (f x.1) (f y.1)) y x)) (vs:=(F.kids i).map (cV A)) (by rw [qA];exact hown) (by simp)
   rw [qA] at h
   exact h
  have hsame:∀b,b≠g->b<w.heap.size->w'.heap[b]? = w.heap[b]?:=fun b hb hbl=>by rw [hw];exact iL hb hbl
  have h2:=hF.put (w':=w') (k:=i) (v:=kv i) (ks:=fV f (F.kids i)) hi (fun j hj _=>hsame _ (hAg j hj) (hF.lt hj)) (by rw [hsame _ (hAg i hi) (hF.lt hi)];exact hF.node i hi) ho
   (fun j b hj hji hb=>hsame b (fun e=>hji (hF.alone j i b hj hi hb (by rw [hgo,e]))) (hF.ni hj hb).2) (fun b hb=>.inl hb) (fun j hj=>hF.kid i hi j ((jo _ _).mem_iff.1 hj))
  have hkv:upd kv i (kv i)=kv:=by
   funext j;by_cases e:j=i
   ·subst e;exact upd_same _ _ _
   ·exact upd_ne _ _ e
  rw [hkv] at h2
  exact h2
 ·rw [hw]
  exact ⟨rfl,rfl,rfl,Es _ _ _ _ _,fun b hb _ h2=>iL (fun e=>h2 i hi (by rw [hgo,e])) hb⟩
end
section
open Go.RowKit Go.Deep
section
variable {P:Program} {ops:Array Oper} {Q:Exit->Act->World->Prop} {md:Region.Mode} {S:World->Prop} {t:Nat}
def o6 (t:Nat) (l:Array Bool):Prop:=∃m,m<t/\l.getD m true=false
def BG (t:Nat) (md:Region.Mode) (ops:Array Oper) (l:Array Bool) (i:Nat):Bool:=(List.range t).any fun m=>!l.getD m true&&(match ops[m]? with | some o=>o.after.any fun e=>Region.binds md e&&e.on==i | none=>false)
def aj (P:Program) (md:Region.Mode) (ops:Array Oper) (Q:Exit->Act->World->Prop) (S:World->Prop) (t:Nat):Nat->Array Bool->Act->World->Prop
 | 0,l,a,w=>Region.ready md ops l=[]/\Q .normal a w
 | n+1,l,a,w=>(Region.ready md ops l=[]->Q .normal a w) /\
  ∀i∈Region.ready md ops l,wpOp P ops Q i (fun a' w'=>(o6 t (l.setIfInBounds i true)->S w')/\aj P md ops Q S t n (l.setIfInBounds i true) a' w') a w
theorem aj.any:∀(n:Nat) (l:Array Bool) (a:Act) (w:World),aj P md ops Q S t n l a w->wpAny P md ops Q n l a w
 | 0,_,_,_,h=>h
 | n+1,_,_,_,h=>⟨h.1,fun i hi=>wpOp_mono (fun a' w' h'=>aj.any n _ a' w' h'.2) (h.2 i hi)⟩
theorem aj.first {i:Nat} {oi:Oper} {v:Value} (hi:ops[i]? = some oi) (hsel:∀(j:Nat) (o:Oper) cs b,ops[j]? = some o->o.op≠.select cs b)
  (hQ:∀c a w,Q (.panic c) (a.put oi.dst v) w->Q (.panic c) a w):∀(n:Nat) (l:Array Bool) (a:Act) (w:World),
   (∀j oj,ops[j]? = some oj->j≠i->l.getD j true=false->(∀e∈oj.after,Region.binds md e=true->e.on≠i)->oi.apart ops oj=true) ->
   i∈Region.ready md ops l->BG t md ops l i=true->YieldsIf P ops S oi v a->S w->aj P md ops Q S t n (l.setIfInBounds i true) (a.put oi.dst v) w->aj P md ops Q S t (n+1) l a w:=by
 intro n
 induction n with
 | zero =>
  intro l a w _ hr _ hy hS H;refine ⟨fun h=>absurd hr (by rw [h];simp),fun j hj=>?_⟩;by_cases hji:j=i
  ·subst hji;exact hy.wpOp hi hS ⟨fun _=>hS,H⟩
  ·exact absurd (ready_mono hj hji) (by rw [H.1];simp)
 | succ n ih =>
  intro l a w hfree hr hwt hy hS H;refine ⟨fun h=>absurd hr (by rw [h];simp),fun j hj=>?_⟩;by_cases hji:j=i
  ·subst hji;exact hy.wpOp hi hS ⟨fun _=>hS,H⟩
  ·have hun:=(mem_ready.1 hr).1
   obtain ⟨BH,oj,td,hall⟩:=mem_ready.1 hj;have hnot:∀e∈oj.after,Region.binds md e=true->e.on≠i:=fun e he hb heq=>by
    have h1:=hall e he hb;rw [heq] at h1;by_cases h':i<l.size
    ·simp [h'] at hun h1;rw [hun] at h1;cases h1
    ·simp [h'] at h1
   have h2:=wpOp_putIf td (hfree j oj td hji BH hnot) (fun cs b=>hsel i oi cs b hi) (fun cs b=>hsel j oj cs b td) hQ hy (H.2 j (ready_mono hj hji));have hir:i∈Region.ready md ops (l.setIfInBounds j true):=ready_mono hr (gj hji);refine wpOp_mono (fun a' w' h3=>?_) h2;have BI:∀k ok,ops[k]? = some ok->k≠i->(l.setIfInBounds j true).getD k true=false->(∀e∈ok.after,Region.binds md e=true->e.on≠i)->oi.apart ops ok=true:=fun k ok hk hki Ic hno=>by
    refine hfree k ok hk hki ?_ hno;by_cases hjk:j=k
    ·rw [<- hjk];exact BH
    ·rw [getD_set_ne true hjk] at Ic;exact Ic
   have hcm:(l.setIfInBounds i true).setIfInBounds j true=(l.setIfInBounds j true).setIfInBounds i true:=Array.setIfInBounds_comm _ _ (gj hji);obtain ⟨m,hml,hm⟩:=eO.1 hwt;have hml:=bh.1 hml;simp only [gD,Ag] at hm;obtain ⟨wV,hm2⟩:=hm;obtain ⟨om,hmo⟩:∃om,ops[m]? = some om:=by
    cases h:ops[m]? with
    | none=>rw [h] at hm2;cases hm2
    | some o=>exact ⟨o,rfl⟩
   rw [hmo] at hm2;obtain ⟨x,hx,e,Qq⟩:=(by simpa using Array.any_eq_true.1 hm2:∃x,∃(hx:x<om.after.size),Region.binds md om.after[x]=true/\om.after[x].on=i);have hmj:m≠j:=fun e2=>by subst e2;rw [hmo] at td;injection td with td;refine hnot om.after[x] ?_ e Qq;rw [<- td];exact Array.getElem_mem hx
   have hmi:m≠i:=fun e2=>by
    subst e2;obtain ⟨_,o3,Ie,h4⟩:=mem_ready.1 hr;rw [hmo] at Ie;injection Ie with Ie;have h5:=h4 om.after[x] (by rw [<- Ie];exact Array.getElem_mem hx) e;rw [Qq] at h5;by_cases h':m<l.size
    ·simp [h'] at hun h5;rw [hun] at h5;cases h5
    ·simp [h'] at h5
   have hS':S w':=h3.2.1 ⟨m,hml,by rw [getD_set_ne true (gj hmj),getD_set_ne true (gj hmi)];exact wV⟩
   have hwt':BG t md ops (l.setIfInBounds j true) i=true:=eO.2 ⟨m,bh.2 hml,by
    rw [getD_set_ne true (gj hmj),wV,hmo];simpa using hm2⟩
   exact ⟨fun _=>hS',ih _ a' w' BI hir hwt' h3.1 hS' (by rw [<- hcm];exact h3.2.2)⟩
theorem aj.free1 {i:Nat} {oi:Oper} {v:Value} (hti:t<=i) (hi:ops[i]? = some oi) (hsel:∀(j:Nat) (o:Oper) cs b,ops[j]? = some o->o.op≠.select cs b)
  (hQ:∀c a w,Q (.panic c) (a.put oi.dst v) w->Q (.panic c) a w):∀(n:Nat) (l:Array Bool) (a:Act) (w:World),
   (∀j oj,ops[j]? = some oj->j≠i->l.getD j true=false->(∀e∈oj.after,Region.binds md e=true->e.on≠i)->oi.apart ops oj=true) ->
   i∈Region.ready md ops l->YieldsIf P ops (fun _=>True) oi v a->(o6 t (l.setIfInBounds i true)->S w)->aj P md ops Q S t n (l.setIfInBounds i true) (a.put oi.dst v) w->aj P md ops Q S t (n+1) l a w:=by
 intro n
 induction n with
 | zero =>
  intro l a w _ hr hy hS H;refine ⟨fun h=>absurd hr (by rw [h];simp),fun j hj=>?_⟩;by_cases hji:j=i
  ·subst hji;exact hy.wpOp hi trivial ⟨hS,H⟩
  ·exact absurd (ready_mono hj hji) (by rw [H.1];simp)
 | succ n ih =>
  intro l a w hfree hr hy hS H;refine ⟨fun h=>absurd hr (by rw [h];simp),fun j hj=>?_⟩;by_cases hji:j=i
  ·subst hji;exact hy.wpOp hi trivial ⟨hS,H⟩
  ·have hun:=(mem_ready.1 hr).1
   obtain ⟨BH,oj,td,hall⟩:=mem_ready.1 hj;have hnot:∀e∈oj.after,Region.binds md e=true->e.on≠i:=fun e he hb heq=>by
    have h1:=hall e he hb;rw [heq] at h1;by_cases h':i<l.size
    ·simp [h'] at hun h1;rw [hun] at h1;cases h1
    ·simp [h'] at h1
   have h2:=wpOp_putIf td (hfree j oj td hji BH hnot) (fun cs b=>hsel i oi cs b hi) (fun cs b=>hsel j oj cs b td) hQ hy (H.2 j (ready_mono hj hji));have hir:i∈Region.ready md ops (l.setIfInBounds j true):=ready_mono hr (gj hji);refine wpOp_mono (fun a' w' h3=>?_) h2;have BI:∀k ok,ops[k]? = some ok->k≠i->(l.setIfInBounds j true).getD k true=false->(∀e∈ok.after,Region.binds md e=true->e.on≠i)->oi.apart ops ok=true:=fun k ok hk hki Ic hno=>by
    refine hfree k ok hk hki ?_ hno;by_cases hjk:j=k
    ·rw [<- hjk];exact BH
    ·rw [getD_set_ne true hjk] at Ic;exact Ic
   have hcm:(l.setIfInBounds i true).setIfInBounds j true=(l.setIfInBounds j true).setIfInBounds i true:=Array.setIfInBounds_comm _ _ (gj hji)
   have hmo:o6 t (l.setIfInBounds j true)->S w':=fun ⟨m,hm,hml⟩=>h3.2.1 ⟨m,hm,by
    rw [hcm,getD_set_ne true (by omega)];exact hml⟩
   refine ⟨hmo,ih _ a' w' BI hir h3.1 (fun ⟨m,hm,hml⟩=>hmo ⟨m,hm,?_⟩) (by rw [<- hcm];exact h3.2.2)⟩;rw [getD_set_ne true (by omega)] at hml;exact hml
theorem aj.free {i:Nat} {oi:Oper} {v:Value} {n:Nat} {l:Array Bool} {a:Act} {w:World} (jg:ops.toList[i]? = some oi)
  (hc:(decide (t<=i)&&Region.noSelect ops&&Region.free md ops l i&&(Region.ready md ops l).contains i)=true)
  (hQ:∀c a w,Q (.panic c) (a.put oi.dst v) w->Q (.panic c) a w) (hg:Region.wanted oi (yielded ops a.tmps)=true) (hy:∀w,(execOp a.eval oi).run P w=.ok (.value v) w) (hS:o6 t (l.setIfInBounds i true)->S w)
  (h:aj P md ops Q S t n (l.setIfInBounds i true) (a.put oi.dst v) w):aj P md ops Q S t (n+1) l a w:=by
 have hi:ops[i]? = some oi:=by rw [<- oW];exact jg
 simp only [gD,decide_eq_true_eq] at hc;obtain ⟨⟨⟨h0,h1⟩,h2⟩,h3⟩:=hc;exact aj.free1 h0 hi (Region.noSelect_spec h1) hQ n l a w (Region.free_spec hi h2) (by simpa using h3) (.inl ⟨hg,fun w _=>hy w⟩) hS h
theorem aj.take {i:Nat} {oi:Oper} {v:Value} {n:Nat} {l:Array Bool} {a:Act} {w:World} (jg:ops.toList[i]? = some oi)
  (hc:(Region.noSelect ops&&Region.free md ops l i&&(Region.ready md ops l).contains i&&BG t md ops l i)=true)
  (hQ:∀c a w,Q (.panic c) (a.put oi.dst v) w->Q (.panic c) a w) (hg:Region.wanted oi (yielded ops a.tmps)=true) (hy:∀w,S w->(execOp a.eval oi).run P w=.ok (.value v) w) (hS:S w)
  (h:aj P md ops Q S t n (l.setIfInBounds i true) (a.put oi.dst v) w):aj P md ops Q S t (n+1) l a w:=by
 have hi:ops[i]? = some oi:=by rw [<- oW];exact jg
 simp only [gD] at hc;obtain ⟨⟨⟨h1,h2⟩,h3⟩,h4⟩:=hc;exact aj.first hi (Region.noSelect_spec h1) hQ n l a w (Region.free_spec hi h2) (by simpa using h3) h4 (.inl ⟨hg,hy⟩) hS h
theorem aj.step {i:Nat} {oi:Oper} {n:Nat} {l:Array Bool} {a:Act} {w:World} (jg:ops.toList[i]? = some oi) (hr:Region.ready md ops l=[i])
  (h:∀K':Act->World->Prop,Shut (∀a w,(o6 t (l.setIfInBounds i true)->S w)->((o6 t (l.setIfInBounds i true)->S w)->aj P md ops Q S t n (l.setIfInBounds i true) a w)->K' a w)->if Region.wanted oi (yielded ops a.tmps)=true then Oper.wp P oi a w K' Q else K' (a.put oi.dst undef) w) :
  aj P md ops Q S t (n+1) l a w :=
 ⟨fun h0=>absurd (h0.symm.trans hr) (by simp),fun j hj=>by
  rw [hr] at hj
  obtain rfl:j=i:=by simpa using hj
  exact wpOp_step (by rw [<- oW];exact jg) fun K' hK=>h K' fun a w hS hW=>hK a w ⟨hS,hW hS⟩⟩
theorem aj.yG {i i2:Nat} {oi KB:Oper} {n:Nat} {l:Array Bool} {a:Act} {w:World} (jg:ops.toList[i]? = some oi) (hi20:ops.toList[i2]? = some KB) (hr:Region.ready md ops l=[i,i2])
  (h:∀K':Act->World->Prop,Shut (∀a w,(o6 t (l.setIfInBounds i true)->S w)->((o6 t (l.setIfInBounds i true)->S w)->aj P md ops Q S t n (l.setIfInBounds i true) a w)->K' a w)->if Region.wanted oi (yielded ops a.tmps)=true then Oper.wp P oi a w K' Q else K' (a.put oi.dst undef) w)
  (h2:∀K':Act->World->Prop,Shut (∀a w,(o6 t (l.setIfInBounds i2 true)->S w)->((o6 t (l.setIfInBounds i2 true)->S w)->aj P md ops Q S t n (l.setIfInBounds i2 true) a w)->K' a w)->if Region.wanted KB (yielded ops a.tmps)=true then Oper.wp P KB a w K' Q else K' (a.put KB.dst undef) w) :
  aj P md ops Q S t (n+1) l a w :=
 ⟨fun h0=>absurd (h0.symm.trans hr) (by simp),fun j hj=>by
  rw [hr] at hj
  rcases aW.1 hj with rfl | hj
  ·exact wpOp_step (by rw [<- oW];exact jg) fun K' hK=>h K' fun a w hS hW=>hK a w ⟨hS,hW hS⟩
  ·obtain rfl:j=i2:=by simpa using hj
   exact wpOp_step (by rw [<- oW];exact hi20) fun K' hK=>h2 K' fun a w hS hW=>hK a w ⟨hS,hW hS⟩⟩
theorem aj.done {l:Array Bool} {a:Act} {w:World} {n:Nat} (hr:Region.ready md ops l=[]) (h:Q .normal a w):aj P md ops Q S t n l a w:=by
 cases n with
 | zero=>exact ⟨hr,h⟩
 | succ n=>exact ⟨fun _=>h,fun j hj=>(by rw [hr] at hj;cases hj)⟩
theorem aO {t:Nat} {l:Array Bool} (h:((List.range t).all fun m=>l.getD m true)=true) {p:Prop}:o6 t l->p:=fun ⟨m,hm,hl⟩=>by
 have:=wL.1 h m (bh.2 hm)
 rw [hl] at this;cases this
theorem gQ {id:Nat} {a:Act} {w:World} (hm:P.follows .mixedOrders=true) (t:Nat) (S:World->Prop) (hS:S w.drew)
  (h:S w.drew->aj P .any ops Q S t ops.size (Array.replicate ops.size false) a w.drew):(Code.region id ops true).wp P Q a w:=wp_region_any hm (aj.any _ _ _ _ (h hS))
end
section
variable {P:Program} {ops:Array Oper} {md:Region.Mode} {Q:Exit->Act->World->Prop} {S:World->Prop} {t:Nat}
theorem aj.tk (i:Nat) {oi:Oper} {v:Value} {n:Nat} {l:Array Bool} {a:Act} {w:World} (hS:S w)
  (h:aj P md ops Q S t n (l.setIfInBounds i true) (a.put oi.dst v) w) (jg:ops.toList[i]? = some oi:=by rfl)
  (hc:(Region.noSelect ops&&Region.free md ops l i&&(Region.ready md ops l).contains i&&BG t md ops l i)=true:=by kernel_rfl)
  (hQ:∀c a w,Q (.panic c) (a.put oi.dst v) w->Q (.panic c) a w:=by exact (fun _ _ _ h=>h)) (hg:Region.wanted oi (yielded ops a.tmps)=true:=by rfl)
  (hy:∀w,S w->(execOp a.eval oi).run P w=.ok (.value v) w:=by (intro w hSw;(try dsimp only at hSw);go_simp;(try with_reducible rfl))):aj P md ops Q S t (n+1) l a w :=
 aj.take jg hc hQ hg hy hS h
theorem aj.fr (i:Nat) {oi:Oper} {v:Value} {n:Nat} {l:Array Bool} {a:Act} {w:World} (hS:o6 t (l.setIfInBounds i true)->S w)
  (h:aj P md ops Q S t n (l.setIfInBounds i true) (a.put oi.dst v) w) (jg:ops.toList[i]? = some oi:=by rfl)
  (hc:(decide (t<=i)&&Region.noSelect ops&&Region.free md ops l i&&(Region.ready md ops l).contains i)=true:=by kernel_rfl)
  (hQ:∀c a w,Q (.panic c) (a.put oi.dst v) w->Q (.panic c) a w:=by exact (fun _ _ _ h=>h)) (hg:Region.wanted oi (yielded ops a.tmps)=true:=by rfl)
  (hy:∀w,(execOp a.eval oi).run P w=.ok (.value v) w:=by (intro w;go_simp;(try with_reducible rfl))):aj P md ops Q S t (n+1) l a w :=
 aj.free jg hc hQ hg hy hS h
end
end
end Go.Proofs.YthgabkgmkolobaaGreat
