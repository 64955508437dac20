/- Maps whose keys are strings. What .. -/
import Derived.Shelf.SlLaysM
import Derived.Ground.SlgmProg
import Derived.Shelf.SortM.Plain
import Derived.Shelf.SortM.SortNone
import Derived.Sort.OwnSortedInts
import Derived.Laws.IdiomStrings
import Derived.Shelf.Slices.In.SortNone
import Derived.Shelf.Lays
import Derived.Shelf.Sort.Plain
import Derived.Test.YthgabkgmkolobaaGreatQ18
set_option maxRecDepth 100000
set_option maxHeartbeats 4000000
namespace Go.Proofs.YthgabkgmkolobaaGreat
section
open Go.RowKit Go.Deep
def vC (l:List (ByteArray×Value)) (k:ByteArray) (v:Value):List (ByteArray×Value):=if (l.lookup k).isNone then l++[(k,v)] else l.map fun x=>if x.1=k then (k,v) else x
def SMap (w:World) (b:Nat) (l:List (ByteArray×Value)):Prop:=∃es clock,w.heap[b]? = some (.map es clock)/\es.toList.map (fun x=>(x.key,x.val))=l.map (fun x=>(Value.string x.1,x.2))
def AD (l:List (ByteArray×Value)):Prop:=(l.map (·.1)).Nodup
theorem YB (a b:ByteArray):(a==b)=decide (a=b):=by
 obtain ⟨a⟩:=a;obtain ⟨b⟩:=b;have:((⟨a⟩:ByteArray)==⟨b⟩)=(a==b):=rfl;rw [this];by_cases h:a=b
 ·subst h;simp
 ·have h2:¬(⟨a⟩:ByteArray)=⟨b⟩:=fun e=>h (ByteArray.mk.inj e)
  rw [decide_eq_false h2];simpa using h
theorem vD (a:ByteArray):(a==a)=true:=by rw [YB];simp
theorem x7 {a b:ByteArray} (h:¬a=b):(a==b)=false:=by rw [YB];simpa using h
section
variable {P:Program} {w:World}
theorem YC (k:ByteArray):∀(es:List MapEntry) (l:List (ByteArray×Value)) (i:Nat),
  es.map (fun x=>(x.key,x.val))=l.map (fun x=>(Value.string x.1,x.2)) ->
   (l.lookup k=none/\Instr.findNow .string (.string k) es i=some none)\/∃j v,l.lookup k=some v/\(l[j]?).map (·.1)=some k/\Instr.findNow .string (.string k) es i=some (some (i+j,v)):=by
 intro es
 induction es with
 | nil =>
  intro l i hl;cases l with
  | nil=>exact .inl ⟨rfl,rfl⟩
  | cons=>cases hl
 | cons x es ih =>
  intro l i hl;cases l with
  | nil=>cases hl
  | cons y l =>
   simp only [dV,List.cons.injEq,kX] at hl;obtain ⟨⟨h1,h2⟩,h3⟩:=hl;obtain ⟨y1,y2⟩:=y;have h1:x.key=.string y1:=h1;have h2:x.val=y2:=h2;by_cases h:k=y1
   ·subst h
    refine .inr ⟨0,y2,by rw [gm,vD],rfl,?_⟩;simp [Instr.findNow,Instr.sameNow,h1,h2,vD]
   ·have hb:(k==y1)=false:=x7 h
    rcases ih l (i+1) h3 with ⟨h4,h5⟩ | ⟨j,v,h4,h5,h6⟩
    ·refine .inl ⟨by rw [gm,hb];exact h4,?_⟩
     simp [Instr.findNow,Instr.sameNow,h1,hb,h5]
    ·refine .inr ⟨j+1,v,by rw [gm,hb];exact h4,by simpa using h5,?_⟩
     simp [Instr.findNow,Instr.sameNow,h1,hb,h6];omega
theorem MX {t:TypeId} (ht:P.underlying t=some .string) (k:ByteArray) (es:List MapEntry) (l:List (ByteArray×Value)) (hl:es.map (fun x=>(x.key,x.val))=l.map (fun x=>(Value.string x.1,x.2))) :
  (l.lookup k=none/\(Instr.findKey t (.string k) es).run P w=.ok none w)\/∃j v,l.lookup k=some v/\(l[j]?).map (·.1)=some k/\(Instr.findKey t (.string k) es).run P w=.ok (some (j,v)) w:=by
 have hu:=run_underlying (w:=w) ht;rcases YC k es l 0 hl with ⟨h1,h2⟩ | ⟨j,v,h1,h2,h3⟩
 ·exact .inl ⟨h1,by simp [Instr.findKey,hu,h2]⟩
 ·exact .inr ⟨j,v,h1,h2,by simp [Instr.findKey,hu,h3]⟩
theorem x8 {t:TypeId} (ht:P.underlying t=some .string) (em:Bool) (k:ByteArray):(Instr.checkKey em 10000 t (.string k)).run P w=.ok () w:=by
 have hu:=run_underlying (w:=w) ht;show (Instr.checkKey em (9999+1) t (.string k)).run P w=_;unfold Instr.checkKey;simp [hu]
theorem Qw {l:List (ByteArray×Value)} {k:ByteArray}:l.lookup k=none↔k∉l.map (·.1):=by
 induction l with
 | nil=>simp
 | cons y l ih =>
  obtain ⟨y1,y2⟩:=y
  rw [gm]
  by_cases h:k=y1
  ·subst h;simp [vD]
  ·have hb:(k==y1)=false:=x7 h
   rw [hb];simp only [dV,bA,not_or]
   exact ⟨fun h2=>⟨h,ih.1 h2⟩,fun h2=>ih.2 h2.2⟩
theorem YD (l:List (ByteArray×Value)) (k:ByteArray) (v:Value):(vC l k v).map (·.1)=if (l.lookup k).isNone then l.map (·.1)++[k] else l.map (·.1):=by
 unfold vC;split
 ·simp
 ·rw [jA]
  refine lz fun x _=>?_;show (if x.1=k then (k,v) else x).1=x.1;split
  ·rename_i h;exact h.symm
  ·rfl
theorem MZ {l:List (ByteArray×Value)} (h:AD l) (k:ByteArray) (v:Value):AD (vC l k v):=by
 unfold AD;rw [YD];split
 ·rename_i h2
  have h3:k∉l.map (·.1):=Qw.1 (by simpa using h2);rw [ua];refine ⟨h,by simp,fun a ha b hb=>?_⟩;have:b=k:=by simpa using hb
  subst this;exact fun e=>h3 (by rw [<- e];exact ha)
 ·exact h
theorem YE {l:List (ByteArray×Value)} (h:AD l) {k:ByteArray} (v:Value) {j:Nat} (hj:(l[j]?).map (·.1)=some k):(l.map fun x=>if x.1=k then (k,v) else x)=l.set j (k,v):=by
 apply xL;intro m;have hjl:j<l.length:=by
  cases hlj:l[j]? with
  | none=>rw [hlj] at hj;cases hj
  | some y=>exact (o8.1 hlj).1
 rw [kr,List.getElem?_set];by_cases e:j=m
 ·subst e
  rw [if_pos rfl,if_pos hjl];rw [kQ hjl] at hj ⊢;have h3:(l[j]).1=k:=by simpa using hj
  simp [h3]
 ·rw [if_neg e]
  cases hm:l[m]? with
  | none=>rfl
  | some y =>
   have hml:=(o8.1 hm).1;(have hne:y.1≠k:=fun h4=>by (have h5:(l.map (·.1))[m]? = (l.map (·.1))[j]?:=by rw [kr,kr,hm,hj];simp [h4]);(have h6:m<(l.map (·.1)).length:=by simpa using hml);(have h7:j<(l.map (·.1)).length:=by simpa using hjl);rw [kQ h6,kQ h7] at h5;injection h5 with h5;exact e ((List.getElem_inj h).1 h5).symm);simp [hne]
theorem SMap.made (w:World):SMap (w.alloc (.map #[] 0)) w.heap.size []:=⟨#[],0,(MapKept.heap_alloc w _).1,rfl⟩
theorem SMap.same {w':World} {b:Nat} {l:List (ByteArray×Value)} (h:SMap w b l) (hb:w'.heap[b]? = w.heap[b]?):SMap w' b l:=by
 obtain ⟨es,clock,h1,h2⟩:=h;exact ⟨es,clock,hb.trans h1,h2⟩
theorem SMap.lt {b:Nat} {l:List (ByteArray×Value)} (h:SMap w b l):b<w.heap.size:=by
 obtain ⟨es,clock,h1,_⟩:=h;exact (fq.1 h1).1
theorem Qx {mt t el:TypeId} (hm:P.underlying mt=some (.map t el)) (ht:P.underlying t=some .string) {b:Nat} {l:List (ByteArray×Value)} (h:SMap w b l) (hq:AD l) (k:ByteArray) (v:Value) :
  ∃w',(Instr.mapUpdate mt (.map (some b)) (.string k) v).run P w=.ok () w'/\SMap w' b (vC l k v)/\w'.heap.size=w.heap.size/\w'.os=w.os/\w'.tape=w.tape/\w'.output=w.output/\∀j,j≠b->w'.heap[j]? = w.heap[j]?:=by
 obtain ⟨es,clock,hb,hl⟩:=h;have hu:=run_underlying (w:=w) hm;have hg:=BX (P:=P) hb;have hbl:=(fq.1 hb).1;rcases MX (w:=w) ht k es.toList l hl with ⟨h1,h2⟩ | ⟨j,v',h1,h5,h2⟩
 ·have hs:=MapKept.run_setObj_map (P:=P) (.map (es.push { key:=.string k,val:=v,born:=clock }) (clock+1)) hb
  refine ⟨{ w with heap:=w.heap.setIfInBounds b (.map (es.push { key:=.string k,val:=v,born:=clock }) (clock+1)) },by simp [Instr.mapUpdate,hu,hg,x8 ht,h2,hs],⟨es.push { key:=.string k,val:=v,born:=clock },clock+1,by simp [hbl],?_⟩,by simp,rfl,rfl,rfl,fun j hj=>by simp [Ne.symm hj]⟩;unfold vC;rw [h1];simp [hl]
 ·have hkey:((es[j]?).map (·.key))=some (.string k):=by
   have h8:=congrArg (fun q=>(q[j]?).map (·.1)) hl
   simp only [kr,Option.map_map] at h8
   have h9:(l[j]?).map (fun x=>Value.string x.1)=some (.string k):=by
    cases hlj:l[j]? with
    | none=>rw [hlj] at h5;cases h5
    | some y=>rw [hlj] at h5;simp at h5;simp [h5]
   have h10:(es.toList[j]?).map (·.key)=(l[j]?).map (fun x=>Value.string x.1):=h8
   rw [<- o7,h10,h9]
  have hst:(Instr.keyThatStays (((es[j]?).map (·.key)).getD (.string k)) (.string k)).run P w=.ok (.string k) w:=by
   rw [hkey]
   have h0:Instr.sameBits 10000 (.string k) (.string k)=true:=by simp [Instr.sameBits,vD]
   show (Instr.keyThatStays (.string k) (.string k)).run P w=_
   unfold Instr.keyThatStays
   rw [if_pos h0];rfl
  have hs:=MapKept.run_setObj_map (P:=P) (.map (es.modify j fun e=>{ e with key:=.string k,val:=v }) clock) hb
  refine ⟨{ w with heap:=w.heap.setIfInBounds b (.map (es.modify j fun e=>{ e with key:=.string k,val:=v }) clock) },by simp [Instr.mapUpdate,hu,hg,x8 ht,h2,hst,hs],⟨es.modify j fun e=>{ e with key:=.string k,val:=v },clock,by simp [hbl],?_⟩,by simp,rfl,rfl,rfl,fun m hm=>by simp [Ne.symm hm]⟩
  have hpl:vC l k v=l.set j (k,v):=by
   unfold vC;rw [h1]
   exact YE hq v h5
  rw [hpl]
  apply xL
  intro m
  have h8:=congrArg (fun q=>q[m]?) hl
  simp only [kr] at h8
  rw [kr,kr,o7,afB,List.getElem?_set]
  have hjl:j<l.length:=by
   cases hlj:l[j]? with
   | none=>rw [hlj] at h5;cases h5
   | some y=>exact (o8.1 hlj).1
  have hje:j<es.size:=by have:=congrArg List.length hl;simp at this;omega
  by_cases e:j=m
  ·subst e
   rw [if_pos rfl,if_pos rfl,if_pos hjl,Array.getElem?_eq_getElem hje]
   rfl
  ·rw [if_neg e,if_neg e,<- o7];exact h8
theorem Fa {mt t el:TypeId} (hm:P.underlying mt=some (.map t el)) (ht:P.underlying t=some .string) {z:Value} (hz:(zeroValue el).run P w=.ok z w) {b:Nat} {l:List (ByteArray×Value)} (h:SMap w b l) (k:ByteArray) :
  (Instr.lookup mt (.map (some b)) (.string k) false).run P w=.ok ((l.lookup k).getD z) w:=by
 obtain ⟨es,clock,hb,hl⟩:=h;have hu:=run_underlying (w:=w) hm;have hg:=BX (P:=P) hb;rcases MX (w:=w) ht k es.toList l hl with ⟨h1,h2⟩ | ⟨j,v',h1,_,h2⟩
 ·simp [Instr.lookup,hu,hg,x8 ht,h2,hz,h1]
 ·simp [Instr.lookup,hu,hg,x8 ht,h2,h1]
end
end
section
theorem GQ {l:List (ByteArray×Value)} {k j:ByteArray} {v:Value}:(vC l k v).lookup j=if j=k then some v else l.lookup j:=by
 unfold vC;split
 ·rename_i h
  have h0:l.lookup k=none:=by simpa using h
  rw [List.lookup_append];by_cases e:j=k
  ·subst e;rw [if_pos rfl,h0];simp [List.lookup,vD]
  ·rw [if_neg e]
   (have:List.lookup j [(k,v)]=none:=by simp [List.lookup,x7 e]);rw [this];simp
 ·rename_i h
  have h0:(l.lookup k).isSome:=by
   cases hl:l.lookup k with
   | none=>rw [hl] at h;exact absurd rfl h
   | some x=>rfl
  clear h
  induction l with
  | nil=>cases h0
  | cons y l ih =>
   obtain ⟨y1,y2⟩:=y;rw [dV];by_cases e1:y1=k
   ·subst e1
    rw [if_pos rfl,gm];by_cases e:j=y1
    ·subst e;rw [vD,if_pos rfl]
    ·rw [x7 e,if_neg e,gm,x7 e]
     have hm:∀l:List (ByteArray×Value),List.lookup j (l.map fun x=>if x.1=y1 then (y1,v) else x)=List.lookup j l:=by
      intro l
      induction l with
      | nil=>rfl
      | cons z l ihl =>
       obtain ⟨z1,z2⟩:=z;rw [dV];by_cases ez:z1=y1
       ·subst ez;rw [if_pos rfl,gm,x7 e,gm,x7 e];exact ihl
       ·rw [if_neg ez,gm,gm,ihl]
     exact hm l
   ·rw [if_neg e1,gm,gm]
    rw [gm,x7 (fun h=>e1 h.symm)] at h0;by_cases e:j=y1
    ·subst e;rw [vD,if_neg e1]
    ·rw [x7 e];exact ih h0
end
section
open Go.RowKit Go.Shelf Go.Deep
theorem abF (W:World):(zeroValue 3).run Tryz.prog W=.ok (.int .i64 0) W:=by simp [Tryz.zeroValue3]
end
end Go.Proofs.YthgabkgmkolobaaGreat
namespace Go.Proofs
open Go.Shelf
def Tryz.sortZ_ren:Go.Shelf.Ren:=⟨fun | 5=>71 | 8=>127 | 7=>126 | 19=>181 | 20=>182 | 10=>172 | 11=>173 | 12=>174 | 13=>175 | 14=>176 | 15=>177 | 16=>178 | 17=>179 | 18=>180 | 30=>234 | 31=>235 | 32=>236 | 33=>237 | 34=>238 | 35=>131 | 40=>270 | n=>n,fun | 23=>26 | 25=>3 | 3=>3 | 32=>154 | 22=>26 | 0=>0 | 44=>191 | 46=>193 | 4=>4 | 36=>183 | 35=>182 | 41=>188 | 5=>5 | 9=>9 | 53=>238 | 57=>242 | 63=>267 | 64=>177 | n=>n,fun | n=>n⟩
theorem Tryz.sortZ:Go.Proofs.SlLaysM.n5 Tryz.prog Tryz.sortZ_ren:={
 mixed:=by kernel_rfl
 f5:=⟨Tryz.f71.name,by decide,Tryz.func71.trans (congrArg some (by kernel_rfl))⟩
 f7:=⟨Tryz.f126.name,by decide,Tryz.func126.trans (congrArg some (by kernel_rfl))⟩
 f8:=Tryz.func127.trans (congrArg some (by kernel_rfl))
 f10:=⟨Tryz.f172.name,by decide,Tryz.func172.trans (congrArg some (by kernel_rfl))⟩
 f11:=⟨Tryz.f173.name,by decide,Tryz.func173.trans (congrArg some (by kernel_rfl))⟩
 f12:=⟨Tryz.f174.name,by decide,Tryz.func174.trans (congrArg some (by kernel_rfl))⟩
 f13:=⟨Tryz.f175.name,by decide,Tryz.func175.trans (congrArg some (by kernel_rfl))⟩
 f14:=⟨Tryz.f176.name,by decide,Tryz.func176.trans (congrArg some (by kernel_rfl))⟩
 f15:=⟨Tryz.f177.name,by decide,Tryz.func177.trans (congrArg some (by kernel_rfl))⟩
 f16:=⟨Tryz.f178.name,by decide,Tryz.func178.trans (congrArg some (by kernel_rfl))⟩
 f17:=⟨Tryz.f179.name,by decide,Tryz.func179.trans (congrArg some (by kernel_rfl))⟩
 f18:=⟨Tryz.f180.name,by decide,Tryz.func180.trans (congrArg some (by kernel_rfl))⟩
 f19:=Tryz.func181.trans (congrArg some (by kernel_rfl))
 f20:=Tryz.func182.trans (congrArg some (by kernel_rfl))
 f30:=⟨Tryz.f234.name,by decide,Tryz.func234.trans (congrArg some (by kernel_rfl))⟩
 f31:=Tryz.func235.trans (congrArg some (by kernel_rfl))
 f32:=Tryz.func236.trans (congrArg some (by kernel_rfl))
 f33:=⟨Tryz.f237.name,by decide,Tryz.func237.trans (congrArg some (by kernel_rfl))⟩
 f34:=⟨Tryz.f238.name,by decide,Tryz.func238.trans (congrArg some (by kernel_rfl))⟩
 f35:=⟨Tryz.f131.name,by decide,Tryz.func131.trans (congrArg some (by kernel_rfl))⟩
 f40:=⟨Tryz.f270.name,by decide,Tryz.func270.trans (congrArg some (by kernel_rfl))⟩
 t0:=Tryz.underlying0
 a0:=Tryz.isAgg0
 z0:=Tryz.sizeOf0
 v0:=Tryz.zeroValue0
 t3:=Tryz.underlying3
 a3:=Tryz.isAgg3
 z3:=Tryz.sizeOf3
 v3:=Tryz.zeroValue3
 t4:=Tryz.underlying4
 a4:=Tryz.isAgg4
 z4:=Tryz.sizeOf4
 v4:=Tryz.zeroValue4
 t5:=Tryz.underlying5
 a5:=Tryz.isAgg5
 z5:=Tryz.sizeOf5
 v5:=Tryz.zeroValue5
 t9:=Tryz.underlying9
 a9:=Tryz.isAgg9
 z9:=Tryz.sizeOf9
 v9:=Tryz.zeroValue9
 t22:=Tryz.underlying26
 a22:=Tryz.isAgg26
 z22:=Tryz.sizeOf26
 v22:=Tryz.zeroValue26
 t23:=Tryz.underlying26
 a23:=Tryz.isAgg26
 z23:=Tryz.sizeOf26
 v23:=Tryz.zeroValue26
 t25:=Tryz.underlying3
 a25:=Tryz.isAgg3
 z25:=Tryz.sizeOf3
 v25:=Tryz.zeroValue3
 t32:=Tryz.underlying154
 a32:=Tryz.isAgg154
 z32:=Tryz.sizeOf154
 v32:=Tryz.zeroValue154
 t35:=Tryz.underlying182
 a35:=Tryz.isAgg182
 z35:=Tryz.sizeOf182
 v35:=Tryz.zeroValue182
 t36:=Tryz.underlying183
 a36:=Tryz.isAgg183
 z36:=Tryz.sizeOf183
 v36:=Tryz.zeroValue183
 t41:=Tryz.underlying188
 a41:=Tryz.isAgg188
 z41:=Tryz.sizeOf188
 v41:=Tryz.zeroValue188
 t44:=Tryz.underlying191
 a44:=Tryz.isAgg191
 z44:=Tryz.sizeOf191
 v44:=Tryz.zeroValue191
 t46:=Tryz.underlying193
 a46:=Tryz.isAgg193
 z46:=Tryz.sizeOf193
 v46:=Tryz.zeroValue193
 t53:=Tryz.underlying238
 a53:=Tryz.isAgg238
 z53:=Tryz.sizeOf238
 v53:=Tryz.zeroValue238
 t57:=Tryz.underlying242
 a57:=Tryz.isAgg242
 z57:=Tryz.sizeOf242
 v57:=Tryz.zeroValue242
 t63:=Tryz.underlying267
 a63:=Tryz.isAgg267
 z63:=Tryz.sizeOf267
 v63:=Tryz.zeroValue267
 t64:=Tryz.underlying177
 a64:=Tryz.isAgg177
 z64:=Tryz.sizeOf177
 v64:=Tryz.zeroValue177 }
end Go.Proofs
namespace Go.Proofs.YthgabkgmkolobaaGreat
section
open Go.RowKit Go.Shelf Go.Deep Go.Sort
def iG (xs:List Int):List Int:=xs.mergeSort fun x y=>decide (x<=y)
theorem oU (xs:List Int):(iG xs).length=xs.length:=List.length_mergeSort _
theorem agA (w w1:World) (v:Value) (xs:List Int) (hu:Up w w1) (ho:au w.heap.size 3 w1 v (xs.map (Value.int .i64))) (hlen:xs.length<=1000000) :
  Calls Tryz.prog 71 #[v] w1 fun e w'=>e=.returned (.tuple #[])/\Up w w'/\au w.heap.size 3 w' v ((iG xs).map (Value.int .i64)):=by
 rcases ho.2 with ⟨rfl,h0⟩ | ⟨g,cap,cur,rfl,hg,hc,hn,hcm,hcs,ht⟩
 ·have hx:xs=[]:=by cases xs with | nil=>rfl | cons _ _=>simp at h0
  subst hx;refine (AnyM.slices_Sort_int_none Tryz.sortZ none 0 w1).mono ?_;rintro e w' ⟨rfl,rfl⟩;exact ⟨rfl,hu,by unfold iG;simpa using ho⟩
 ·simp only [aD] at hn ht ho ⊢
  refine (AnyM.slices_Sort_int Tryz.sortZ g 0 cap xs w1 (holds_of_blockI hc (by simpa using ht)) (fq.1 hc).1 (by omega)).mono ?_;rintro e w' ⟨rfl,n,os,rfl⟩;refine ⟨rfl,Below.grown hu (grownBy_sortedI _) hu.size (fun j hj=>by cases hj;exact hg),?_⟩;have h:=ownsRow_sortedI (n:=n) (os:=os) (ss:=xs) (ts:=iG xs) (oU xs) hg hc hn hcm (by simpa using hcs);unfold au;rw [aD,oU];exact h
end
section
section
variable {amd:List ByteArray} {l:List TA}
theorem M3 (ns:List ByteArray):(ay ns).length=(sF ns).length:=by
 unfold ay;rw [aD];have h:∀k,k<=ns.length->((List.range k).filter fun i=>(gs ns i).size≠0).length=(sF (ns.take k)).length:=by
  intro k
  induction k with
  | zero=>intro _;rfl
  | succ k ih =>
   intro hk;(have hg:gs ns k=ns[k]:=by simp [gs,show k<ns.length by omega]);rw [pU,rO,bg,ih (by omega),jQ (show k<ns.length by omega),Qa,bg,<- hg];congr 1;unfold sF;by_cases e:(gs ns k).size≠0
   ·rw [FZ (by simpa using e),FZ (by simpa using e)];rfl
   ·rw [FY (by simpa using e),FY (by simpa using e)];rfl
 have:=h ns.length (ah _);rw [fT] at this;exact this
end
end
section
def allI (n:Nat):List Int:=(List.range n).map fun (i:Nat)=>(i:Int)
theorem mF {n:Nat} {x:Int}:x∈allI n↔0<=x/\x<n:=by
 unfold allI;rw [bI];constructor
 ·rintro ⟨i,hi,rfl⟩
  have:=bu.1 hi;omega
 ·rintro ⟨h0,h1⟩
  exact ⟨x.toNat,bu.2 (by omega),by omega⟩
theorem zn (n:Nat):(allI n).length=n:=by unfold allI;rw [aD,vQ]
def M4 (amd:List ByteArray) (x:List Int):ByteArray:=if x.length=1 then gs amd (gi x 0).toNat else ByteArray.empty
theorem YF {S:List (List Int)} {k:Nat} (h:k<S.length):gl S k∈S:=by simp [gl,h]
theorem M5:∀ {p q:List Int},p.Nodup->(∀x∈p,x∈q)->q.length<=p.length->p.Perm q
 | [],q,_,_,h=>by
  have:q=[]:=od (by simpa using h)
  rw [this]
 | x::p,q,hn,hs,hl=>by
  rw [qu] at hn
  have hx:=hs x (by simp)
  obtain ⟨a,b,rfl⟩:=List.append_of_mem hx
  have h1:p.Perm (a++b):=M5 hn.2 (fun y hy=>by
   have h2:=hs y (by simp [hy])
   rw [ey,bA] at h2
   rw [ey]
   rcases h2 with h2 | h2 | h2
   ·exact .inl h2
   ·exact absurd (by rw [<- h2];exact hy) hn.1
   ·exact .inr h2) (by
   rw [bg,aW,aW] at hl
   rw [bg];omega)
  exact (h1.cons x).trans List.perm_middle.symm
end
section
section
variable {amd:List ByteArray} {l:List TA} {S:List (List Int)}
def Lv (amd:List ByteArray) (s:RT) (x:List Int):Prop:=∀y,y∈bM s↔∃b:Nat,(b:Int)∈x/\y=gs amd b
end
end
section
section
variable {amd:List ByteArray} {l:List TA}
theorem T7 {s:RT} {x:List Int} (h:Lv amd s x):Lv amd (bJ s) x:=fun y=>by rw [(rW s).mem_iff];exact h y
end
end
section
section
variable {t:ax}
theorem yu (h:aA t=0):∀(d i j:Nat),t.ps.length - i<=d->i<t.ps.length->j<t.ps.length->dz (fA t) (dI t) i j=fJ t.ps i j
 | 0,i,_,hd,hi,_=>by omega
 | d+1,i,j,hd,hi,hj=>by
  obtain ⟨_,_,_,hok,_⟩:=aH h
  have hw:=(ew h).wf
  rw [mW,Le hok hj,l5 hw hi,s7,beq_iff_eq,dx]
  constructor
  ·rintro (e | ⟨c,hc,e⟩)
   ·exact .inl e
   ·rw [jW] at hc
    obtain ⟨h1,h2,h3⟩:=cK.1 hc
    exact .inr ⟨c,h1,h2,h3,by rw [<- yu h d c j (by omega) h1 hj];exact e⟩
  ·rintro (e | ⟨c,h1,h2,h3,e⟩)
   ·exact .inl e
   ·exact .inr ⟨c,by rw [jW];exact cK.2 ⟨h1,h2,h3⟩,by rw [yu h d c j (by omega) h1 hj];exact e⟩
theorem M7 {ps:List Int} (hp:jB ps=true) {i k:Nat} (hik:i<=k):∀(d j:Nat),j<=d->j<ps.length->fJ ps i j=true->fJ ps k j=true->fJ ps i k=true
 | d,j,hd,hj,h1,h2=>by
  have hkj:=uA hp hj h2
  by_cases e:j=k
  ·subst e;exact h1
  ·obtain ⟨p0,pj⟩:=rA hp hj (by omega)
   rw [tE hp hj (by omega)] at h1 h2
   cases d with
   | zero=>omega
   | succ d=>exact M7 hp hik d (gi ps j).toNat (by omega) (by omega) h1 h2
end
end
section
def qG (t:ax) (leaf z:Nat):Bool:=fJ t.ps z leaf
def JX (t:ax) (leaf z:Nat):List Nat :=
 if z=t.ps.length then leaf::(if leaf=0 then [] else [(gi t.ps leaf).toNat])
 else if qG t leaf z=true/\z≠leaf then (bL t.ps z).filter (fun k=>!qG t leaf k)++(if z=0 then [] else [(gi t.ps z).toNat])
 else bL t.ps z
def AE (t:ax) (leaf:Nat):bW:=⟨upd (gs t.ns) t.ps.length ByteArray.empty,upd (fun i=>(i:Int)) t.ps.length 0,JX t leaf⟩
def Qy (t:ax) (leaf z:Nat):Nat:=if z=t.ps.length then 3*t.ps.length+3 else if qG t leaf z=true/\z≠leaf then t.ps.length+1+z else dI t z
structure eN (t:ax) (leaf:Nat):Prop where
 te:aA t=0
 lt:leaf<t.ps.length
 nm:(gs t.ns leaf).size≠0
section
variable {t:ax} {leaf:Nat}
theorem eN.ok (h:eN t leaf):jB t.ps=true:=(aH h.te).2.2.2.1
theorem eN.JY (h:eN t leaf):bL t.ps leaf=[]:=by
 cases hk:bL t.ps leaf with
 | nil=>rfl
 | cons k l =>
  obtain ⟨h1,h2,h3⟩:=cK.1 (show k∈bL t.ps leaf by rw [hk];simp);exact absurd (vS h.te h1 h2 h3) h.nm
theorem eN.par (h:eN t leaf) {z:Nat} (hz:z<t.ps.length) (h0:z≠0):∃q:Nat,gi t.ps z=q/\q<z:=by
 have:=rA h.ok hz (by omega);exact ⟨(gi t.ps z).toNat,by omega,by omega⟩
theorem eN.Cw (_h:eN t leaf):qG t leaf leaf=true:=Dj leaf
theorem eN.JZ (h:eN t leaf) {z:Nat} (hz:qG t leaf z=true):z<=leaf:=uA h.ok h.lt hz
theorem eN.Fb (h:eN t leaf) {z q:Nat} (hz:qG t leaf z=true) (h0:z≠0) (hq:gi t.ps z=q):qG t leaf q=true:=by
 have hzl:=h.JZ hz;have hzn:z<t.ps.length:=Nat.lt_of_le_of_lt hzl h.lt;obtain ⟨q',h1,h2⟩:=h.par hzn h0;obtain rfl:q=q':=by omega
 exact (Le h.ok h.lt).2 (.inr ⟨z,hzn,h2,hq,hz⟩)
theorem eN.YG (h:eN t leaf) {z:Nat} (hz:qG t leaf z=true) (hne:z≠leaf):∃c,c<t.ps.length/\z<c/\gi t.ps c=z/\qG t leaf c=true:=by
 rcases (Le h.ok h.lt).1 hz with e | ⟨c,h1,h2,h3,h4⟩
 ·exact absurd e.symm hne
 ·exact ⟨c,h1,h2,h3,h4⟩
theorem eN.Qz (h:eN t leaf) {x y q:Nat} (hx:qG t leaf x=true) (hy:qG t leaf y=true) (hxy:x<y) (hq:gi t.ps y=q):x<=q:=by
 have My:y<t.ps.length:=Nat.lt_of_le_of_lt (h.JZ hy) h.lt;obtain ⟨q',h1,h2⟩:=h.par My (by omega);obtain rfl:q=q':=by omega
 have h3:=M7 h.ok (Nat.le_of_lt hxy) leaf leaf (ah _) h.lt hx hy;rw [tE h.ok My hxy,hq] at h3;exact uA h.ok (show q<_ by omega) h3
theorem eN.QA (h:eN t leaf) {x y q:Nat} (hx:qG t leaf x=true) (hy:qG t leaf y=true) (hx0:q<x) (hy0:q<y) (e1:gi t.ps x=q) (e2:gi t.ps y=q):x=y:=by
 rcases oo x y with c | c | c
 ·have:=h.Qz hx hy c e2;omega
 ·exact c
 ·have:=h.Qz hy hx c e1;omega
theorem YH (h:eN t leaf) {p k:Nat} (hp:p<t.ps.length+1) (hk:k∈(AE t leaf).kids p) :
  (p=t.ps.length/\k=leaf)\/(p=t.ps.length/\leaf≠0/\gi t.ps leaf=k/\k<leaf)\/(p<t.ps.length/\k<t.ps.length/\p<k/\gi t.ps k=p/\qG t leaf k=false)\/(p<t.ps.length/\qG t leaf p=true/\p≠leaf/\p≠0/\gi t.ps p=k/\k<p):=by
 have hk:k∈JX t leaf p:=hk;unfold JX at hk;split at hk
 ·rename_i e
  rcases bA.1 hk with e2 | e2
  ·exact .inl ⟨e,e2⟩
  ·split at e2
   ·cases e2
   ·rename_i h0
    (have e2:k=(gi t.ps leaf).toNat:=by simpa using e2);obtain ⟨q,h1,h2⟩:=h.par h.lt h0;exact .inr (.inl ⟨e,h0,by omega,by omega⟩)
 ·rename_i e
  split at hk
  ·rename_i hz
   rcases ey.1 hk with h1 | h1
   ·obtain ⟨h1,h2⟩:=gP.1 h1
    obtain ⟨h3,h4,h5⟩:=cK.1 h1;exact .inr (.inr (.inl ⟨by omega,h3,h4,h5,by simpa using h2⟩))
   ·split at h1
    ·cases h1
    ·rename_i h0
     (have h1:k=(gi t.ps p).toNat:=by simpa using h1);obtain ⟨q,h2,h3⟩:=h.par (z:=p) (by omega) h0;exact .inr (.inr (.inr ⟨by omega,hz.1,hz.2,h0,by omega,by omega⟩))
  ·rename_i hz
   obtain ⟨h3,h4,h5⟩:=cK.1 hk;refine .inr (.inr (.inl ⟨by omega,h3,h4,h5,?_⟩));cases hc:qG t leaf k with
   | false=>rfl
   | true =>
    have:=h.Fb hc (by omega) h5;have:p=leaf:=by
     by_cases c:p=leaf
     ·exact c
     ·exact absurd ⟨this,c⟩ hz
    rw [this,h.JY] at hk;cases hk
theorem Ow (_h:eN t leaf) {z:Nat} (hz:z<t.ps.length) (ho:qG t leaf z=true) (hne:z≠leaf):Qy t leaf z=t.ps.length+1+z:=by
 unfold Qy;rw [if_neg (by omega),if_pos ⟨ho,hne⟩]
theorem QB {z:Nat} (hz:z<t.ps.length) (ho:qG t leaf z=false\/z=leaf):Qy t leaf z=t.ps.length - z:=by
 unfold Qy;rw [if_neg (by omega),if_neg]
 ·rfl
 ·rintro ⟨h1,h2⟩
  rcases ho with e | e
  ·rw [e] at h1;cases h1
  ·exact h2 e
theorem T8 (h:eN t leaf) {z:Nat} (hz:z<t.ps.length+1) (hk:(AE t leaf).kids z=[]):z<t.ps.length/\(bL t.ps z=[]\/(z=0/\(gs t.ns 0).size=0)):=by
 have hk:JX t leaf z=[]:=hk;unfold JX at hk;split at hk
 ·cases hk
 ·rename_i e
  refine ⟨by omega,?_⟩;split at hk
  ·rename_i hc
   obtain ⟨c,h1,h2,h3,_⟩:=h.YG hc.1 hc.2;by_cases h0:z=0
   ·subst h0;exact .inr ⟨rfl,vS h.te h1 h2 h3⟩
   ·rw [if_neg h0] at hk
    simp at hk
  ·exact .inl hk
theorem vY (h:aA t=0) {z:Nat} (hz:z<t.ps.length) (hk:bL t.ps z=[]):bq (gs t.ns z).data.toList=true:=by
 obtain ⟨_,_,_,hok,_⟩:=aH h;refine (CX h hz ?_).1;cases hin:isIn t.ps z with
 | false=>rfl
 | true=>exact absurd hk ((qR hok z).2 hin)
theorem agB (h:eN t leaf):yZ (AE t leaf) (t.ps.length+1) (Qy t leaf):=by
 have hlt:=h.lt;refine ⟨⟨fun p hp k hk=>?_⟩,fun p q k hp hq h1 h2=>?_,fun i hi=>?_,fun a b ha hb h1 h2 e=>?_⟩
 ·rcases YH h hp hk with ⟨rfl,rfl⟩ | ⟨rfl,h0,e,hlt2⟩ | ⟨h1,h2,h3,e,ho⟩ | ⟨h1,ho,hne,h0,e,hlt2⟩
  ·refine ⟨by omega,?_⟩
   rw [QB h.lt (.inr rfl)];unfold Qy;rw [if_pos rfl];omega
  ·refine ⟨by omega,?_⟩
   rw [Ow h (by omega) (h.Fb h.Cw h0 e) (by omega)];unfold Qy;rw [if_pos rfl];omega
  ·refine ⟨by omega,?_⟩
   rw [QB h2 (.inl ho)];by_cases c:qG t leaf p=true/\p≠leaf
   ·rw [Ow h h1 c.1 c.2];omega
   ·have:qG t leaf p=false\/p=leaf:=by
     cases hc:qG t leaf p with
     | false=>exact .inl rfl
     | true=>exact .inr (Classical.byContradiction fun x=>c ⟨hc,x⟩)
    rw [QB h1 this];omega
  ·refine ⟨by omega,?_⟩
   rw [Ow h h1 ho hne,Ow h (by omega) (h.Fb ho h0 e) (by have:=h.JZ ho;omega)];omega
 ·have hon:∀p,p<t.ps.length+1->k∈(AE t leaf).kids p->(qG t leaf k=false/\p<t.ps.length/\gi t.ps k=p)\/(qG t leaf k=true/\(p=t.ps.length/\(k=leaf\/gi t.ps leaf=k/\k<leaf)\/p<t.ps.length/\qG t leaf p=true/\p≠leaf/\gi t.ps p=k/\k<p)):=fun p hp hk=>by
   rcases YH h hp hk with ⟨rfl,rfl⟩ | ⟨rfl,h0,e,hlt2⟩ | ⟨h1,h2,h3,e,ho⟩ | ⟨h1,ho,hne,h0,e,hlt2⟩
   ·exact .inr ⟨h.Cw,.inl ⟨rfl,.inl rfl⟩⟩
   ·exact .inr ⟨h.Fb h.Cw h0 e,.inl ⟨rfl,.inr ⟨e,hlt2⟩⟩⟩
   ·exact .inl ⟨ho,h1,e⟩
   ·exact .inr ⟨h.Fb ho h0 e,.inr ⟨h1,ho,hne,e,hlt2⟩⟩
  rcases hon p hp h1 with ⟨a1,a2,a3⟩ | ⟨a1,a2⟩
  ·rcases hon q hq h2 with ⟨_,b2,b3⟩ | ⟨b1,_⟩
   ·omega
   ·rw [a1] at b1;cases b1
  ·rcases hon q hq h2 with ⟨b1,_⟩ | ⟨_,b2⟩
   ·rw [a1] at b1;cases b1
   ·rcases a2 with ⟨a2,a3⟩ | ⟨a2,a3,a4,a5,a6⟩
    ·rcases b2 with ⟨b2,b3⟩ | ⟨b2,b3,b4,b5,b6⟩
     ·omega
     ·exfalso
      have:=h.JZ b3
      rcases a3 with e | ⟨e,e2⟩
      ·omega
      ·exact b4 (h.QA b3 h.Cw b6 e2 b5 e)
    ·rcases b2 with ⟨b2,b3⟩ | ⟨b2,b3,b4,b5,b6⟩
     ·exfalso
      have:=h.JZ a3
      rcases b3 with e | ⟨e,e2⟩
      ·omega
      ·exact a4 (h.QA a3 h.Cw a6 e2 a5 e)
     ·exact h.QA a3 b3 a6 b6 a5 b5
 ·show (JX t leaf i).Nodup
  unfold JX;have hkn:(bL t.ps i).Nodup:=Jb _ List.nodup_range;split
  ·split
   ·simp
   ·rename_i h0
    obtain ⟨q,h1,h2⟩:=h.par hlt h0;simp;omega
  ·split
   ·split
    ·rw [eG];exact hkn.filter _
    ·rename_i hi2 _ h0
     obtain ⟨q,h1,h2⟩:=h.par (z:=i) (by omega) h0;rw [ua];refine ⟨hkn.filter _,by simp,fun a ha b hb e=>?_⟩;(have hb:b=(gi t.ps i).toNat:=by simpa using hb);have:=(cK.1 (gP.1 ha).1).2.1;omega
   ·exact hkn
 ·obtain ⟨a1,a2⟩:=T8 h ha h1
  obtain ⟨b1,b2⟩:=T8 h hb h2;have e:gs t.ns a=gs t.ns b:=by have e:upd (gs t.ns) t.ps.length ByteArray.empty a=upd (gs t.ns) t.ps.length ByteArray.empty b:=e;rw [upd_ne _ _ (by omega),upd_ne _ _ (by omega)] at e;exact e
  rcases a2 with a2 | ⟨a2,a3⟩
  ·rcases b2 with b2 | ⟨b2,b3⟩
   ·exact (ew h.te).amd a b a1 b1 a2 b2 e
   ·subst b2
    exact absurd b3 (by rw [<- e];exact gK (vY h.te a1 a2))
  ·rcases b2 with b2 | ⟨b2,b3⟩
   ·subst a2
    exact absurd a3 (by rw [e];exact gK (vY h.te b1 b2))
   ·omega
end
end
section
open Go.RowKit Go.Deep
mutual
theorem Lf {M:Nat}:∀r:RT,(∀s∈eo r,s.size<=M)->(gL r).length+1<=aP r*(M+3)
 | .node nm [],h=>by
  rw [gL,aP,aK]
  have h1:=h nm (by rw [eo];simp)
  have h2:nm.data.toList.length=nm.size:=by rw [CM];rfl
  omega
 | .node nm (k::ks),h=>by
  have h1:=Lf k (fun s hs=>h s (by rw [eo,eu];simp [hs]))
  have h2:=QC ks (fun s hs=>h s (by rw [eo,eu];simp [hs]))
  rw [gL,aP,aK]
  simp only [aW,bg,dw]
  rw [Nat.add_mul,Nat.add_mul]
  omega
theorem QC {M:Nat}:∀rs:List RT,(∀s∈eu rs,s.size<=M)->(iR rs).length<=aK rs*(M+3)
 | [],_=>by rw [iR];exact aF _
 | r::rs,h=>by
  have h1:=Lf r (fun s hs=>h s (by rw [eu];simp [hs]))
  have h2:=QC rs (fun s hs=>h s (by rw [eu];simp [hs]))
  rw [iR,aK]
  simp only [aW,bg]
  rw [Nat.add_mul]
  omega
end
theorem QE {F:bW} {n:Nat} {rk:Nat->Nat} (h:Wf F n rk) {i:Nat} (hi:i<n):eo (bE F rk i)=(cI F rk i).map F.nm:=by
 rw [vz,Ao h hi (ah _),jA];refine lz fun z hz=>?_;exact yt h (tO h hi (ah _) ((fB h hi (ah _)).1 hz))
theorem aeD {t:ax} (h:aA t=0) {M:Nat} (hz:∀k,(gs t.ns k).size<=M):(gL (jE t)).length+1<=64*(M+3):=by
 obtain ⟨hp,K3,_⟩:=aH h
 have h1:=Lf (M:=M) (jE t) (fun s hs=>by
  unfold jE at hs;rw [QE (ew h).wf hp] at hs;obtain ⟨z,_,rfl⟩:=bI.1 hs
  exact hz z)
 have h2:aP (jE t)<=t.ps.length:=YA (ew h).wf hp (rj h);exact aB h1 (Nat.mul_le_mul_right _ (by omega))
def T9 (t:ax):Int:=if aA t≠0 then 1 else 0
def M8 (t:ax):List UInt8:=if aA t≠0 then [] else gL (jE t)++[59]
def YI (w:World) (t:ax) (e:Ending) (w':World):Prop:=Up w w'/\e=.returned (.tuple #[.string ⟨(M8 t).toArray⟩,.int .i64 (T9 t)])
theorem aeE (S:Nat->Prop) (w:World) (v:Value) (t:ax) (hT:aG S w v t) (hp:t.ps.length<=1000000) (hn:t.ns.length<=1000000) (hz:∀k,(gs t.ns k).size<=70000) :
  Calls Tryz.prog 29 #[v] w (YI w t):=by
 obtain ⟨P,N,rfl,hP,hN⟩:=hT;obtain ⟨pp,pc,rfl,_,_⟩:=aq.open hP;obtain ⟨pn,pm,rfl,_,_⟩:=aq.open hN;have hP:af S w (.slice pp t.ps.length pc) t.ps:=hP;have hN:aj S w (.slice pn t.ns.length pm) t.ns:=hN;have ha:=Up.alloc w (.cells #[.slice pp t.ps.length pc,.slice pn t.ns.length pm] 39);have lV:=aa (iq w (.slice pp t.ps.length pc) (.slice pn t.ns.length pm) 39);have gA:=aa (jg w (.slice pp t.ps.length pc) (.slice pn t.ns.length pm) 39);have hsz:(w.alloc (.cells #[.slice pp t.ps.length pc,.slice pn t.ns.length pm] 39)).heap.size=w.heap.size+1:=by simp
 have HU:=aa ha;have Cq:Hid (aG S _ _ t):=aG.keep ⟨_,_,rfl,hP,hN⟩ (ha.kept S);have dM:=aa hsz;have HZ:=aa hz;have hc0:=lV.out;have hc1:=gA.out;have gw:=aa (yj S _ _ t Cq.out hp hn hz);have Ua:Hid (T9 t=if aA t≠0 then 1 else 0):=rfl;have M9:Hid (M8 t=if aA t≠0 then [] else gL (jE t)++[59]):=rfl;clear ha hP hN hsz hz;go_in;go_wp2_with fail;generalize w.alloc (.cells #[.slice pp t.ps.length pc,.slice pn t.ns.length pm] 39)=w1 at *;refine gw.out.mono ?_;rintro e w2 ⟨rfl,aI⟩;have aI:Up w1 w2:=aI;have b7:=aa aI;have kZ:=aa (HU.out.trans aI);have hc0:=aI.cell lV.out;have hc1:=aI.cell gA.out;clear aI gw;by_cases he:aA t=0
 ·obtain ⟨xg,K3,hnl,hok,_⟩:=aH he
  have Fc:=aa he;rw [he];have wE:=aa (aG.keep Cq.out (b7.out.kept S));clear he hnl hok;go_wp2_with fail;have hb:=blk_alloc_new w2 (.cells #[.pointer none,.slice none 0 0] 117);have cR:=Up.alloc w2 (.cells #[.pointer none,.slice none 0 0] 117);have hs3:(w2.alloc (.cells #[.pointer none,.slice none 0 0] 117)).heap.size=w2.heap.size+1:=aQ _ _;have MT:=blk_alloc_new (w2.alloc (.cells #[.pointer none,.slice none 0 0] 117)) (.cells #[.func (.func 90) #[] #[.pointer (some ⟨w2.heap.size,0,none⟩),.pointer (some ⟨w2.heap.size+1,0,none⟩)]] 118);have gU:=Up.alloc (w2.alloc (.cells #[.pointer none,.slice none 0 0] 117)) (.cells #[.func (.func 90) #[] #[.pointer (some ⟨w2.heap.size,0,none⟩),.pointer (some ⟨w2.heap.size+1,0,none⟩)]] 118);have hs4:((w2.alloc (.cells #[.pointer none,.slice none 0 0] 117)).alloc (.cells #[.func (.func 90) #[] #[.pointer (some ⟨w2.heap.size,0,none⟩),.pointer (some ⟨w2.heap.size+1,0,none⟩)]] 118)).heap.size=w2.heap.size+2:=by rw [aQ,hs3]
  have hb4:=(blk_alloc_lt (w2.alloc (.cells #[.pointer none,.slice none 0 0] 117)) (.cells #[.func (.func 90) #[] #[.pointer (some ⟨w2.heap.size,0,none⟩),.pointer (some ⟨w2.heap.size+1,0,none⟩)]] 118) w2.heap.size (by omega)).trans hb;rw [hs3] at MT;have V7:=(cR.trans gU).cell hc0;have V8:=(cR.trans gU).cell hc1;have k7:=aa (cR.trans gU);clear hb cR gU hs3 hc0 hc1;generalize (w2.alloc (.cells #[.pointer none,.slice none 0 0] 117)).alloc (.cells #[.func (.func 90) #[] #[.pointer (some ⟨w2.heap.size,0,none⟩),.pointer (some ⟨w2.heap.size+1,0,none⟩)]] 118)=w4 at *;have dJ:Hid (AB w2.heap.size (w2.heap.size+1) w4):=MT;have T4:=dJ.out.cell;have HB4:=aa hb4;have xy:=aa hs4;clear hs4 hb4 MT;refine fR (by kernel_rfl) 6 (fun w'=>w'.cell? ⟨w2.heap.size+1,0,none⟩=some (.func (.func 90) #[] #[.pointer (some ⟨w2.heap.size,0,none⟩),.pointer (some ⟨w2.heap.size+1,0,none⟩)])/\w'.cell? ⟨w.heap.size,0,none⟩=some (.slice pp t.ps.length pc)/\w'.cell? ⟨w.heap.size,1,none⟩=some (.slice pn t.ns.length pm)) ⟨T4,V7,V8⟩ (fun hS=>?_);simp only [dY,aW,dw,Nat.reduceAdd,iu,iw,dX,di,cm];refine az.xk 0 1 hS ?_;try simp only [Act.put,aL,aM,aN]
  refine az.st 2 fun K' hK=>?_;go_simp;have HUD:Hid (Up w4 w4.drew):=Up.drewN w4 1;obtain ⟨_,_,hnl,hok,_⟩:=aH Fc.out;have xA:=aa (Ph S w4.drew _ t (aG.keep wE.out ((k7.out.trans HUD.out).kept S)) (by omega) hnl hok HZ.out);refine xA.out.mono ?_;rintro e w5 ⟨gJ,g,A,kv,Ae,rfl,hF,hrow⟩;have nV:=hrow.cell (i:=0) xg;simp only [dh] at nV;have kK:=aa (HUD.out.trans gJ);have hpos:(0:Int)<(t.ps.length:Int):=by omega
  refine hK.out _ _ (fun _=>⟨kK.out.cell T4,kK.out.cell V7,kK.out.cell V8⟩) (fun hS=>?_);try simp only [aL,aM,aN]
  have HF:=aa hF;have Ub:=aa Ae;have k8:Hid (T9 t=0):=by rw [Hid,Ua.out,if_neg (by simp [Fc.out])]
  have uU:Hid (M8 t=gL (jE t)++[59]):=by rw [Hid,M9.out,if_neg (by simp [Fc.out])]
  have kH:=aa (aeD Fc.out HZ.out);have oM:Hid (Lib.IsBuilderF 117 5 w2.heap.size w2.heap.size (Lib.byteCells []) w5):=.inl ⟨ah _,_,(bH kK.out _ (by rw [xy.out];omega)).trans HB4.out,⟨rfl,.inl ⟨rfl,rfl⟩⟩,fun e=>by cases e⟩;have ajr:Hid (AB w2.heap.size (w2.heap.size+1) w5):=(bH kK.out _ (by rw [xy.out];omega)).trans dJ.out;have fo:Hid (w2.heap.size+2<=w5.heap.size):=by have:=kK.out.size;rw [xy.out] at this;exact this
  have HP1:=aa (abx (base:=g+1) (n:=t.ps.length) (B:=w2.heap.size) (b:=w2.heap.size) (fb:=w2.heap.size+1) (ew Fc.out).wf (fun z _=>by have:=uu t z;omega) (by have:=xy.out;have h2:w4.heap.size<=g:=Ae;omega) (by omega) (dI t 0) 0 [] w5 xg (ah _) hF ajr.out oM.out (by
   have:=kH.out;show 0+(gL (jE t)).length<=_
   omega) (by have:=fo.out;omega))
  clear hnl hok hF Ae hrow xA gJ;refine az.st 3 fun K' hK=>?_;go_simp;refine hK.out _ _ (fun _=>⟨kK.out.cell T4,kK.out.cell V7,kK.out.cell V8⟩) (fun hS=>?_);try simp only [aL,aM,aN]
  refine az.st 4 fun K' hK=>?_;go_simp;refine hK.out _ _ (fun _=>⟨kK.out.cell T4,kK.out.cell V7,kK.out.cell V8⟩) (fun hS=>?_);try simp only [aL,aM,aN]
  refine az.st 5 fun K' hK=>?_;go_simp;refine HP1.out.mono ?_;rintro e w6 ⟨rfl,h6⟩;refine hK.out _ _ (bF ·) (fun hS=>?_);refine az.done (by kernel_rfl) ?_;have Uc:Hid (bE (fA t) (dI t) 0=jE t):=rfl;rw [di,Uc.out] at h6;have HB6:=aa h6;have HWB:=aa (La w2.heap.size w2.heap.size (Lib.byteCells (gL (jE t))) 59 w6 h6.bl (by rw [Lib.byteCells_length];have:=kH.out;omega) (h6.size (by have:=fo.out;omega)));clear h6 HP1 hS hK;go_wp2_with fail;refine HWB.out.mono ?_;rintro e w7 ⟨rfl,h1,h2,h3⟩;have Ud:=aa (HB6.out.byte (x:=59) rfl h1 h2 h3);have HST:=aa (agx w2.heap.size w2.heap.size (gL (jE t)++[59]) w7 Ud.out.bl (Ud.out.size (by have:=fo.out;omega)));clear h1 h2 h3;go_wp2_with fail;refine HST.out.mono ?_;rintro e w8 ⟨rfl,_,h2,_⟩;have HB8:Hid (Up w2 w8):=iz (k7.out.trans kK.out) (Ud.out.up.trans h2);clear h2;go_wp2;go_ret2;exact ⟨kZ.out.trans HB8.out,by rw [k8.out,uU.out];rfl⟩
 ·have Mz:(aA t != 0)=true:=by simpa using he
  have k8:Hid (T9 t=1):=by rw [Hid,Ua.out,if_pos he]
  have uU:Hid (M8 t=[]):=by rw [Hid,M9.out,if_pos he]
  clear he;generalize aA t=te at *;go_wp2;go_ret2;exact ⟨kZ.out,by rw [k8.out,uU.out];rfl⟩
end
end Go.Proofs.YthgabkgmkolobaaGreat
