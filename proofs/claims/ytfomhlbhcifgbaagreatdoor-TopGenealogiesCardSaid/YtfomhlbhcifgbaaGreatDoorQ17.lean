/- Maps whose keys are strings. Two lists that grow in place: for 't.Parents, t.Names = .. -/
import Derived.Test.YtfomhlbhcifgbaaGreatDoorQ16
import Derived.Test.YtfomhlbhcifgbaaGreatDoorQ15
import Derived.Test.YtfomhlbhcifgbaaGreatDoorQ8
set_option maxRecDepth 100000
set_option maxHeartbeats 400000
namespace Go.Proofs.YtfomhlbhcifgbaaGreatDoor
section
open Go.RowKit Go.Deep
def rU (l:List (ByteArray×Value)) (k:ByteArray) (v:Value):List (ByteArray×Value):=if (l.lookup k).isNone then l++[(k,v)] else l.map fun x=>if x.1=k then (k,v) else x
def SMap (w:World) (b:Nat) (l:List (ByteArray×Value)):Prop:=∃es clock,w.heap[b]? = some (.map es clock)/\es.toList.map (fun x=>(x.key,x.val))=l.map (fun x=>(Value.string x.1,x.2))
def vK (l:List (ByteArray×Value)):Prop:=(l.map (·.1)).Nodup
theorem M3 (a b:ByteArray):(a==b)=decide (a=b):=by
 obtain ⟨a⟩:=a;obtain ⟨b⟩:=b;have:((⟨a⟩:ByteArray)==⟨b⟩)=(a==b):=rfl;rw [this];by_cases h:a=b
 ·subst h;simp
 ·have h2:¬(⟨a⟩:ByteArray)=⟨b⟩:=fun e=>h (ByteArray.mk.inj e)
  rw [decide_eq_false h2];simpa using h
theorem oM (a:ByteArray):(a==a)=true:=by rw [M3];simp
theorem qQ {a b:ByteArray} (h:¬a=b):(a==b)=false:=by rw [M3];simpa using h
section
variable {P:Program} {w:World}
theorem M4 (k:ByteArray):∀(es:List MapEntry) (l:List (ByteArray×Value)) (i:Nat),
  es.map (fun x=>(x.key,x.val))=l.map (fun x=>(Value.string x.1,x.2)) ->
   (l.lookup k=none/\Instr.findNow .string (.string k) es i=some none)\/∃j v,l.lookup k=some v/\(l[j]?).map (·.1)=some k/\Instr.findNow .string (.string k) es i=some (some (i+j,v)):=by
 intro es
 induction es with
 | nil =>
  intro l i hl;cases l with
  | nil=>exact .inl ⟨rfl,rfl⟩
  | cons=>cases hl
 | cons x es ih =>
  intro l i hl;cases l with
  | nil=>cases hl
  | cons y l =>
   simp only [cV,List.cons.injEq,iO] at hl;obtain ⟨⟨h1,h2⟩,h3⟩:=hl;obtain ⟨y1,y2⟩:=y;have h1:x.key=.string y1:=h1;have h2:x.val=y2:=h2;by_cases h:k=y1
   ·subst h
    refine .inr ⟨0,y2,by rw [dJ,oM],rfl,?_⟩;simp [Instr.findNow,Instr.sameNow,h1,h2,oM]
   ·have hb:(k==y1)=false:=qQ h
    rcases ih l (i+1) h3 with ⟨h4,h5⟩ | ⟨j,v,h4,h5,h6⟩
    ·refine .inl ⟨by rw [dJ,hb];exact h4,?_⟩
     simp [Instr.findNow,Instr.sameNow,h1,hb,h5]
    ·refine .inr ⟨j+1,v,by rw [dJ,hb];exact h4,by simpa using h5,?_⟩
     simp [Instr.findNow,Instr.sameNow,h1,hb,h6];omega
theorem DR {t:TypeId} (ht:P.underlying t=some .string) (k:ByteArray) (es:List MapEntry) (l:List (ByteArray×Value)) (hl:es.map (fun x=>(x.key,x.val))=l.map (fun x=>(Value.string x.1,x.2))) :
  (l.lookup k=none/\(Instr.findKey t (.string k) es).run P w=.ok none w)\/∃j v,l.lookup k=some v/\(l[j]?).map (·.1)=some k/\(Instr.findKey t (.string k) es).run P w=.ok (some (j,v)) w:=by
 have hu:=run_underlying (w:=w) ht;rcases M4 k es l 0 hl with ⟨h1,h2⟩ | ⟨j,v,h1,h2,h3⟩
 ·exact .inl ⟨h1,by simp [Instr.findKey,hu,h2]⟩
 ·exact .inr ⟨j,v,h1,h2,by simp [Instr.findKey,hu,h3]⟩
theorem qR {t:TypeId} (ht:P.underlying t=some .string) (em:Bool) (k:ByteArray):(Instr.checkKey em 10000 t (.string k)).run P w=.ok () w:=by
 have hu:=run_underlying (w:=w) ht;show (Instr.checkKey em (9999+1) t (.string k)).run P w=_;unfold Instr.checkKey;simp [hu]
theorem Gg {l:List (ByteArray×Value)} {k:ByteArray}:l.lookup k=none↔k∉l.map (·.1):=by
 induction l with
 | nil=>simp
 | cons y l ih =>
  obtain ⟨y1,y2⟩:=y
  rw [dJ]
  by_cases h:k=y1
  ·subst h;simp [oM]
  ·have hb:(k==y1)=false:=qQ h
   rw [hb];simp only [cV,bQ,not_or]
   exact ⟨fun h2=>⟨h,ih.1 h2⟩,fun h2=>ih.2 h2.2⟩
theorem M5 (l:List (ByteArray×Value)) (k:ByteArray) (v:Value):(rU l k v).map (·.1)=if (l.lookup k).isNone then l.map (·.1)++[k] else l.map (·.1):=by
 unfold rU;split
 ·simp
 ·rw [jO]
  refine iK fun x _=>?_;show (if x.1=k then (k,v) else x).1=x.1;split
  ·rename_i h;exact h.symm
  ·rfl
theorem M6 {l:List (ByteArray×Value)} (h:vK l) (k:ByteArray) (v:Value):vK (rU l k v):=by
 unfold vK;rw [M5];split
 ·rename_i h2
  have h3:k∉l.map (·.1):=Gg.1 (by simpa using h2);rw [sJ];refine ⟨h,by simp,fun a ha b hb=>?_⟩;have:b=k:=by simpa using hb
  subst this;exact fun e=>h3 (by rw [<- e];exact ha)
 ·exact h
theorem M7 {l:List (ByteArray×Value)} (h:vK l) {k:ByteArray} (v:Value) {j:Nat} (hj:(l[j]?).map (·.1)=some k):(l.map fun x=>if x.1=k then (k,v) else x)=l.set j (k,v):=by
 apply vh;intro m;have hjl:j<l.length:=by
  cases hlj:l[j]? with
  | none=>rw [hlj] at hj;cases hj
  | some y=>exact (mO.1 hlj).1
 rw [iJ,List.getElem?_set];by_cases e:j=m
 ·subst e
  rw [if_pos rfl,if_pos hjl];rw [kB hjl] at hj ⊢;have h3:(l[j]).1=k:=by simpa using hj
  simp [h3]
 ·rw [if_neg e]
  cases hm:l[m]? with
  | none=>rfl
  | some y =>
   have hml:=(mO.1 hm).1;(have hne:y.1≠k:=fun h4=>by (have h5:(l.map (·.1))[m]? = (l.map (·.1))[j]?:=by rw [iJ,iJ,hm,hj];simp [h4]);(have h6:m<(l.map (·.1)).length:=by simpa using hml);(have h7:j<(l.map (·.1)).length:=by simpa using hjl);rw [kB h6,kB h7] at h5;injection h5 with h5;exact e ((List.getElem_inj h).1 h5).symm);simp [hne]
theorem SMap.made (w:World):SMap (w.alloc (.map #[] 0)) w.heap.size []:=⟨#[],0,(MapKept.heap_alloc w _).1,rfl⟩
theorem SMap.same {w':World} {b:Nat} {l:List (ByteArray×Value)} (h:SMap w b l) (hb:w'.heap[b]? = w.heap[b]?):SMap w' b l:=by
 obtain ⟨es,clock,h1,h2⟩:=h;exact ⟨es,clock,hb.trans h1,h2⟩
theorem SMap.lt {b:Nat} {l:List (ByteArray×Value)} (h:SMap w b l):b<w.heap.size:=by
 obtain ⟨es,clock,h1,_⟩:=h;exact (bq.1 h1).1
theorem Qy {mt t el:TypeId} (hm:P.underlying mt=some (.map t el)) (ht:P.underlying t=some .string) {b:Nat} {l:List (ByteArray×Value)} (h:SMap w b l) (hq:vK l) (k:ByteArray) (v:Value) :
  ∃w',(Instr.mapUpdate mt (.map (some b)) (.string k) v).run P w=.ok () w'/\SMap w' b (rU l k v)/\w'.heap.size=w.heap.size/\w'.os=w.os/\w'.tape=w.tape/\w'.output=w.output/\∀j,j≠b->w'.heap[j]? = w.heap[j]?:=by
 obtain ⟨es,clock,hb,hl⟩:=h;have hu:=run_underlying (w:=w) hm;have hg:=yT (P:=P) hb;have hbl:=(bq.1 hb).1;rcases DR (w:=w) ht k es.toList l hl with ⟨h1,h2⟩ | ⟨j,v',h1,h5,h2⟩
 ·have hs:=MapKept.run_setObj_map (P:=P) (.map (es.push { key:=.string k,val:=v,born:=clock }) (clock+1)) hb
  refine ⟨{ w with heap:=w.heap.setIfInBounds b (.map (es.push { key:=.string k,val:=v,born:=clock }) (clock+1)) },by simp [Instr.mapUpdate,hu,hg,qR ht,h2,hs],⟨es.push { key:=.string k,val:=v,born:=clock },clock+1,by simp [hbl],?_⟩,by simp,rfl,rfl,rfl,fun j hj=>by simp [Ne.symm hj]⟩;unfold rU;rw [h1];simp [hl]
 ·have hkey:((es[j]?).map (·.key))=some (.string k):=by
   have h8:=congrArg (fun q=>(q[j]?).map (·.1)) hl
   simp only [iJ,Option.map_map] at h8
   have h9:(l[j]?).map (fun x=>Value.string x.1)=some (.string k):=by
    cases hlj:l[j]? with
    | none=>rw [hlj] at h5;cases h5
    | some y=>rw [hlj] at h5;simp at h5;simp [h5]
   have h10:(es.toList[j]?).map (·.key)=(l[j]?).map (fun x=>Value.string x.1):=h8
   rw [<- iZ,h10,h9]
  have hst:(Instr.keyThatStays (((es[j]?).map (·.key)).getD (.string k)) (.string k)).run P w=.ok (.string k) w:=by
   rw [hkey]
   have h0:Instr.sameBits 10000 (.string k) (.string k)=true:=by simp [Instr.sameBits,oM]
   show (Instr.keyThatStays (.string k) (.string k)).run P w=_
   unfold Instr.keyThatStays
   rw [if_pos h0];rfl
  have hs:=MapKept.run_setObj_map (P:=P) (.map (es.modify j fun e=>{ e with key:=.string k,val:=v }) clock) hb
  refine ⟨{ w with heap:=w.heap.setIfInBounds b (.map (es.modify j fun e=>{ e with key:=.string k,val:=v }) clock) },by simp [Instr.mapUpdate,hu,hg,qR ht,h2,hst,hs],⟨es.modify j fun e=>{ e with key:=.string k,val:=v },clock,by simp [hbl],?_⟩,by simp,rfl,rfl,rfl,fun m hm=>by simp [Ne.symm hm]⟩
  have hpl:rU l k v=l.set j (k,v):=by
   unfold rU;rw [h1]
   exact M7 hq v h5
  rw [hpl]
  apply vh
  intro m
  have h8:=congrArg (fun q=>q[m]?) hl
  simp only [iJ] at h8
  rw [iJ,iJ,iZ,Vh,List.getElem?_set]
  have hjl:j<l.length:=by
   cases hlj:l[j]? with
   | none=>rw [hlj] at h5;cases h5
   | some y=>exact (mO.1 hlj).1
  have V8:j<es.size:=by have:=congrArg List.length hl;simp at this;omega
  by_cases e:j=m
  ·subst e
   rw [if_pos rfl,if_pos rfl,if_pos hjl,Array.getElem?_eq_getElem V8]
   rfl
  ·rw [if_neg e,if_neg e,<- iZ];exact h8
theorem M8 {mt t el:TypeId} (hm:P.underlying mt=some (.map t el)) (ht:P.underlying t=some .string) {z:Value} (hz:(zeroValue el).run P w=.ok z w) {b:Nat} {l:List (ByteArray×Value)} (h:SMap w b l) (k:ByteArray) :
  (Instr.lookup mt (.map (some b)) (.string k) false).run P w=.ok ((l.lookup k).getD z) w:=by
 obtain ⟨es,clock,hb,hl⟩:=h;have hu:=run_underlying (w:=w) hm;have hg:=yT (P:=P) hb;rcases DR (w:=w) ht k es.toList l hl with ⟨h1,h2⟩ | ⟨j,v',h1,_,h2⟩
 ·simp [Instr.lookup,hu,hg,qR ht,h2,hz,h1]
 ·simp [Instr.lookup,hu,hg,qR ht,h2,h1]
end
theorem Tryz.fq:(Tryz.prog.info? 9).map (fun i=>(i.zero,i.size,i.bytes))=some (some (.string ⟨#[]⟩),1,16):=by kernel_rfl
theorem au.fE {base:Nat} {e:TypeId} {w w':World} {v:Value} {vs:List Value} (h:au base e w v vs) (k:∀b,v.ownBlock=some b->w'.heap[b]? = w.heap[b]?):au base e w' v vs:=by
 refine ⟨h.1,?_⟩;rcases h.2 with h0 | ⟨g,cap,cur,rfl,hg,hc,hr⟩
 ·exact .inl h0
 ·exact .inr ⟨g,cap,cur,rfl,hg,(k g rfl).trans hc,hr⟩
def tW (l:List (Option Nat×Value)) (k:Option Nat) (v:Value):List (Option Nat×Value):=if (l.lookup k).isNone then l++[(k,v)] else l.map fun x=>if x.1=k then (k,v) else x
section
variable {P:Program} {w:World}
theorem Qz (k:Option Nat):Instr.sameBits 10000 (pk k) (pk k)=true:=by
 cases k<;>simp [pk,Instr.sameBits]
theorem M9 (k:Option Nat):(Instr.keyThatStays (pk k) (pk k)).run P w=.ok (pk k) w:=by
 unfold Instr.keyThatStays;rw [if_pos (Qz k)];rfl
theorem Gh {t e:TypeId} (ht:P.underlying t=some (.pointer e)) (he:∀w,(sizeOf e).run P w=.ok 3 w) {k:Option Nat} (hk:fP w k):∀(es:List MapEntry) (l:List (Option Nat×Value)) (i:Nat),
  es.map (fun x=>(x.key,x.val))=l.map (fun x=>(pk x.1,x.2))->(∀x∈l,fP w x.1)->(l.lookup k).isSome ->
   ∃j v,l.lookup k=some v/\(l[j]?).map (·.1)=some k/\(∀m,m<j->(l[m]?).map (·.1)≠some k)/\(Instr.findAsking t (pk k) es i).run P w=.ok (some (i+j,v)) w:=by
 intro es
 induction es with
 | nil =>
  intro l i hl _ hs;cases l with
  | nil=>cases hs
  | cons=>cases hl
 | cons x es ih =>
  intro l i hl hok hs;cases l with
  | nil=>cases hl
  | cons y l =>
   simp only [cV,List.cons.injEq,iO] at hl;obtain ⟨⟨h1,h2⟩,h3⟩:=hl;have heq:=JR (w:=w) ht he hk (hok y (by simp));rw [<- h1] at heq;by_cases h:k=y.1
   ·subst h
    refine ⟨0,y.2,?_,rfl,fun m hm=>absurd hm (cz _),?_⟩
    ·obtain ⟨y1,y2⟩:=y;simp
    ·simp [Instr.findAsking,heq,h2]
   ·have hb:(k==y.1)=false:=by simpa using h
    (have hs':(l.lookup k).isSome:=by obtain ⟨y1,y2⟩:=y;rw [dJ,hb] at hs;exact hs);obtain ⟨j,v,h4,h5,h6,h7⟩:=ih l (i+1) h3 (fun z hz=>hok z (by simp [hz])) hs';refine ⟨j+1,v,?_,by simpa using h5,fun m hm=>?_,?_⟩
    ·obtain ⟨y1,y2⟩:=y;rw [dJ,hb];exact h4
    ·cases m with
     | zero=>simpa using fun e=>h e.symm
     | succ m=>simpa using h6 m (by omega)
    ·simp [Instr.findAsking,heq,h,h7];omega
def vL (l:List (Option Nat×Value)):Prop:=(l.map (·.1)).Nodup
theorem BG {l:List (Option Nat×Value)} {k:Option Nat}:l.lookup k=none↔k∉l.map (·.1):=by
 induction l with
 | nil=>simp
 | cons y l ih =>
  obtain ⟨y1,y2⟩:=y
  rw [dJ]
  by_cases h:k=y1
  ·subst h;simp
  ·have hb:(k==y1)=false:=by simpa using h
   rw [hb];simp only [cV,bQ,not_or]
   exact ⟨fun h2=>⟨h,ih.1 h2⟩,fun h2=>ih.2 h2.2⟩
theorem Na (l:List (Option Nat×Value)) (k:Option Nat) (v:Value):(tW l k v).map (·.1)=if (l.lookup k).isNone then l.map (·.1)++[k] else l.map (·.1):=by
 unfold tW;split
 ·simp
 ·rw [jO]
  refine iK fun x _=>?_;show (if x.1=k then (k,v) else x).1=x.1;split
  ·rename_i h;exact h.symm
  ·rfl
theorem Nb {l:List (Option Nat×Value)} (h:vL l) (k:Option Nat) (v:Value):vL (tW l k v):=by
 unfold vL;rw [Na];split
 ·rename_i h2
  have h3:k∉l.map (·.1):=BG.1 (by simpa using h2);rw [sJ];refine ⟨h,by simp,fun a ha b hb=>?_⟩;have:b=k:=by simpa using hb
  subst this;exact fun e=>h3 (by rw [<- e];exact ha)
 ·exact h
theorem Ji {l:List (Option Nat×Value)} (h:vL l) {k:Option Nat} (v:Value) {j:Nat} (hj:(l[j]?).map (·.1)=some k):(l.map fun x=>if x.1=k then (k,v) else x)=l.set j (k,v):=by
 apply vh;intro m;have hjl:j<l.length:=by
  cases hlj:l[j]? with
  | none=>rw [hlj] at hj;cases hj
  | some y=>exact (mO.1 hlj).1
 rw [iJ,List.getElem?_set];by_cases e:j=m
 ·subst e
  rw [if_pos rfl,if_pos hjl];rw [kB hjl] at hj ⊢;have h3:(l[j]).1=k:=by simpa using hj
  simp [h3]
 ·rw [if_neg e]
  cases hm:l[m]? with
  | none=>rfl
  | some y =>
   have hml:=(mO.1 hm).1;(have hne:y.1≠k:=fun h4=>by (have h5:(l.map (·.1))[m]? = (l.map (·.1))[j]?:=by rw [iJ,iJ,hm,hj];simp [h4]);(have h6:m<(l.map (·.1)).length:=by simpa using hml);(have h7:j<(l.map (·.1)).length:=by simpa using hjl);rw [kB h6,kB h7] at h5;injection h5 with h5;exact e ((List.getElem_inj h).1 h5).symm);simp [hne]
theorem Gi {mt t e el:TypeId} (hm:P.underlying mt=some (.map t el)) (ht:P.underlying t=some (.pointer e)) (he:∀w,(sizeOf e).run P w=.ok 3 w) {b:Nat} {l:List (Option Nat×Value)} (h:jy w b l) (hu:vL l) {k:Option Nat} (v:Value)
  (hk:fP w k) (hok:∀x∈l,fP w x.1) :
  ∃w',(Instr.mapUpdate mt (.map (some b)) (pk k) v).run P w=.ok () w'/\jy w' b (tW l k v)/\w'.heap.size=w.heap.size/\w'.os=w.os/\w'.tape=w.tape/\w'.output=w.output/\∀j,j≠b->w'.heap[j]? = w.heap[j]?:=by
 cases hl0:l.lookup k with
 | none =>
  obtain ⟨w',h1,h2,h3⟩:=Gd hm ht he h v hk hok hl0;refine ⟨w',h1,?_,h3⟩;unfold tW;rw [hl0];exact h2
 | some v0 =>
  obtain ⟨es,clock,hb,hl⟩:=h;have aM:=run_underlying (w:=w) hm;have aK:=run_underlying (w:=w) ht;have hg:=yT (P:=P) hb;obtain ⟨j,v',h4,h5,h6,h7⟩:=Gh ht he hk es.toList l 0 hl hok (by rw [hl0];rfl);have hne:es.toList≠[]:=fun h0=>by rw [h0] at hl;cases l with | nil=>cases hl0 | cons=>cases hl
  have DT:(Instr.findKey t (pk k) es.toList).run P w=.ok (some (j,v')) w:=by
   cases hes:es.toList with
   | nil=>exact absurd hes hne
   | cons x xs =>
    (have hn:Instr.findNow (.pointer e) (pk k) (x::xs) 0=none:=by simp [Instr.findNow,Instr.sameNow]);rw [hes] at h7;simp [Instr.findKey,aK,hn,h7]
  have hkey:((es[j]?).map (·.key))=some (pk k):=by
   have h8:=congrArg (fun q=>(q[j]?).map (·.1)) hl;simp only [iJ,Option.map_map] at h8;have h9:(l[j]?).map (fun x=>pk x.1)=some (pk k):=by
    cases hlj:l[j]? with
    | none=>rw [hlj] at h5;cases h5
    | some y=>rw [hlj] at h5;simp at h5;simp [h5]
   have h10:(es.toList[j]?).map (·.key)=(l[j]?).map (fun x=>pk x.1):=h8;rw [<- iZ,h10,h9]
  have hst:(Instr.keyThatStays (((es[j]?).map (·.key)).getD (pk k)) (pk k)).run P w=.ok (pk k) w:=by rw [hkey];exact M9 k
  have hs:=MapKept.run_setObj_map (P:=P) (.map (es.modify j fun e=>{ e with key:=pk k,val:=v }) clock) hb;refine ⟨{ w with heap:=w.heap.setIfInBounds b (.map (es.modify j fun e=>{ e with key:=pk k,val:=v }) clock) },by simp [Instr.mapUpdate,aM,hg,run_checkKey ht,DT,hst,hs],⟨es.modify j fun e=>{ e with key:=pk k,val:=v },clock,?_,?_⟩,by simp,rfl,rfl,rfl,fun m hm=>?_⟩
  ·have:=(bq.1 hb).1
   simp [this]
  ·have hpl:tW l k v=l.set j (k,v):=by
    unfold tW;rw [hl0]
    exact Ji hu v h5
   rw [hpl]
   apply vh
   intro m
   have h8:=congrArg (fun q=>q[m]?) hl
   simp only [iJ] at h8
   rw [iJ,iJ,iZ,Vh,List.getElem?_set]
   have hjl:j<l.length:=by
    cases hlj:l[j]? with
    | none=>rw [hlj] at h5;cases h5
    | some y=>exact (mO.1 hlj).1
   have V8:j<es.size:=by have:=congrArg List.length hl;simp at this;omega
   by_cases e:j=m
   ·subst e
    rw [if_pos rfl,if_pos rfl,if_pos hjl,Array.getElem?_eq_getElem V8]
    rfl
   ·rw [if_neg e,if_neg e,<- iZ];exact h8
  ·simp [Ne.symm hm]
theorem Nc {mt t e el:TypeId} (hm:P.underlying mt=some (.map t el)) (ht:P.underlying t=some (.pointer e)) (he:∀w,(sizeOf e).run P w=.ok 3 w) {z:Value} (hz:∀w,(zeroValue el).run P w=.ok z w) {b:Nat} {l:List (Option Nat×Value)} (h:jy w b l) {k:Option Nat}
  (hk:fP w k) (hok:∀x∈l,fP w x.1):(Instr.lookup mt (.map (some b)) (pk k) false).run P w=.ok ((l.lookup k).getD z) w:=by
 cases hl0:l.lookup k with
 | some v=>exact vJ hm ht he h hk hok hl0
 | none =>
  obtain ⟨es,clock,hb,hl⟩:=h;have hu:=run_underlying (w:=w) hm;have hg:=yT (P:=P) hb;rcases run_findKey ht he hk es.toList l hl hok with ⟨h1,h2⟩ | ⟨j,v',h1,h2⟩
  ·simp [Instr.lookup,hu,hg,run_checkKey ht,h2,hz]
  ·rw [h1] at hl0;cases hl0
end
section
variable {F:Fence} {nF:Nat} {P:Program} {ops:Array Oper} {o:Oper} {a:Act} {w:World} {K:Act->World->Prop} {Q:Exit->Act->World->Prop} {E:Prop}
theorem lV (hgd:o.guard=none) (s x:Operand) (t:TypeId) (ho:o.op=.call { callee:=.builtin .append,args:=#[s,x],argTypes:=#[t,t] })
  (base:Nat) (e:TypeId) (z:Value) (bytes:Nat) (ht:P.underlying t=some (.slice e)) (hinfo:(P.info? e).map (fun i=>(i.zero,i.size,i.bytes))=some (some z,1,bytes))
  (hz1:z.cells.size=1) (mB:bytes<=64) {v:Value} {vs:List Value} (hs:a.eval s=v) (hown:au base e w v vs) (u:Value) (B:Nat)
  (hx:a.eval x=.slice (some ⟨B,0,none⟩) 1 1) (hB:w.cell? ⟨B,0,none⟩=some u) (h1:u.oneCell'=true) (hn:vs.length<=1000000) (hbase:base<=w.heap.size)
  (h:∀g cap w',au base e w' (.slice (some ⟨g,0,none⟩) (vs.length+1) cap) (vs++[u])->w.grownBy w' v.ownBlock->(v.ownBlock=some g\/g=w.heap.size)->Below base w w'->K (a.put o.dst (.slice (some ⟨g,0,none⟩) (vs.length+1) cap)) w') :
  if Region.wanted o (yielded ops a.tmps)=true then Oper.wpIn F nF P o a w K Q else E:=by
 have hw:Region.wanted o (yielded ops a.tmps)=true:=by simp [Region.wanted,hgd]
 rw [if_pos hw];obtain ⟨i,hi,hzz⟩:=iN.1 hinfo;simp only [iO] at hzz;obtain ⟨hz,hs1,hb⟩:=hzz
 obtain ⟨g,cap,w',hr,h2,h3,h4,_⟩:=run_append_lies (P:=P) w t o.type base e i z 1 bytes ht hi hz hs1 hb hz1 (by omega) v vs.length vs hown ⟨B,0,none⟩ 1 1 [u] rfl (fun j u' hj=>by
  cases j with
  | zero=>(simp at hj;subst hj;simpa [Addr.add] using hB)
  | succ j=>simp at hj) (by simpa using h1) (by omega) (by unfold maxLen;omega) (by have:(vs.length+1)*bytes<=(vs.length+1)*64:=qK _ mB;omega) hbase _ rfl
 unfold Oper.wpIn;refine ⟨by simp [Oper.about,ho,resolve,Target.leads,Sem.run_pure],?_⟩;rw [Oper.semAt_plain F _ _ (by rw [ho];intro c hc';cases hc')];simp [execOp,ho,resolve,invoke,builtin,hs,hx,hr,Result.andThen];exact h g cap w' (by unfold au;rw [bG];exact h2) h3 h4 (hown.cQ h3 hbase)
end
theorem Tryz.rV:∀w,(Go.sizeOf 81).run Tryz.prog w=.ok 3 w:=Tryz.sizeOf81
structure kJ (n:Nat) (A:Nat->Nat) (kv:Nat->Value) (w w':World):Prop where
 os:w'.os=w.os
 tape:w'.tape=w.tape
 output:w'.output=w.output
 size:w.heap.size<=w'.heap.size
 block:∀b,b<w.heap.size->(∀i,i<n->b≠A i)->(∀i,i<n->(kv i).ownBlock≠some b)->w'.heap[b]? = w.heap[b]?
section
variable {n base:Nat} {A:Nat->Nat} {kv:Nat->Value} {F:aW} {a b c:World}
theorem kJ.refl (n:Nat) (A:Nat->Nat) (kv:Nat->Value) (w:World):kJ n A kv w w:=⟨rfl,rfl,rfl,aj _,fun _ _ _ _=>rfl⟩
theorem kJ.trans (h:kJ n A kv a b) (k:kJ n A kv b c):kJ n A kv a c :=
 ⟨k.os.trans h.os,k.tape.trans h.tape,k.output.trans h.output,aV h.size k.size,fun j hj h1 h2=>(k.block j (lM hj h.size) h1 h2).trans (h.block j hj h1 h2)⟩
theorem kJ.ZM (h:Up a b):kJ n A kv a b:=⟨h.os,h.tape,h.output,h.size,fun j hj _ _=>aO h j hj⟩
theorem kJ.below (h:kJ n A kv a b) (hF:bz base n A kv F a) (hb:base<=a.heap.size):Below base a b :=
 ⟨h.os,h.tape,h.output,h.size,fun j hj=>h.block j (by omega) (fun i hi e=>by have:=hF.lo i hi;omega) (fun i hi e=>by have:=(hF.gK hi e).1;omega)⟩
end
theorem Nd (w:World) (bx m0 x y:Nat) (l:List (Option Nat×Value)) (sx sy:ByteArray) (nU:w.cell? ⟨bx,0,none⟩=some (.map (some m0))) (hm:jy w m0 l) (hok:∀z∈l,fP w z.1) (hx:Plain w x) (hy:Plain w y)
  (h1:l.lookup (some x)=some (.string sx)) (h2:l.lookup (some y)=some (.string sy)) :
  Calls Tryz.prog 141 #[.pointer (some ⟨x,0,none⟩),.pointer (some ⟨y,0,none⟩),.pointer (some ⟨bx,0,none⟩)] w fun e w'=>e=.returned (.int .i64 (gL sx sy))/\w=w':=by
 have g1:=vJ (P:=Tryz.prog) Tryz.underlying191 Tryz.underlying78 Tryz.rV hm (k:=some x) hx hok h1;have g2:=vJ (P:=Tryz.prog) Tryz.underlying191 Tryz.underlying78 Tryz.rV hm (k:=some y) hy hok h2;simp only [pk] at g1 g2;clear hm hok hx hy h1 h2;go_in;go_wp2_with (go_at_call 142;refine (Tryz.strings_Compare sx sy _).mono ?_;rintro e w' ⟨rfl,rfl⟩);go_ret;exact ⟨rfl,rfl⟩
end
end Go.Proofs.YtfomhlbhcifgbaaGreatDoor
