/- Lists of lists that a call grows; a store into a list of the call's own. Sets and splits: .. -/
import Derived.Test.YthgabkgmkolobaaGreatQ46
import Derived.Test.YthgabkgmkolobaaGreatQ43
set_option maxRecDepth 100000
namespace Go.Proofs.YthgabkgmkolobaaGreat
section
open Go.RowKit Go.Deep
def nQ (base:Nat) (T:TypeId) (w:World) (d:Value) (xs:List (List Int)):Prop :=
 ∃vals:List Value,vals.length=xs.length/\ax base T w d vals/\∀i,i<xs.length->ah (fun b=>some b≠d.ownBlock) w (vals.getD i undef) (gl xs i)
theorem nQ.nil (base:Nat) (T:TypeId) (w:World):nQ base T w (.slice none 0 0) []:=⟨[],rfl,ax.nil _ _ _,fun _ hi=>absurd hi (bG _)⟩
theorem nQ.rows {base:Nat} {T:TypeId} {w:World} {d:Value} {xs:List (List Int)} (h:nQ base T w d xs):aR Any w d xs:=by
 obtain ⟨vals,hl,ho,hr⟩:=h;have h1:=ho.vz;rw [hl] at h1;exact ⟨_,h1.sub fun _ _ _=>trivial,fun k hk=>(hr k hk).sub fun _ _ _=>trivial⟩
theorem nQ.kept {base:Nat} {T:TypeId} {w w':World} {d:Value} {xs:List (List Int)} (h:nQ base T w d xs) (k:Up w w'):nQ base T w' d xs:=by
 obtain ⟨vals,hl,ho,hr⟩:=h;exact ⟨vals,hl,ho.kept fun b _ hb=>bI k b hb,fun i hi=>(hr i hi).keep (k.kept _)⟩
section
variable {P:Program} {ops:Array Oper} {rest:List Oper} {o:Oper} {a:Act} {Q:Exit->Act->World->Prop}
theorem SR (W:World) (hgd:o.guard=none) (s x:Operand) (t:TypeId) (ho:o.op=.call { callee:=.builtin .append,args:=#[s,x],argTypes:=#[t,t] })
  (base:Nat) (e:TypeId) (z:Value) (bytes:Nat) (ht:P.underlying t=some (.slice e)) (hinfo:(P.info? e).map (fun i=>(i.zero,i.size,i.bytes))=some (some z,1,bytes))
  (hz1:z.cells.size=1) (qE:bytes<=64) {v:Value} {xs:List (List Int)} (hown:nQ base e W v xs) (hs:a.eval s=v) (u:Value) (y:List Int)
  (hx:a.eval x=.slice (some ⟨W.heap.size,0,none⟩) 1 1) (hu:ah (fun b=>some b≠v.ownBlock) W u y) (h1:u.oneCell'=true) (n:Nat) (qF:xs.length=n) (hn:n<=1000000) (hbase:base<=W.heap.size)
  (h:∀g cap w',nQ base e w' (.slice (some ⟨g,0,none⟩) (n+1) cap) (xs++[y])->W.grownBy w' v.ownBlock->Below base W w'->wpList P ops Q rest (a.put o.dst (.slice (some ⟨g,0,none⟩) (n+1) cap)) w') :
  wpList P ops Q (o::rest) a (W.alloc (.cells #[u] e)):=by
 subst qF;obtain ⟨i,hi,hzz⟩:=mh.1 hinfo;simp only [mj] at hzz;obtain ⟨hz,hs1,hb⟩:=hzz;obtain ⟨vals,hl,hown,hrows⟩:=hown;refine wpList_append_lies _ hgd s x t ho base e i z 1 bytes ht hi hz hs1 hb hz1 (by omega) v vals.length vals hs (hown.alloc _) ⟨W.heap.size,0,none⟩ 1 1 [u] hx rfl (cell_one_new _ _ _) (by simpa using h1) (by omega)
  (by unfold maxLen;omega) ?_ (by simp;omega) _ rfl fun g cap w' h2 h3 h4 _=>?_
 ·have:(vals.length+1)*bytes<=(vals.length+1)*64:=sW _ qE
  omega
 ·have hg:=nB h3
  rw [hl] at h2 ⊢;have LX:∀b:Nat,some b≠v.ownBlock->b<W.heap.size->some b≠(Value.slice (some ⟨g,0,none⟩) (xs.length+1) cap).ownBlock:=fun b hb hlt e=>by
   simp only [Value.ownBlock,Eh] at e;rcases h4 with h4 | h4
   ·exact hb (by rw [h4,e])
   ·rw [aQ] at h4;omega
  have hkeep:∀ {u':Value} {y':List Int},ah (fun b=>some b≠v.ownBlock) W u' y'->ah (fun b=>some b≠(Value.slice (some ⟨g,0,none⟩) (xs.length+1) cap).ownBlock) w' u' y':=fun hi' =>
   ((hi'.sub (T:=fun b=>some b≠v.ownBlock/\b<W.heap.size) fun b hb hlt=>⟨hb,hlt⟩).keep fun b hb hlt=>hg.block b hlt hb.1).sub fun b hb _=>LX b hb.1 hb.2
  refine h g cap w' ⟨vals++[u],by simp [hl],?_,fun i hi=>?_⟩ hg (hown.fE hg hbase)
  ·unfold ax;rw [aZ,hl];exact h2
  ·rw [aZ] at hi
   by_cases hi2:i<xs.length
   ·have e1:(vals++[u]).getD i undef=vals.getD i undef:=by simp [List.getElem?_append,hl,hi2]
    (have e2:gl (xs++[y]) i=gl xs i:=by simp [gl,List.getElem?_append,hi2]);rw [e1,e2];exact hkeep (hrows i hi2)
   ·obtain rfl:i=xs.length:=by simp at hi;omega
    (have e1:(vals++[u]).getD xs.length undef=u:=by simp [<- hl]);(have e2:gl (xs++[y]) xs.length=y:=by simp [gl]);rw [e1,e2];exact hkeep hu
end
end
section
theorem memK_ok (p:Int->Bool) {n:Nat} (hn:n<=64):qc (iG p n):=⟨vM p n,fun x hx=>by have:=vF.1 hx;omega⟩
end
section
open Go.RowKit Go.Deep
def zL (l:List (Int×Value)) (k:Int) (v:Value):List (Int×Value):=if (l.lookup k).isNone then l++[(k,v)] else l.map fun x=>if x.1=k then (k,v) else x
def xE (w:World) (b:Nat) (l:List (Int×Value)):Prop:=∃es clock,w.heap[b]? = some (.map es clock)/\es.toList.map (fun x=>(x.key,x.val))=l.map (fun x=>(Value.int .i64 x.1,x.2))
def Kq (l:List (Int×Value)):Prop:=(l.map (·.1)).Nodup
theorem ib_beq (a b:Int):(a==b)=decide (a=b):=by by_cases h:a=b<;>simp [h]
theorem PV (a:Int):(a==a)=true:=by rw [ib_beq];simp
theorem AQ {a b:Int} (h:¬a=b):(a==b)=false:=by rw [ib_beq];simpa using h
section
variable {P:Program} {w:World}
theorem findNow_i (k:Int):∀(es:List MapEntry) (l:List (Int×Value)) (i:Nat),
  es.map (fun x=>(x.key,x.val))=l.map (fun x=>(Value.int .i64 x.1,x.2)) ->
   (l.lookup k=none/\Instr.findNow (.int .i64) (.int .i64 k) es i=some none)\/∃j v,l.lookup k=some v/\(l[j]?).map (·.1)=some k/\Instr.findNow (.int .i64) (.int .i64 k) es i=some (some (i+j,v)):=by
 intro es
 induction es with
 | nil =>
  intro l i hl;cases l with
  | nil=>exact .inl ⟨rfl,rfl⟩
  | cons=>cases hl
 | cons x es ih =>
  intro l i hl;cases l with
  | nil=>cases hl
  | cons y l =>
   simp only [cK,List.cons.injEq,mj] at hl;obtain ⟨⟨h1,h2⟩,h3⟩:=hl;obtain ⟨y1,y2⟩:=y;have h1:x.key=.int .i64 y1:=h1;have h2:x.val=y2:=h2;by_cases h:k=y1
   ·subst h
    refine .inr ⟨0,y2,by rw [eC,PV],rfl,?_⟩;simp [Instr.findNow,Instr.sameNow,h1,h2]
   ·have hb:(k==y1)=false:=AQ h
    rcases ih l (i+1) h3 with ⟨h4,h5⟩ | ⟨j,v,h4,h5,h6⟩
    ·refine .inl ⟨by rw [eC,hb];exact h4,?_⟩
     simp [Instr.findNow,Instr.sameNow,h1,hb,h5]
    ·refine .inr ⟨j+1,v,by rw [eC,hb];exact h4,by simpa using h5,?_⟩
     simp [Instr.findNow,Instr.sameNow,h1,hb,h6];omega
theorem Ss {t:TypeId} (ht:P.underlying t=some (.int .i64)) (k:Int) (es:List MapEntry) (l:List (Int×Value)) (hl:es.map (fun x=>(x.key,x.val))=l.map (fun x=>(Value.int .i64 x.1,x.2))) :
  (l.lookup k=none/\(Instr.findKey t (.int .i64 k) es).run P w=.ok none w)\/∃j v,l.lookup k=some v/\(l[j]?).map (·.1)=some k/\(Instr.findKey t (.int .i64 k) es).run P w=.ok (some (j,v)) w:=by
 have hu:=run_underlying (w:=w) ht;rcases findNow_i k es l 0 hl with ⟨h1,h2⟩ | ⟨j,v,h1,h2,h3⟩
 ·exact .inl ⟨h1,by simp [Instr.findKey,hu,h2]⟩
 ·exact .inr ⟨j,v,h1,h2,by simp [Instr.findKey,hu,h3]⟩
theorem AR {t:TypeId} (ht:P.underlying t=some (.int .i64)) (em:Bool) (k:Int):(Instr.checkKey em 10000 t (.int .i64 k)).run P w=.ok () w:=by
 have hu:=run_underlying (w:=w) ht;show (Instr.checkKey em (9999+1) t (.int .i64 k)).run P w=_;unfold Instr.checkKey;simp [hu]
theorem JO {l:List (Int×Value)} {k:Int}:l.lookup k=none↔k∉l.map (·.1):=by
 induction l with
 | nil=>simp
 | cons y l ih =>
  obtain ⟨y1,y2⟩:=y
  rw [eC]
  by_cases h:k=y1
  ·subst h;simp
  ·have hb:(k==y1)=false:=AQ h
   rw [hb];simp only [cK,aW,not_or]
   exact ⟨fun h2=>⟨h,ih.1 h2⟩,fun h2=>ih.2 h2.2⟩
theorem Su (l:List (Int×Value)) (k:Int) (v:Value):(zL l k v).map (·.1)=if (l.lookup k).isNone then l.map (·.1)++[k] else l.map (·.1):=by
 unfold zL;split
 ·simp
 ·rw [jO]
  refine lU fun x _=>?_;show (if x.1=k then (k,v) else x).1=x.1;split
  ·rename_i h;exact h.symm
  ·rfl
theorem putJ_uniq {l:List (Int×Value)} (h:Kq l) (k:Int) (v:Value):Kq (zL l k v):=by
 unfold Kq;rw [Su];split
 ·rename_i h2
  have h3:k∉l.map (·.1):=JO.1 (by simpa using h2);rw [nR];refine ⟨h,by simp,fun a ha b hb=>?_⟩;have:b=k:=by simpa using hb
  subst this;exact fun e=>h3 (by rw [<- e];exact ha)
 ·exact h
theorem modI_uniq {l:List (Int×Value)} (h:Kq l) {k:Int} (v:Value) {j:Nat} (hj:(l[j]?).map (·.1)=some k):(l.map fun x=>if x.1=k then (k,v) else x)=l.set j (k,v):=by
 apply wN;intro m;have hjl:j<l.length:=by
  cases hlj:l[j]? with
  | none=>rw [hlj] at hj;cases hj
  | some y=>exact (pF.1 hlj).1
 rw [jA,JR];by_cases e:j=m
 ·subst e
  rw [if_pos rfl,if_pos hjl];rw [iQ hjl] at hj ⊢;have h3:(l[j]).1=k:=by simpa using hj
  simp [h3]
 ·rw [if_neg e]
  cases hm:l[m]? with
  | none=>rfl
  | some y =>
   have hml:=(pF.1 hm).1;(have hne:y.1≠k:=fun h4=>by (have h5:(l.map (·.1))[m]? = (l.map (·.1))[j]?:=by rw [jA,jA,hm,hj];simp [h4]);(have h6:m<(l.map (·.1)).length:=by simpa using hml);(have h7:j<(l.map (·.1)).length:=by simpa using hjl);rw [iQ h6,iQ h7] at h5;injection h5 with h5;exact e ((List.getElem_inj h).1 h5).symm);simp [hne]
theorem xE.made (w:World):xE (w.alloc (.map #[] 0)) w.heap.size []:=⟨#[],0,(MapKept.heap_alloc w _).1,rfl⟩
theorem xE.same {w':World} {b:Nat} {l:List (Int×Value)} (h:xE w b l) (hb:w'.heap[b]? = w.heap[b]?):xE w' b l:=by
 obtain ⟨es,clock,h1,h2⟩:=h;exact ⟨es,clock,hb.trans h1,h2⟩
theorem xE.lt {b:Nat} {l:List (Int×Value)} (h:xE w b l):b<w.heap.size:=by
 obtain ⟨es,clock,h1,_⟩:=h;exact (fR.1 h1).1
theorem run_iset {mt t el:TypeId} (hm:P.underlying mt=some (.map t el)) (ht:P.underlying t=some (.int .i64)) {b:Nat} {l:List (Int×Value)} (h:xE w b l) (hq:Kq l) (k:Int) (v:Value) :
  ∃w',(Instr.mapUpdate mt (.map (some b)) (.int .i64 k) v).run P w=.ok () w'/\xE w' b (zL l k v)/\w'.heap.size=w.heap.size/\w'.os=w.os/\w'.tape=w.tape/\w'.output=w.output/\∀j,j≠b->w'.heap[j]? = w.heap[j]?:=by
 obtain ⟨es,clock,hb,hl⟩:=h;have hu:=run_underlying (w:=w) hm;have hg:=yX (P:=P) hb;have hbl:=(fR.1 hb).1;rcases Ss (w:=w) ht k es.toList l hl with ⟨h1,h2⟩ | ⟨j,v',h1,h5,h2⟩
 ·have hs:=Eg (P:=P) (.map (es.push { key:=.int .i64 k,val:=v,born:=clock }) (clock+1)) hb
  refine ⟨{ w with heap:=w.heap.setIfInBounds b (.map (es.push { key:=.int .i64 k,val:=v,born:=clock }) (clock+1)) },by simp [Instr.mapUpdate,hu,hg,AR ht,h2,hs],⟨es.push { key:=.int .i64 k,val:=v,born:=clock },clock+1,by simp [hbl],?_⟩,by simp,rfl,rfl,rfl,fun j hj=>by simp [Ne.symm hj]⟩;unfold zL;rw [h1];simp [hl]
 ·have hkey:((es[j]?).map (·.key))=some (.int .i64 k):=by
   have h8:=congrArg (fun q=>(q[j]?).map (·.1)) hl
   simp only [jA,Option.map_map] at h8
   have h9:(l[j]?).map (fun x=>Value.int .i64 x.1)=some (.int .i64 k):=by
    cases hlj:l[j]? with
    | none=>rw [hlj] at h5;cases h5
    | some y=>rw [hlj] at h5;simp at h5;simp [h5]
   have h10:(es.toList[j]?).map (·.key)=(l[j]?).map (fun x=>Value.int .i64 x.1):=h8
   rw [<- oW,h10,h9]
  have hst:(Instr.keyThatStays (((es[j]?).map (·.key)).getD (.int .i64 k)) (.int .i64 k)).run P w=.ok (.int .i64 k) w:=by
   rw [hkey]
   have h0:Instr.sameBits 10000 (.int .i64 k) (.int .i64 k)=true:=by simp [Instr.sameBits]
   show (Instr.keyThatStays (.int .i64 k) (.int .i64 k)).run P w=_
   unfold Instr.keyThatStays
   rw [if_pos h0];rfl
  have hs:=Eg (P:=P) (.map (es.modify j fun e=>{ e with key:=.int .i64 k,val:=v }) clock) hb
  refine ⟨{ w with heap:=w.heap.setIfInBounds b (.map (es.modify j fun e=>{ e with key:=.int .i64 k,val:=v }) clock) },by simp [Instr.mapUpdate,hu,hg,AR ht,h2,hst,hs],⟨es.modify j fun e=>{ e with key:=.int .i64 k,val:=v },clock,by simp [hbl],?_⟩,by simp,rfl,rfl,rfl,fun m hm=>by simp [Ne.symm hm]⟩
  have hpl:zL l k v=l.set j (k,v):=by
   unfold zL;rw [h1]
   exact modI_uniq hq v h5
  rw [hpl]
  apply wN
  intro m
  have h8:=congrArg (fun q=>q[m]?) hl
  simp only [jA] at h8
  rw [jA,jA,oW,zq2Q,JR]
  have hjl:j<l.length:=by
   cases hlj:l[j]? with
   | none=>rw [hlj] at h5;cases h5
   | some y=>exact (pF.1 hlj).1
  have hje:j<es.size:=by have:=congrArg List.length hl;simp at this;omega
  by_cases e:j=m
  ·subst e
   rw [if_pos rfl,if_pos rfl,if_pos hjl,Array.getElem?_eq_getElem hje]
   rfl
  ·rw [if_neg e,if_neg e,<- oW];exact h8
theorem Sv {mt t el:TypeId} (hm:P.underlying mt=some (.map t el)) (ht:P.underlying t=some (.int .i64)) {z:Value} (hz:(zeroValue el).run P w=.ok z w) {b:Nat} {l:List (Int×Value)} (h:xE w b l) (k:Int) :
  (Instr.lookup mt (.map (some b)) (.int .i64 k) false).run P w=.ok ((l.lookup k).getD z) w:=by
 obtain ⟨es,clock,hb,hl⟩:=h;have hu:=run_underlying (w:=w) hm;have hg:=yX (P:=P) hb;rcases Ss (w:=w) ht k es.toList l hl with ⟨h1,h2⟩ | ⟨j,v',h1,_,h2⟩
 ·simp [Instr.lookup,hu,hg,AR ht,h2,hz,h1]
 ·simp [Instr.lookup,hu,hg,AR ht,h2,h1]
end
theorem Yg {l:List (Int×Value)} {k j:Int} {v:Value}:(zL l k v).lookup j=if j=k then some v else l.lookup j:=by
 unfold zL;split
 ·rename_i h
  have h0:l.lookup k=none:=by simpa using h
  rw [List.lookup_append];by_cases e:j=k
  ·subst e;rw [if_pos rfl,h0];simp [List.lookup]
  ·rw [if_neg e]
   (have:List.lookup j [(k,v)]=none:=by simp [List.lookup,AQ e]);rw [this];simp
 ·rename_i h
  have h0:(l.lookup k).isSome:=by
   cases hl:l.lookup k with
   | none=>rw [hl] at h;exact absurd rfl h
   | some x=>rfl
  clear h
  induction l with
  | nil=>cases h0
  | cons y l ih =>
   obtain ⟨y1,y2⟩:=y;rw [cK];by_cases e1:y1=k
   ·subst e1
    rw [if_pos rfl,eC];by_cases e:j=y1
    ·subst e;rw [PV,if_pos rfl]
    ·rw [AQ e,if_neg e,eC,AQ e]
     have hm:∀l:List (Int×Value),List.lookup j (l.map fun x=>if x.1=y1 then (y1,v) else x)=List.lookup j l:=by
      intro l
      induction l with
      | nil=>rfl
      | cons z l ihl =>
       obtain ⟨z1,z2⟩:=z;rw [cK];by_cases ez:z1=y1
       ·subst ez;rw [if_pos rfl,eC,AQ e,eC,AQ e];exact ihl
       ·rw [if_neg ez,eC,eC,ihl]
     exact hm l
   ·rw [if_neg e1,eC,eC]
    rw [eC,AQ (fun h=>e1 h.symm)] at h0;by_cases e:j=y1
    ·subst e;rw [PV,if_neg e1]
    ·rw [AQ e];exact ih h0
def zM (s:Int):Bool:=decide (s < -1) || decide (16<=s)
def mO (st:List Int):Int:=if 32<st.length then 4 else if (List.range st.length).any (fun j=>zM (gi st j)) then 2 else 0
def ij (st:List Int) (k:Nat):List Int:=iG (fun i=>gi st i.toNat != gi st 0) k
def rW (st:List Int) (s:Int):Nat->Nat
 | 0=>0
 | k+1=>rW st s k+if gi st k=s then 1 else 0
def uw (st:List Int):Nat->List (Int×Value)
 | 0=>[]
 | k+1=>zL (uw st k) (gi st k) (.int .i64 ((rW st (gi st k) k:Nat)+1:Int))
theorem Mx (st:List Int):∀k,Kq (uw st k)
 | 0=>yV
 | k+1=>putJ_uniq (Mx st k) _ _
theorem My (st:List Int) (s:Int):∀k,((uw st k).lookup s).getD (.int .i64 0)=.int .i64 (rW st s k:Nat)
 | 0=>rfl
 | k+1=>by
  rw [uw,Yg,rW]
  by_cases h:s=gi st k
  ·rw [if_pos h,if_pos h.symm,h];simp
  ·rw [if_neg h,if_neg (fun e=>h e.symm),My st s k];rfl
theorem cntS_le (st:List Int) (s:Int):∀k,rW st s k<=k
 | 0=>af _
 | k+1=>by have:=cntS_le st s k;rw [rW];split<;>omega
theorem Mz {st:List Int} {s:Int}:∀ {k:Nat},0<rW st s k↔∃j,j<k/\gi st j=s
 | 0=>by simp [rW]
 | k+1=>by
  rw [rW]
  constructor
  ·intro h
   by_cases e:gi st k=s
   ·exact ⟨k,by omega,e⟩
   ·rw [if_neg e] at h
    obtain ⟨j,hj,e⟩:=Mz.1 h
    exact ⟨j,by omega,e⟩
  ·rintro ⟨j,hj,e⟩
   by_cases hjk:j=k
   ·subst hjk;rw [if_pos e];omega
   ·have:=Mz.2 ⟨j,(by omega:j<k),e⟩
    omega
theorem ctK_mem {st:List Int} {s:Int}:∀ {k:Nat},s∈(uw st k).map (·.1)↔∃j,j<k/\gi st j=s
 | 0=>by simp [uw]
 | k+1=>by
  rw [uw,Su]
  have ih:=ctK_mem (st:=st) (s:=s) (k:=k)
  constructor
  ·intro h
   split at h
   ·rcases dV.1 h with h | h
    ·obtain ⟨j,hj,e⟩:=ih.1 h;exact ⟨j,by omega,e⟩
    ·exact ⟨k,by omega,(dP.1 h).symm⟩
   ·obtain ⟨j,hj,e⟩:=ih.1 h;exact ⟨j,by omega,e⟩
  ·rintro ⟨j,hj,e⟩
   by_cases hjk:j=k
   ·subst hjk
    split
    ·exact JT _ (by rw [e];simp)
    ·rename_i h2
     by_cases h3:gi st j∈(uw st j).map (·.1)
     ·rw [<- e];exact h3
     ·exact absurd (by rw [JO.2 h3];rfl) h2
   ·have:=ih.2 ⟨j,by omega,e⟩
    split
    ·exact JS _ this
    ·exact this
theorem ctK_len (st:List Int):∀k,(uw st k).length<=k
 | 0=>af _
 | k+1=>by
  have h:=ctK_len st k
  rw [uw];unfold zL
  split<;>simp<;>omega
def tJ (st:List Int):Bool:=!(decide (0<rW st (-1) st.length) || decide ((uw st st.length).length≠2) || decide ((ij st st.length).length<2) || decide ((st.length:Int) - 2<((ij st st.length).length:Int)))
structure OsOk (st:List Int):Prop where
 known:∀i,i<st.length->0<=gi st i
 two:∀i j,i<st.length->j<st.length->gi st i≠gi st 0->gi st j≠gi st 0->gi st i=gi st j
 many:2<=(ij st st.length).length
 left:(ij st st.length).length+2<=st.length
theorem Fk {st:List Int} {k:Nat} {x:Int}:x∈ij st k↔0<=x/\x<(k:Int)/\gi st x.toNat≠gi st 0:=by
 unfold ij;rw [vF];simp
theorem os_ge {st:List Int} (h:mO st=0):st.length<=32/\∀i,i<st.length -> -1<=gi st i/\gi st i<16:=by
 unfold mO at h;split at h
 ·exact absurd h (by decide)
 ·split at h
  ·exact absurd h (by decide)
  ·rename_i h1 h2
   refine ⟨by omega,fun i hi=>?_⟩;have h3:=any_false (by simpa using h2:(List.range st.length).any (fun j=>zM (gi st j))=false) hi;unfold zM at h3;simp only [CF,decide_eq_false_iff_not] at h3;omega
theorem AU:∀ {p q:List Int},p.Nodup->(∀x∈p,x∈q)->p.length<=q.length
 | [],_,_,_=>aL _
 | x::p,q,hn,h=>by
  rw [iR] at hn
  have h1:=AU (p:=p) (q:=q.erase x) hn.2 fun y hy=>(List.mem_erase_of_ne (fun e=>hn.1 (by rw [<- e];exact hy))).2 (h y (by simp [hy]))
  rw [List.length_erase_of_mem (h x (by simp))] at h1
  have:=Fv (h x (by simp))
  rw [aT];omega
theorem Xd {st:List Int} (h:mO st=0):tJ st=true↔OsOk st:=by
 obtain ⟨Fc,hge⟩:=os_ge h;have hun:((uw st st.length).map (·.1)).Nodup:=Mx st st.length;have hmem:=fun s=>ctK_mem (st:=st) (s:=s) (k:=st.length);have gz:((uw st st.length).map (·.1)).length=(uw st st.length).length:=aG _;generalize (uw st st.length).map (·.1)=K at hun hmem gz;have hdef:tJ st=true↔¬0<rW st (-1) st.length/\K.length=2/\2<=(ij st st.length).length/\(ij st st.length).length+2<=st.length:=by
  unfold tJ;rw [Ag,CF,CF,CF,decide_eq_false_iff_not,decide_eq_false_iff_not,decide_eq_false_iff_not,decide_eq_false_iff_not,gz];constructor
  ·rintro ⟨⟨⟨a,b⟩,c⟩,d⟩;exact ⟨a,by omega,by omega,by omega⟩
  ·rintro ⟨a,b,c,d⟩;exact ⟨⟨⟨a,by omega⟩,by omega⟩,by omega⟩
 rw [hdef];have hkn:(¬0<rW st (-1) st.length)↔∀i,i<st.length->0<=gi st i:=by
  rw [Mz];constructor
  ·intro h1 i hi
   have:=hge i hi;by_cases e:gi st i = -1
   ·exact absurd ⟨i,hi,e⟩ h1
   ·omega
  ·rintro h1 ⟨j,hj,e⟩
   have:=h1 j hj;omega
 rw [hkn];have key:2<=(ij st st.length).length->(ij st st.length).length+2<=st.length->(K.length=2↔∀i j,i<st.length->j<st.length->gi st i≠gi st 0->gi st j≠gi st 0->gi st i=gi st j):=by
  intro h1 h2;have hm0:gi st 0∈K:=(hmem _).2 ⟨0,by omega,rfl⟩;obtain ⟨x,hx⟩:=List.exists_mem_of_length_pos (show 0<(ij st st.length).length by omega);obtain ⟨x0,x1,x2⟩:=Fk.1 hx;have hmx:gi st x.toNat∈K:=(hmem _).2 ⟨x.toNat,by omega,rfl⟩;constructor
  ·intro hK i j hi hj ei ej
   have hmi:gi st i∈K:=(hmem _).2 ⟨i,hi,rfl⟩;have hmj:gi st j∈K:=(hmem _).2 ⟨j,hj,rfl⟩;by_cases e:gi st i=gi st j
   ·exact e
   ·have h3:([gi st 0,gi st i,gi st j]:List Int).Nodup:=by
     simp [List.nodup_cons,e,Ne.symm ei,Ne.symm ej]
    have h4:=AU h3 (q:=K) (fun y hy=>by
     simp only [aW,qD,or_false] at hy
     rcases hy with rfl | rfl | rfl
     ·exact hm0
     ·exact hmi
     ·exact hmj)
    simp at h4;omega
  ·intro hall
   have h3:([gi st 0,gi st x.toNat]:List Int).Nodup:=by simp [List.nodup_cons,Ne.symm x2]
   have h4:=AU h3 (q:=K) (fun y hy=>by
    simp only [aW,qD,or_false] at hy;rcases hy with rfl | rfl
    ·exact hm0
    ·exact hmx)
   have h5:=AU hun (q:=[gi st 0,gi st x.toNat]) (fun y hy=>by
    obtain ⟨j,hj,rfl⟩:=(hmem y).1 hy;by_cases e:gi st j=gi st 0
    ·simp [e]
    ·simp [hall j x.toNat hj (by omega) e x2])
   simp at h4 h5;omega
 constructor
 ·rintro ⟨a,b,c,d⟩
  exact ⟨a,(key c d).1 b,c,d⟩
 ·rintro ⟨a,b,c,d⟩
  exact ⟨a,(key c d).2 b,c,d⟩
def osR (st:List Int):List Int:=if mO st=0/\tJ st=true then ij st st.length else []
def Xe (st:List Int):Bool:=decide (mO st=0)&&tJ st
end
section
theorem dd_snoc (l:List Int) (x:Int):(dd (l++[x])).length=(dd l).length+if x∈l then 0 else 1:=by
 have h1:(dd (l++[x])).length=(dd (x::l)).length:=Nat.le_antisymm (OU fun y hy=>by
  rw [dV,dP] at hy
  rw [aW];exact hy.symm) (OU fun y hy=>by
  rw [aW] at hy
  rw [dV,dP];exact hy.symm)
 rw [h1];show (if x∈dd l then dd l else x::dd l).length=_;by_cases h:x∈l
 ·rw [if_pos (mE.2 h),if_pos h];rfl
 ·rw [if_neg (fun e=>h (mE.1 e)),if_neg h];rfl
end
section
theorem os_err0 {st:List Int} (h:st.length<=32) (hb:∀i,i<st.length -> -1<=gi st i/\gi st i<16):mO st=0:=by
 unfold mO;rw [if_neg (by omega)];have:(List.range st.length).any (fun j=>zM (gi st j))=false:=any_none fun j hj=>by have:=hb j hj;unfold zM;simp;omega
 rw [this];rfl
theorem osO_spl {st:List Int} (h:mO st=0) (ho:OsOk st):yP (st.length:Int) (ij st st.length):=by
 obtain ⟨Fc,_⟩:=os_ge h;refine ⟨⟨by have:=ho.left;omega,by omega⟩,memK_ok _ (by omega),fun x hx=>?_,⟨ho.many,by have:=ho.left;omega⟩⟩;obtain ⟨x0,x1,x2⟩:=Fk.1 hx;refine ⟨?_,x1⟩;by_cases e:x=0
 ·subst e;exact absurd rfl x2
 ·omega
end
section
section
variable {t:az} {aac:List ByteArray}
theorem gs_ok (hn:gT aac) {b:Nat} (hb:b<aac.length):b7 (gs aac b).data.toList=true:=by
 have:gs aac b∈aac:=by simp [gs,hb]
 exact hn.nm _ this
end
end
section
theorem Gz {p q:Int->Bool} {n:Nat} (h:∀i:Nat,i<n->p i=q i):iG p n=iG q n:=by
 unfold iG;refine List.filter_congr fun x hx=>?_;obtain ⟨i,hi,rfl⟩:=cm.1 hx;exact h i (bh.1 hi)
theorem OW {f:Nat->Int}:∀ {n:Nat},(∀c,c<n->f c=0\/f c=1)->bJ f n=1->∃k,k<n/\f k=1/\∀c,c<n->c≠k->f c=0
 | 0,_,h=>by simp [bJ] at h
 | n+1,ZN,h=>by
  rw [fD] at h
  rcases ZN n (by omega) with e | e
  ·obtain ⟨k,hk,h1,h2⟩:=OW (f:=f) (n:=n) (fun c hc=>ZN c (by omega)) (by omega)
   refine ⟨k,by omega,h1,fun c hc uI=>?_⟩
   by_cases ec:c=n
   ·rw [ec];exact e
   ·exact h2 c (by omega) uI
  ·have h0:bJ f n=0:=by omega
   refine ⟨n,by omega,e,fun c hc uI=>?_⟩
   have hz:∀m,m<=n->bJ f m=0->∀c,c<m->f c=0:=fun m=>by
    induction m with
    | zero=>intro _ _ c hc;omega
    | succ m ih =>
     intro hm hs c hc
     rw [fD] at hs
     have hnn:0<=bJ f m:=uG fun p hp=>by rcases ZN p (by omega) with e | e<;>omega
     have wV:=ZN m (by omega)
     by_cases ec:c=m
     ·rw [ec];omega
     ·exact ih (by omega) (by omega) c (by omega)
   exact hz n (af _) h0 c (by omega)
theorem Sw {f g:Nat->Int}:∀ {n:Nat},(∀p,p<n->f p<=g p)->bJ g n<=bJ f n->∀p,p<n->f p=g p
 | 0,_,_,p,hp=>by omega
 | n+1,h,hs,p,hp=>by
  rw [fD,fD] at hs
  have h1:=ki (n:=n) (f:=f) (g:=g) fun p hp=>h p (by omega)
  have h2:=h n (by omega)
  by_cases e:p=n
  ·rw [e];omega
  ·exact Sw (f:=f) (g:=g) (n:=n) (fun p hp=>h p (by omega)) (by omega) p (by omega)
section
variable {t:az} {aac:List ByteArray} {st:List Int}
theorem own_val (h:dK t aac):∀j,j<(aD t.ns).length->∃v b:Nat,gi (aD t.ns) j=(v:Int)/\v<t.ps.length/\(gs t.ns v).size≠0/\b<aac.length/\iD aac (gs t.ns v)=(b:Int)/\gi (nu t aac st (aD t.ns).length) j=gi st b:=fun j hj=>by
 obtain ⟨_,_,hnl,_,_⟩:=aF h.te
 obtain ⟨v,hv,uM,hv0⟩:=qi hj
 obtain ⟨b,hb,_,e⟩:=zm h (show v<t.ps.length by omega) hv0
 exact ⟨v,b,hv,by omega,hv0,hb,e,by rw [A7 hj,hv,cZ,e,cZ]⟩
theorem Ls (h:dK t aac) (hst:∀b,b<aac.length -> -1<=gi st b/\gi st b<16):Valid t (nu t aac st (aD t.ns).length) (bZ 16):=by
 refine ⟨h.te,Vd,qp _ _ _ _,?_⟩;unfold mH;rw [qp];refine any_none fun j hj=>?_;obtain ⟨v,b,_,_,_,hb,_,e⟩:=own_val (st:=st) h j hj;have:=hst b hb;rw [e,gM,CF,decide_eq_false_iff_not,decide_eq_false_iff_not];omega
theorem char_ab (ho:dK t aac) {k:Nat} {A B:Int} (hA:0<=A/\A<16) (hB:0<=B/\B<16) (hst:∀b:Nat,b<aac.length->gi st b=if (b:Int)∈cu t aac k then A else B):dg t (nu t aac st (aD t.ns).length) (bZ 16)<=if k<t.ps.length then 1 else 0:=by
 have hte:=ho.te;obtain ⟨jW,DR,hnl,hok,_⟩:=aF hte;have hV:=Ls (st:=st) ho fun b hb=>by rw [hst b hb];split<;>omega
 have zR:∀v,v<t.ps.length->gi ((List.range t.ps.length).map fun v=>if ew t.ps k v then A else B) v=if ew t.ps k v then A else B:=fun v hv=>by simp [gi,hv]
 have hall:yS t.ps.length 16 ((List.range t.ps.length).map fun v=>if ew t.ps k v then A else B):=⟨by simp,fun v hv=>by
  rw [zR v hv];split<;>omega⟩
 have hle:=Gw hV (all:=(List.range t.ps.length).map fun v=>if ew t.ps k v then A else B) (by rw [gM];exact hall) (fun j hj _=>by
  obtain ⟨v,b,e1,hv,hv0,hb,e2,e3⟩:=own_val (st:=st) ho j hj;rw [e1,cZ,zR v hv,e3,hst b hb];have hh:=Km ho (k:=k) hv hv0 hb e2;by_cases c:ew t.ps k v=true
  ·rw [if_pos c,if_pos (hh.1 c)]
  ·rw [if_neg c,if_neg fun q=>c (hh.2 q)])
 rw [wK hte hall] at hle
 have hle2:=ki (n:=t.ps.length) (f:=fun c=>if 0<c then (if gi ((List.range t.ps.length).map fun v=>if ew t.ps k v then A else B) (gi t.ps c).toNat=gi ((List.range t.ps.length).map fun v=>if ew t.ps k v then A else B) c then 0 else 1) else 0) (g:=fun c=>if c=k then 1 else 0) (fun c hc=>by
  show (if 0<c then _ else (0:Int))<=(if c=k then 1 else 0);by_cases c0:0<c
  ·rw [if_pos c0]
   by_cases ck:c=k
   ·rw [if_pos ck];split<;>omega
   ·have hpar:=jb hok hc c0
    rw [if_neg ck,zR c hc,zR _ (by omega),PU hok hc c0 ck,if_pos rfl];exact lT _
  ·rw [if_neg c0];split<;>omega)
 rw [vw] at hle2;exact Int.le_trans hle hle2
theorem char_back (ho:dK t aac) (hst:∀b,b<aac.length->0<=gi st b/\gi st b<16) (_hl:st.length=aac.length) (hs:yP aac.length (ij st aac.length)) (h1:dg t (nu t aac st (aD t.ns).length) (bZ 16)=1):ij st aac.length∈cW t aac:=by
 have hte:=ho.te;obtain ⟨jW,DR,hnl,hok,_⟩:=aF hte;have hV:=Ls (st:=st) ho fun b hb=>by have:=hst b hb;omega
 have ha:=Kl hV;rw [gM] at ha;have hc:=Gx hV;rw [wK hte ha,h1] at hc;obtain ⟨al,cE⟩:∃al,al=jy t (nu t aac st (aD t.ns).length) (bZ 16):=⟨_,rfl⟩;have hfit:=CB hV;rw [<- cE] at hc ha hfit
 obtain ⟨k,hk,hk1,hk2⟩:=OW (fun c _=>by
  show (if 0<c then (if gi al (gi t.ps c).toNat=gi al c then (0:Int) else 1) else 0)=0\/_=1;split
  ·split<;>simp
  ·exact .inl rfl) hc
 have kW:0<k:=by refine tK fun h=>?_;have hk1:(if 0<k then (if gi al (gi t.ps k).toNat=gi al k then (0:Int) else 1) else 0)=1:=hk1;rw [if_neg h] at hk1;cases hk1
 have hkn:gi al (gi t.ps k).toNat≠gi al k:=fun e=>by have hk1:(if 0<k then (if gi al (gi t.ps k).toNat=gi al k then (0:Int) else 1) else 0)=1:=hk1;rw [if_pos kW,if_pos e] at hk1;cases hk1
 have hval:∀d v,v<=d->v<t.ps.length->gi al v=if ew t.ps k v then gi al k else gi al 0:=fun d=>by
  induction d with
  | zero =>
   intro v hv uM;(obtain rfl:v=0:=by omega);rw [if_neg];intro e;have:=uO hok uM e;omega
  | succ d ih =>
   intro v hv uM;by_cases ev:v=k
   ·rw [ev,if_pos (x7 k)]
   ·by_cases v0:0<v
    ·have hpar:=jb hok uM v0
     have h3:(if 0<v then (if gi al (gi t.ps v).toNat=gi al v then (0:Int) else 1) else 0)=0:=hk2 v uM ev;rw [if_pos v0] at h3;(have h4:gi al (gi t.ps v).toNat=gi al v:=tK fun e=>by rw [if_neg e] at h3;cases h3);rw [<- h4,ih _ (by omega) (by omega),PU hok uM v0 ev]
    ·exact ih v (by omega) uM
 have hAB:gi al k≠gi al 0:=fun e=>by have hpar:=jb hok hk kW;have h5:=hval k (gi t.ps k).toNat (by omega) (by omega);refine hkn ?_;rw [h5,e];split<;>rfl
 have mz:∀b:Nat,b<aac.length->gi st b=if (b:Int)∈cu t aac k then gi al k else gi al 0:=fun b hb=>by
  obtain ⟨v,hv,hv0,ev⟩:=ym ho hb;obtain ⟨j,hj,ej⟩:=zl (qh.2 ⟨v,rfl,by omega,hv0⟩);have efd:iD aac (gs t.ns v)=(b:Int):=by rw [ev];exact sR ho.nd hb
  have e:gi (nu t aac st (aD t.ns).length) j=gi st b:=by rw [A7 hj,ej,cZ,efd,cZ]
  have hf:=hfit j hj (by rw [e];exact (hst b hb).1);rw [ej,cZ,e,hval v v (af _) hv] at hf;rw [<- hf];have hh:=Km ho (k:=k) hv hv0 hb efd;by_cases c:ew t.ps k v=true
  ·rw [if_pos c,if_pos (hh.1 c)]
  ·rw [if_neg c,if_neg fun q=>c (hh.2 q)]
 have hn0:0<aac.length:=by have:=hs.n1;omega
 have hsplit:fc aac.length (cu t aac k)=ij st aac.length:=by
  have h0:=mz 0 hn0;unfold fc ij;by_cases hc0:(cu t aac k).contains 0=true
  ·rw [if_pos hc0]
   unfold dZ;rw [cZ];refine Gz fun i hi=>?_;have hi2:=mz i hi;rw [if_pos (by simpa using hc0)] at h0;rw [cZ,h0,hi2];by_cases c:(i:Int)∈cu t aac k
   ·rw [if_pos c];simp [c]
   ·rw [if_neg c]
    (have:(gi al 0 != gi al k)=true:=by simpa using gj hAB);rw [this];simp [c]
  ·rw [if_neg hc0]
   have hS:cu t aac k=iG (fun x=>(cu t aac k).contains x) aac.length:=by
    conv=>lhs;unfold cu
    refine Gz fun i hi=>?_;rw [lR,iP];unfold cu;rw [vF];exact ⟨fun h=>⟨by omega,by omega,h⟩,fun h=>h.2.2⟩
   rw [hS];refine Gz fun i hi=>?_;have hi2:=mz i hi;rw [if_neg (by simpa using hc0)] at h0;rw [cZ,h0,hi2];by_cases c:(i:Int)∈cu t aac k
   ·rw [if_pos c]
    (have:(gi al k != gi al 0)=true:=by simpa using hAB);rw [this];simpa using c
   ·rw [if_neg c];simpa using c
 unfold cW;rw [if_pos (kV.2 ho),rU];unfold Me;refine fL.2 ⟨cm.2 ⟨k,fL.2 ⟨bh.2 hk,decide_eq_true kW⟩,hsplit⟩,decide_eq_true (nJ.2 hs)⟩
end
end
end Go.Proofs.YthgabkgmkolobaaGreat
