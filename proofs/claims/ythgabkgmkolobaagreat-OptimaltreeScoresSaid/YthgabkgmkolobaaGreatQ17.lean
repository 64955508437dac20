/- Maps of pointers: an entry laid or replaced, an entry read or absent; an append inside a .. -/
import Derived.Deep.CutRange
import Derived.Deep.RegionWith
import Derived.Sort.OwnSorted
import Derived.Test.YthgabkgmkolobaaGreatQ16
set_option maxRecDepth 100000
namespace Go.Proofs.YthgabkgmkolobaaGreat
section
open Go.RowKit Go.Deep
def sL (l:List (Option Nat×Value)) (k:Option Nat) (v:Value):List (Option Nat×Value):=if (l.lookup k).isNone then l++[(k,v)] else l.map fun x=>if x.1=k then (k,v) else x
section
variable {P:Program} {w:World}
theorem O2 (k:Option Nat):Instr.sameBits 10000 (pk k) (pk k)=true:=by
 cases k<;>simp [pk,Instr.sameBits]
theorem L3 (k:Option Nat):(Instr.keyThatStays (pk k) (pk k)).run P w=.ok (pk k) w:=by
 unfold Instr.keyThatStays;rw [if_pos (O2 k)];rfl
theorem EU {t e:TypeId} (ht:P.underlying t=some (.pointer e)) (he:∀w,(sizeOf e).run P w=.ok 3 w) {k:Option Nat} (hk:fq w k):∀(es:List MapEntry) (l:List (Option Nat×Value)) (i:Nat),
  es.map (fun x=>(x.key,x.val))=l.map (fun x=>(pk x.1,x.2))→(∀x∈l,fq w x.1)→(l.lookup k).isSome →
   ∃j v,l.lookup k=some v∧(l[j]?).map (·.1)=some k∧(∀m,m<j→(l[m]?).map (·.1)≠some k)∧(Instr.findAsking t (pk k) es i).run P w=.ok (some (i+j,v)) w:=by
 intro es
 induction es with
 | nil =>
  intro l i hl _ hs;cases l with
  | nil=>cases hs
  | cons=>cases hl
 | cons x es ih =>
  intro l i hl hok hs;cases l with
  | nil=>cases hl
  | cons y l =>
   simp only [List.map_cons,List.cons.injEq,Prod.mk.injEq] at hl;obtain ⟨⟨h1,h2⟩,h3⟩:=hl;have heq:=II (w:=w) ht he hk (hok y (by simp));rw [← h1] at heq;by_cases h:k=y.1
   ·subst h
    refine ⟨0,y.2,?_,rfl,fun m hm=>absurd hm (Nat.not_lt_zero _),?_⟩
    ·obtain ⟨y1,y2⟩:=y;simp
    ·simp [Instr.findAsking,heq,h2]
   ·have hb:(k==y.1)=false:=by simpa using h
    (have hs':(l.lookup k).isSome:=by obtain ⟨y1,y2⟩:=y;rw [List.lookup_cons,hb] at hs;exact hs);obtain ⟨j,v,h4,h5,h6,h7⟩:=ih l (i+1) h3 (fun z hz=>hok z (by simp [hz])) hs';refine ⟨j+1,v,?_,by simpa using h5,fun m hm=>?_,?_⟩
    ·obtain ⟨y1,y2⟩:=y;rw [List.lookup_cons,hb];exact h4
    ·cases m with
     | zero=>simpa using fun e=>h e.symm
     | succ m=>simpa using h6 m (by omega)
    ·simp [Instr.findAsking,heq,h,h7];omega
def ur (l:List (Option Nat×Value)):Prop:=(l.map (·.1)).Nodup
theorem Ah {l:List (Option Nat×Value)} {k:Option Nat}:l.lookup k=none↔k∉l.map (·.1):=by
 induction l with
 | nil=>simp
 | cons y l ih =>
  obtain ⟨y1,y2⟩:=y
  rw [List.lookup_cons]
  by_cases h:k=y1
  ·subst h;simp
  ·have hb:(k==y1)=false:=by simpa using h
   rw [hb];simp only [List.map_cons,List.mem_cons,not_or]
   exact ⟨fun h2=>⟨h,ih.1 h2⟩,fun h2=>ih.2 h2.2⟩
theorem L4 (l:List (Option Nat×Value)) (k:Option Nat) (v:Value):(sL l k v).map (·.1)=if (l.lookup k).isNone then l.map (·.1)++[k] else l.map (·.1):=by
 unfold sL;split
 ·simp
 ·rw [List.map_map]
  refine List.map_congr_left fun x _=>?_;show (if x.1=k then (k,v) else x).1=x.1;split
  ·rename_i h;exact h.symm
  ·rfl
theorem L5 {l:List (Option Nat×Value)} (h:ur l) (k:Option Nat) (v:Value):ur (sL l k v):=by
 unfold ur;rw [L4];split
 ·rename_i h2
  have h3:k∉l.map (·.1):=Ah.1 (by simpa using h2);rw [List.nodup_append];refine ⟨h,by simp,fun a ha b hb=>?_⟩;have:b=k:=by simpa using hb
  subst this;exact fun e=>h3 (by rw [← e];exact ha)
 ·exact h
theorem Hf {l:List (Option Nat×Value)} (h:ur l) {k:Option Nat} (v:Value) {j:Nat} (hj:(l[j]?).map (·.1)=some k):(l.map fun x=>if x.1=k then (k,v) else x)=l.set j (k,v):=by
 apply List.ext_getElem?;intro m;have hjl:j<l.length:=by
  cases hlj:l[j]? with
  | none=>rw [hlj] at hj;cases hj
  | some y=>exact (List.getElem?_eq_some_iff.1 hlj).1
 rw [List.getElem?_map,List.getElem?_set];by_cases e:j=m
 ·subst e
  rw [if_pos rfl,if_pos hjl];rw [List.getElem?_eq_getElem hjl] at hj ⊢;have h3:(l[j]).1=k:=by simpa using hj
  simp [h3]
 ·rw [if_neg e]
  cases hm:l[m]? with
  | none=>rfl
  | some y =>
   have hml:=(List.getElem?_eq_some_iff.1 hm).1;(have hne:y.1≠k:=fun h4=>by (have h5:(l.map (·.1))[m]? = (l.map (·.1))[j]?:=by rw [List.getElem?_map,List.getElem?_map,hm,hj];simp [h4]);(have h6:m<(l.map (·.1)).length:=by simpa using hml);(have h7:j<(l.map (·.1)).length:=by simpa using hjl);rw [List.getElem?_eq_getElem h6,List.getElem?_eq_getElem h7] at h5;injection h5 with h5;exact e ((List.getElem_inj h).1 h5).symm);simp [hne]
theorem EW {mt t e el:TypeId} (hm:P.underlying mt=some (.map t el)) (ht:P.underlying t=some (.pointer e)) (he:∀w,(sizeOf e).run P w=.ok 3 w) {b:Nat} {l:List (Option Nat×Value)} (h:iW w b l) (hu:ur l) {k:Option Nat} (v:Value)
  (hk:fq w k) (hok:∀x∈l,fq w x.1) :
  ∃w',(Instr.mapUpdate mt (.map (some b)) (pk k) v).run P w=.ok () w'∧iW w' b (sL l k v)∧w'.heap.size=w.heap.size∧w'.os=w.os∧w'.tape=w.tape∧w'.output=w.output∧∀j,j≠b→w'.heap[j]? = w.heap[j]?:=by
 cases hl0:l.lookup k with
 | none =>
  obtain ⟨w',h1,h2,h3⟩:=EM hm ht he h v hk hok hl0;refine ⟨w',h1,?_,h3⟩;unfold sL;rw [hl0];exact h2
 | some v0 =>
  obtain ⟨es,clock,hb,hl⟩:=h;have aO:=run_underlying (w:=w) hm;have aG:=run_underlying (w:=w) ht;have hg:=MapKept.run_getObj_map (P:=P) hb;obtain ⟨j,v',h4,h5,h6,h7⟩:=EU ht he hk es.toList l 0 hl hok (by rw [hl0];rfl);have hne:es.toList≠[]:=fun h0=>by rw [h0] at hl;cases l with | nil=>cases hl0 | cons=>cases hl
  have hfk:(Instr.findKey t (pk k) es.toList).run P w=.ok (some (j,v')) w:=by
   cases hes:es.toList with
   | nil=>exact absurd hes hne
   | cons x xs =>
    (have hn:Instr.findNow (.pointer e) (pk k) (x::xs) 0=none:=by simp [Instr.findNow,Instr.sameNow]);rw [hes] at h7;simp [Instr.findKey,aG,hn,h7]
  have hkey:((es[j]?).map (·.key))=some (pk k):=by
   have h8:=congrArg (fun q=>(q[j]?).map (·.1)) hl;simp only [List.getElem?_map,Option.map_map] at h8;have h9:(l[j]?).map (fun x=>pk x.1)=some (pk k):=by
    cases hlj:l[j]? with
    | none=>rw [hlj] at h5;cases h5
    | some y=>rw [hlj] at h5;simp at h5;simp [h5]
   have h10:(es.toList[j]?).map (·.key)=(l[j]?).map (fun x=>pk x.1):=h8;rw [← Array.getElem?_toList,h10,h9]
  have hst:(Instr.keyThatStays (((es[j]?).map (·.key)).getD (pk k)) (pk k)).run P w=.ok (pk k) w:=by rw [hkey];exact L3 k
  have hs:=MapKept.run_setObj_map (P:=P) (.map (es.modify j fun e=>{ e with key:=pk k,val:=v }) clock) hb;refine ⟨{ w with heap:=w.heap.setIfInBounds b (.map (es.modify j fun e=>{ e with key:=pk k,val:=v }) clock) },by simp [Instr.mapUpdate,aO,hg,run_checkKey ht,hfk,hst,hs],⟨es.modify j fun e=>{ e with key:=pk k,val:=v },clock,?_,?_⟩,by simp,rfl,rfl,rfl,fun m hm=>?_⟩
  ·have:=(Array.getElem?_eq_some_iff.1 hb).1
   simp [this]
  ·have hpl:sL l k v=l.set j (k,v):=by
    unfold sL;rw [hl0]
    exact Hf hu v h5
   rw [hpl]
   apply List.ext_getElem?
   intro m
   have h8:=congrArg (fun q=>q[m]?) hl
   simp only [List.getElem?_map] at h8
   rw [List.getElem?_map,List.getElem?_map,Array.getElem?_toList,Array.getElem?_modify,List.getElem?_set]
   have hjl:j<l.length:=by
    cases hlj:l[j]? with
    | none=>rw [hlj] at h5;cases h5
    | some y=>exact (List.getElem?_eq_some_iff.1 hlj).1
   have UH:j<es.size:=by have:=congrArg List.length hl;simp at this;omega
   by_cases e:j=m
   ·subst e
    rw [if_pos rfl,if_pos rfl,if_pos hjl,Array.getElem?_eq_getElem UH]
    rfl
   ·rw [if_neg e,if_neg e,← Array.getElem?_toList];exact h8
  ·simp [Ne.symm hm]
theorem L6 {mt t e el:TypeId} (hm:P.underlying mt=some (.map t el)) (ht:P.underlying t=some (.pointer e)) (he:∀w,(sizeOf e).run P w=.ok 3 w) {z:Value} (hz:∀w,(zeroValue el).run P w=.ok z w) {b:Nat} {l:List (Option Nat×Value)} (h:iW w b l) {k:Option Nat}
  (hk:fq w k) (hok:∀x∈l,fq w x.1):(Instr.lookup mt (.map (some b)) (pk k) false).run P w=.ok ((l.lookup k).getD z) w:=by
 cases hl0:l.lookup k with
 | some v=>exact uo hm ht he h hk hok hl0
 | none =>
  obtain ⟨es,clock,hb,hl⟩:=h;have hu:=run_underlying (w:=w) hm;have hg:=MapKept.run_getObj_map (P:=P) hb;rcases run_findKey ht he hk es.toList l hl hok with ⟨h1,h2⟩ | ⟨j,v',h1,h2⟩
  ·simp [Instr.lookup,hu,hg,run_checkKey ht,h2,hz]
  ·rw [h1] at hl0;cases hl0
end
section
variable {F:Fence} {nF:Nat} {P:Program} {ops:Array Oper} {o:Oper} {a:Act} {w:World} {K:Act→World→Prop} {Q:Exit→Act→World→Prop} {E:Prop}
theorem kN (hgd:o.guard=none) (s x:Operand) (t:TypeId) (ho:o.op=.call { callee:=.builtin .append,args:=#[s,x],argTypes:=#[t,t] })
  (base:Nat) (e:TypeId) (z:Value) (bytes:Nat) (ht:P.underlying t=some (.slice e)) (hinfo:(P.info? e).map (fun i=>(i.zero,i.size,i.bytes))=some (some z,1,bytes))
  (hz1:z.cells.size=1) (k8:bytes≤64) {v:Value} {vs:List Value} (hs:a.eval s=v) (hown:aF base e w v vs) (u:Value) (B:Nat)
  (hx:a.eval x=.slice (some ⟨B,0,none⟩) 1 1) (hB:w.cell? ⟨B,0,none⟩=some u) (h1:u.oneCell'=true) (hn:vs.length≤1000000) (hbase:base≤w.heap.size)
  (h:∀g cap w',aF base e w' (.slice (some ⟨g,0,none⟩) (vs.length+1) cap) (vs++[u])→w.grownBy w' v.ownBlock→(v.ownBlock=some g∨g=w.heap.size)→Below base w w'→K (a.put o.dst (.slice (some ⟨g,0,none⟩) (vs.length+1) cap)) w') :
  if Region.wanted o (yielded ops a.tmps)=true then Oper.wpIn F nF P o a w K Q else E:=by
 have hw:Region.wanted o (yielded ops a.tmps)=true:=by simp [Region.wanted,hgd]
 rw [if_pos hw];obtain ⟨i,hi,hzz⟩:=Option.map_eq_some_iff.1 hinfo;simp only [Prod.mk.injEq] at hzz;obtain ⟨hz,hs1,hb⟩:=hzz
 obtain ⟨g,cap,w',hr,h2,h3,h4,_⟩:=run_append_lies (P:=P) w t o.type base e i z 1 bytes ht hi hz hs1 hb hz1 (by omega) v vs.length vs hown ⟨B,0,none⟩ 1 1 [u] rfl (fun j u' hj=>by
  cases j with
  | zero=>(simp at hj;subst hj;simpa [Addr.add] using hB)
  | succ j=>simp at hj) (by simpa using h1) (by omega) (by unfold maxLen;omega) (by have:(vs.length+1)*bytes≤(vs.length+1)*64:=Nat.mul_le_mul_left _ k8;omega) hbase _ rfl
 unfold Oper.wpIn;refine ⟨by simp [Oper.about,ho,resolve,Target.leads,Sem.run_pure],?_⟩;rw [Oper.semAt_plain F _ _ (by rw [ho];intro c hc';cases hc')];simp [execOp,ho,resolve,invoke,builtin,hs,hx,hr,Result.andThen];exact h g cap w' (by unfold aF;rw [List.length_append];exact h2) h3 h4 (hown.dh h3 hbase)
end
end
section
open Go.RowKit Go.Deep
theorem Tryz.qR:∀w,(Go.sizeOf 122).run Tryz.prog w=.ok 3 w:=Tryz.sizeOf122
structure jQ (n:Nat) (A:Nat→Nat) (kv:Nat→Value) (w w':World):Prop where
 os:w'.os=w.os
 tape:w'.tape=w.tape
 output:w'.output=w.output
 size:w.heap.size≤w'.heap.size
 block:∀b,b<w.heap.size→(∀i,i<n→b≠A i)→(∀i,i<n→(kv i).ownBlock≠some b)→w'.heap[b]? = w.heap[b]?
section
variable {n base:Nat} {A:Nat→Nat} {kv:Nat→Value} {F:aU} {a b c:World}
theorem jQ.refl (n:Nat) (A:Nat→Nat) (kv:Nat→Value) (w:World):jQ n A kv w w:=⟨rfl,rfl,rfl,Nat.le_refl _,fun _ _ _ _=>rfl⟩
theorem jQ.trans (h:jQ n A kv a b) (k:jQ n A kv b c):jQ n A kv a c :=
 ⟨k.os.trans h.os,k.tape.trans h.tape,k.output.trans h.output,Nat.le_trans h.size k.size,fun j hj h1 h2=>(k.block j (Nat.lt_of_lt_of_le hj h.size) h1 h2).trans (h.block j hj h1 h2)⟩
theorem jQ.Xw (h:Up a b):jQ n A kv a b:=⟨h.os,h.tape,h.output,h.size,fun j hj _ _=>Below.block h j hj⟩
theorem jQ.below (h:jQ n A kv a b) (hF:bf base n A kv F a) (hb:base≤a.heap.size):Below base a b :=
 ⟨h.os,h.tape,h.output,h.size,fun j hj=>h.block j (by omega) (fun i hi e=>by have:=hF.lo i hi;omega) (fun i hi e=>by have:=(hF.fU hi e).1;omega)⟩
end
set_option maxHeartbeats 400000 in
theorem L8 (w:World) (bx m0 x y:Nat) (l:List (Option Nat×Value)) (sx sy:ByteArray) (k9:w.cell? ⟨bx,0,none⟩=some (.map (some m0))) (hm:iW w m0 l) (hok:∀z∈l,fq w z.1) (hx:Plain w x) (hy:Plain w y)
  (h1:l.lookup (some x)=some (.string sx)) (h2:l.lookup (some y)=some (.string sy)) :
  Calls Tryz.prog 241 #[.pointer (some ⟨x,0,none⟩),.pointer (some ⟨y,0,none⟩),.pointer (some ⟨bx,0,none⟩)] w fun e w'=>e=.returned (.int .i64 (b6 sx sy))∧w=w':=by
 have g1:=uo (P:=Tryz.prog) Tryz.underlying245 Tryz.underlying119 Tryz.qR hm (k:=some x) hx hok h1;have g2:=uo (P:=Tryz.prog) Tryz.underlying245 Tryz.underlying119 Tryz.qR hm (k:=some y) hy hok h2;simp only [pk] at g1 g2;clear hm hok hx hy h1 h2
 go_enter Tryz.func241,Tryz.ntmps241
 go_wp2_with (go_at_call 242;refine (Tryz.strings_Compare sx sy _).mono ?_;rintro e w' ⟨rfl,rfl⟩);go_ret;exact ⟨rfl,rfl⟩
end
section
open Go.RowKit Go.Deep
def jt (s:ByteArray):aD:=⟨[-1],[s]⟩
theorem UI (w:World) (s:ByteArray):au Any ((w.alloc (.cells #[.int .i64 (-1)] 3)).alloc (.cells #[.string s] 9)) (.agg #[.slice (some ⟨w.heap.size,0,none⟩) 1 1,.slice (some ⟨w.heap.size+1,0,none⟩) 1 1]) (jt s):=by
 refine ⟨_,_,rfl,⟨_,1,rfl,Nat.le_refl _,.inr ⟨_,0,rfl,trivial,fun k hk=>?_⟩⟩,⟨_,1,rfl,Nat.le_refl _,.inr ⟨_,0,rfl,trivial,fun k hk=>?_⟩⟩⟩
 ·obtain rfl:k=0:=by have:(jt s).ps.length=1:=rfl;omega
  refine (Up.alloc (w.alloc (.cells #[.int .i64 (-1)] 3)) _).cell ?_;have h:=World.alloc_heap_new w (Obj.cells #[.int .i64 (-1)] 3);simp only [World.cell?,h];rfl
 ·obtain rfl:k=0:=by have:(jt s).ns.length=1:=rfl;omega
  have h:=World.alloc_heap_new (w.alloc (.cells #[.int .i64 (-1)] 3)) (Obj.cells #[.string s] 9);rw [World.size_alloc] at h;simp only [World.cell?,h];rfl
theorem SB (s:ByteArray):(aB (jt s)==0)=aX s.data.toList:=by
 have h1:isIn (jt s).ps 0=false:=by unfold isIn B3 jt;simp
 have h2:dg (jt s).ns 0=false:=by unfold dg;simp
 have h3:iQ (jt s).ps=true:=by unfold iQ jt;simp [jg,gi]
 have h4:gs (jt s).ns 0=s:=rfl;unfold aB;rw [if_neg (by simp [jt]),if_neg (by simp [jt]),if_neg (by simp [jt]),if_pos h3];show (firstNZ (iC (jt s).ps (jt s).ns) 1==0)=_;simp only [firstNZ,if_true];unfold iC;rw [h1,h2,h4];cases aX s.data.toList<;>simp
end
section
open Go.RowKit Go.Deep
theorem Cx (S:Nat→Prop) (w:World) (b c:Nat):aQ S w (.slice (some ⟨b,0,none⟩) 0 c) []:=⟨fun _=>undef,⟨_,_,rfl,Nat.zero_le _,.inl rfl⟩,fun _ hk=>absurd hk (Nat.not_lt_zero _)⟩
theorem zh (n k:Nat):gi (List.replicate n 0) k=0:=by
 unfold gi;by_cases h:k<n
 ·simp [h]
 ·simp [h]
theorem EX (w:World) (n:Nat) (T:TypeId):aj Any (w.alloc (.cells (madeCells #[.int .i64 0] n) T)) (.slice (some ⟨w.heap.size,0,none⟩) n n) (List.replicate n 0):=by
 refine ⟨_,_,by rw [List.length_replicate],by rw [List.length_replicate];exact Nat.le_refl _,.inr ⟨_,0,rfl,trivial,fun k hk=>?_⟩⟩;rw [List.length_replicate] at hk;rw [Nat.zero_add,(World.rowIs_made w (.int .i64 0) n T).cell hk];show some (Value.int .i64 0)=some (Value.int .i64 (gi (List.replicate n 0) k));rw [zh]
def Bu (w:World) (t:aD) (st:List Int) (cs:List (List Int)) (e:Ending) (w':World):Prop :=
 ∃tb L9 O3 rq rc,e=.returned (.slice (some ⟨tb,L9,none⟩) t.ps.length O3)∧w'.cell? ⟨tb,L9,none⟩=some (.slice rq cs.length rc)∧aj Any w' (.slice rq cs.length rc) (aN t st cs 0)∧Up w w'
theorem Yz {w w':World} {t:aD} {st:List Int} {cs:List (List Int)} {e:Ending} (hv:Valid t st cs) (h:wO w (lQ t st cs) e w'):Bu w t st cs e w':=by
 obtain ⟨hb,v,rfl,hr⟩:=h;have hp:=(aJ hv.tree).1;obtain ⟨p,cap,rfl,_,H⟩:=bS hr;obtain ⟨b,off,q,c,rfl,hc,hi⟩:=H 0 (by rw [nH];exact hp);rw [Iz _ _ _ hp] at hc hi;rw [bX] at hc hi;rw [nH];exact ⟨b,off,cap,q,c,rfl,by rw [Nat.add_zero] at hc;exact hc,hi,hb⟩
set_option maxHeartbeats 2000000 in
theorem O4 (S:Nat→Prop) (w:World) (v vs vc:Value) (t:aD) (st:List Int) (cs:List (List Int)) (hT:au S w v t) (hS:aj S w vs st) (hC:aQ S w vc cs) (hz:JQ t st cs) :
  Calls Tryz.prog 203 #[v,vs,vc] w (Ug w t st cs):=by
 have vg:=hz.2.2.1;obtain ⟨P,N,rfl,hP,hN⟩:=hT;obtain ⟨qC,fT,rfl,DT,_⟩:=bS hC;have hu:=Up.alloc w (.cells #[P,N] 39);have dw:au S (w.alloc (.cells #[P,N] 39)) (.agg #[P,N]) t:=au.keep ⟨P,N,rfl,hP,hN⟩ (hu.kept S);have hk:=LI S _ _ _ _ t st cs dw (aj.keep hS (hu.kept S)) (hC.keep (hu.kept S)) hz;have HK:=aa hk;have HU:=aa hu;have cZ:=aa (dc w P N 39);have cR:=aa (dz w P N 39);have HT:=aa dw;have HS:=aa (aj.keep hS (hu.kept S));have HC:=aa (hC.keep (hu.kept S));have EE:=aa vg
 clear hk hu dw hS hC hP hN hz vg
 go_enter Tryz.func203,Tryz.ntmps203
 go_wp2_with fail;generalize w.alloc (.cells #[P,N] 39)=w1 at *;refine HK.out.mono ?_;rintro e w2 ⟨rfl,hb⟩;have aG:Up w1 w2:=hb;have hc0:=aG.cell cZ.out;have hc1:=aG.cell cR.out;have aP:=aa (HU.out.trans aG);have iu:=aa (HT.out.keep (aG.kept S));have dP:=aa (aj.keep HS.out (aG.kept S));have iK:=aa (HC.out.keep (aG.kept S));clear hb aG HK HU cZ cR HT HS HC;by_cases he:cE t st cs=0
 ·have rR:(cE t st cs != 0)=false:=by simpa using he
  have hv:=wk he;have HF:Hid (bu t st cs=(bq (fun _=>0) (gi (aN t st cs 0)) cs.length).1):=by unfold Hid bu;rw [if_pos he]
  have hm2:=(od hv.KX).2.1;have HE:=aa he;have HV:=aa hv;have UC:=fun W=>run_make_row' (P:=Tryz.prog) 26 3 (.int .i64 0) 8 Tryz.underlying26 Tryz.fI rfl .i64 .i64 cs.length (by omega) (by omega) W;have wN:Hid (∀W,Up w2 W→Calls Tryz.prog 252 #[.agg #[P,N],vs,.slice qC cs.length fT] W (Bu W t st cs)):=fun W hW=>(OY S W _ _ _ t st cs (iu.out.keep (hW.kept _)) (aj.keep dP.out (hW.kept _)) (iK.out.keep (hW.kept _)) EE.out HV.out).mono fun _ _ h=>Yz HV.out h
  have j9:Hid ((aN t st cs 0).length≤(List.replicate cs.length (0:Int)).length∧(List.replicate cs.length (0:Int)).length≤1000∧(∀k,0≤gi (List.replicate cs.length (0:Int)) k∧gi (List.replicate cs.length (0:Int)) k≤1000)∧∀k,gi (aN t st cs 0) k≤1000000000) :=
   ⟨by rw [bX,List.length_replicate];exact Nat.le_refl _,by rw [List.length_replicate];omega,fun k=>by rw [zh];omega,fun k=>by have:=(HV.out.tb 0 k (aJ HV.out.tree).1).2;omega⟩
  have mI:Hid ((bq (gi (List.replicate cs.length 0)) (gi (aN t st cs 0)) (aN t st cs 0).length).1=bu t st cs):=by unfold Hid;rw [HF.out,bX,kZ (fun j _=>zh _ j) (fun _ _=>rfl)]
  have JV:(aN t st cs 0).length=cs.length:=bX _ _ _ _;have Xx:(0:Int)<(t.ps.length:Int):=by have:=(aJ HV.out.tree).1;omega
  clear JV;clear he hv;have hc0a:∀o,(w2.alloc o).cell? ⟨w.heap.size,0,none⟩=some P:=fun o=>(Up.alloc w2 o).cell hc0;have hc1a:∀o,(w2.alloc o).cell? ⟨w.heap.size,1,none⟩=some N:=fun o=>(Up.alloc w2 o).cell hc1;go_wp2_with fail
  go_region_with (first
   | (go_at_call 252;refine (wN.out _ ?_).mono ?_;(first | exact Up.drewN w2 1 | exact (Up.drewN w2 1).trans (Up.alloc _ _));rintro e w3 ⟨tb,L9,O3,rq,rc,rfl,hcell,hrow,b9⟩;have hne:∀o,(w3.alloc o).cell? ⟨tb,L9,none⟩=some (.slice rq cs.length rc):=(fun o=>(Up.alloc w3 o).cell hcell);have hrow2:=aa hrow;have O5:=aa b9;clear hrow b9)
   | (go_at_call 251;refine (EC Any Any _ _ _ (aN t st cs 0) (List.replicate cs.length 0) ?_ ?_ j9.out.1 j9.out.2.1 j9.out.2.2.1 j9.out.2.2.2).mono ?_;(first | exact hrow2.out | exact aj.keep hrow2.out ((Up.alloc _ _).kept _));(first | exact EX _ _ _ | exact aj.keep (EX _ _ _) (O5.out.kept _));rintro e w5 ⟨rfl,n5,rfl⟩))
  all_goals
   rw [mI.out];go_wp2_with fail;go_ret2;refine ⟨aP.out.trans ?_,by rw [HE.out];rfl⟩
   first
    | exact (((Up.drewN w2 1).trans O5.out).trans (Up.alloc _ _)).trans (Up.drewN _ _)
    | exact ((((Up.drewN w2 1).trans (Up.alloc _ _)).trans O5.out)).trans (Up.drewN _ _)
 ·have rR:(cE t st cs != 0)=true:=by simpa using he
  have HE:=aa he;clear he;go_wp2_with fail;go_ret2;exact ⟨aP.out,by unfold bu;rw [if_neg HE.out];rfl⟩
end
section
open Go.RowKit Go.Deep Go.Sort Go.Shelf Go.Lib
section
variable {α:Type} [Inhabited α] {enc:α→Value}
theorem O6 (cur:Array Value) (ts:List α) (h:ts.length≤cur.size):(putCells enc 0 ts.toArray cur).toList.take ts.length=ts.map enc:=by
 apply List.ext_getElem?;intro j;by_cases hj:j<ts.length
 ·rw [List.getElem?_take_of_lt hj,Array.getElem?_toList]
  simp [putCells,hj,show j<cur.size by omega]
 ·rw [List.getElem?_take_eq_none (by omega),List.getElem?_eq_none (by simp;omega)]
theorem Bv (w:World) (g n:Nat) (d:Array α) (os:Array Obj):w.heap.size≤(sortWorld enc w g 0 n d os).heap.size:=by
 simp [sortWorld,grow,putRow,mapBlock,Sort.ahead]
theorem dR {w:World} {g n:Nat} {d:Array α} {os:Array Obj} {b:Nat} (h:b≠g) (hl:b<w.heap.size):(sortWorld enc w g 0 n d os).heap[b]? = w.heap[b]?:=by
 unfold sortWorld;rw [heap_grow_old _ _ (by simpa [putRow,mapBlock,Sort.ahead] using hl)];simp [putRow,mapBlock,Sort.ahead,Array.getElem?_modify,Ne.symm h]
theorem DK {w:World} {g n:Nat} {d:Array α} {os:Array Obj} {cur:Array Value} {e:TypeId} {fr:Nat×Nat} (hb:w.heap[g]? = some (.cells cur e fr)) :
  (sortWorld enc w g 0 n d os).heap[g]? = some (.cells (putCells enc 0 d cur) e fr):=by
 have hg:g<w.heap.size:=(Array.getElem?_eq_some_iff.1 hb).1;unfold sortWorld;rw [heap_grow_old _ _ (by simpa [putRow,mapBlock,Sort.ahead] using hg)];simp [putRow,mapBlock,Sort.ahead,Array.getElem?_modify,hb,onCells]
end
theorem aF.sorted {α:Type} [Inhabited α] {enc:α→Value} {base g cap n:Nat} {e:TypeId} {w:World} {os:Array Obj} {vs:List Value} {ts:List α} (h:aF base e w (.slice (some ⟨g,0,none⟩) vs.length cap) vs) (hl:ts.length=vs.length) :
  aF base e (sortWorld enc w g 0 n ts.toArray os) (.slice (some ⟨g,0,none⟩) vs.length cap) (ts.map enc):=by
 obtain ⟨_,⟨h1,_⟩ | ⟨g',cap',cur,hs,hg,hc,hn,hcm,hcs,ht⟩⟩:=h
 ·cases h1
 ·injection hs with hs1 hs2 hs3
  injection hs1 with hs1;injection hs1 with hs1;subst hs1;subst hs3;refine ⟨by simp,.inr ⟨g,cap,putCells enc 0 ts.toArray cur,by simp [hl],hg,DK hc,by simp [hl];exact hn,hcm,by simpa [putCells] using hcs,?_⟩⟩;rw [List.length_map,Nat.mul_one];exact O6 cur ts (by omega)
theorem O7 (f:Nat→ByteArray) {L:List Nat}:SWO (ltOf fun (x y:{k // k∈L})=>b6 (f x.1) (f y.1)) where
 irrefl x:=by simp [ltOf,Cs]
 trans x y z h1 h2:=by
  simp only [ltOf,decide_eq_true_eq] at *
  exact pY h1 h2
 ntrans x y z h1 h2:=by
  simp only [ltOf,decide_eq_false_iff_not] at *
  intro h3
  by_cases e:b6 (f x.1) (f y.1)=0
  ·rw [gu e] at h3;exact h2 h3
  ·have h4:b6 (f y.1) (f x.1)<0:=by have:=gq (f x.1) (f y.1);omega
   exact h2 (pY h4 h3)
def UJ (n base:Nat) (A:Nat→Nat) (kv:Nat→Value) (F:aU) (w:World) (i:Nat) (l:List Nat) (e:Ending) (w':World):Prop :=
 e=.returned (.tuple #[])∧bf base n A kv { F with kids:=upd F.kids i l } w'∧jQ n A kv w w'
theorem bf.plain {base n:Nat} {A:Nat→Nat} {kv:Nat→Value} {F:aU} {w:World} (h:bf base n A kv F w) {i:Nat} (hi:i<n):Plain w (A i):=⟨_,_,h.node i hi,by simp⟩
theorem Plain.of_block {w w':World} {b:Nat} (h:Plain w b) (e:w'.heap[b]? = w.heap[b]?):Plain w' b:=by
 obtain ⟨c,t,h1,h2⟩:=h;exact ⟨c,t,by rw [e];exact h1,h2⟩
theorem iW.of_block {w w':World} {b:Nat} {l:List (Option Nat×Value)} (h:iW w b l) (e:w'.heap[b]? = w.heap[b]?):iW w' b l:=by
 obtain ⟨es,c,h1,h2⟩:=h;exact ⟨es,c,by rw [e];exact h1,h2⟩
theorem iW.lt {w:World} {b:Nat} {l:List (Option Nat×Value)} (h:iW w b l):b<w.heap.size:=by
 obtain ⟨es,c,h1,h2⟩:=h;exact (Array.getElem?_eq_some_iff.1 h1).1
set_option maxHeartbeats 800000 in
theorem Hg {base n:Nat} {A:Nat→Nat} {kv:Nat→Value} {F:aU} {w:World} (hF:bf base n A kv F w) {i g cap:Nat} (hi:i<n) (hv:kv i=.slice (some ⟨g,0,none⟩) (F.kids i).length cap) (h0:F.kids i≠[]) (hlen:(F.kids i).length≤1000000)
  (f:Nat→ByteArray) (hs:Sep f (F.kids i)) {bx m0:Nat} {l:List (Option Nat×Value)} (k9:w.cell? ⟨bx,0,none⟩=some (.map (some m0))) (hm:iW w m0 l) (hgb:g≠bx) (hgm:g≠m0)
  (hl:∀k∈F.kids i,l.lookup (some (A k))=some (.string (f k))) (hok:∀z∈l,∃k,k<n∧z.1=some (A k)) :
  Calls Tryz.prog 240 #[kv i,.func (.func 241) #[] #[.pointer (some ⟨bx,0,none⟩)]] w (UJ n base A kv F w i (cn f (F.kids i))):=by
 obtain ⟨k0,rN⟩:∃k,k∈F.kids i:=List.exists_mem_of_ne_nil _ h0;letI:Inhabited {k // k∈F.kids i}:=⟨⟨k0,rN⟩⟩;have hown:=hF.own i hi;rw [hv] at hown;have hgo:(kv i).ownBlock=some g:=by rw [hv];rfl
 have yA:=(hF.fU hi hgo).2;have Ma:∀j,j<n→A j≠g:=fun j hj e=>hF.apart i j hi hj (by rw [hgo,e]);have eg:∀args w,(callFunc 241 args).run Tryz.prog w=.ok (.enter 241 args) w:=enters_of Tryz.func241 (by kernel_rfl) rfl;have hsize:((F.kids i).attach.toArray).size=(F.kids i).length:=by simp
 have J3:((F.kids i).map (bg A)).length=(F.kids i).length:=by simp
 have hH:Holds (fun (x:{k // k∈F.kids i})=>bg A x.1) w g 0 (F.kids i).attach.toArray:=by
  intro j hj;rw [hsize] at hj;obtain ⟨p,c,e,_,H⟩:=hown.wA.open;injection e with e1;subst e1;obtain ⟨b,off,e,hc⟩:=H j (by rw [J3];exact hj);injection e with e;injection e with e1 e2;subst e1;subst e2;refine ⟨?_,?_⟩
  ·rw [hc,getElem!_pos _ _ (by simpa using hj)];simp [hj]
  ·obtain ⟨_,⟨h1,_⟩ | ⟨g',cap',cur,hs',_,hc',_⟩⟩:=hown
   ·cases h1
   ·injection hs' with hs1
    injection hs1 with hs1;injection hs1 with hs1;subst hs1;simp [World.frozen?,hc']
 have hcmp:CmpLays1 Tryz.prog 241 #[.pointer (some ⟨bx,0,none⟩)] (fun (x:{k // k∈F.kids i})=>bg A x.1) (fun x y=>b6 (f x.1) (f y.1)) g 0 (F.kids i).attach.toArray.size w:=by
  intro m os dk hdk x y;have hx:=hF.kid i hi x.1 x.2;have hy:=hF.kid i hi y.1 y.2;have hbl:bx<w.heap.size:=World.block_lt_of_cell? w _ k9;have h1:(sortWorld (fun (x:{k // k∈F.kids i})=>bg A x.1) w g 0 m dk os).cell? ⟨bx,0,none⟩=some (.map (some m0)):=by rw [World.cell?_of_block (a:=⟨bx,0,none⟩) (dR (Ne.symm hgb) hbl)];exact k9
  refine (L8 _ bx m0 (A x.1) (A y.1) l (f x.1) (f y.1) h1 (hm.of_block (dR (Ne.symm hgm) hm.lt)) (fun z hz=>?_)
   ((hF.plain hx).of_block (dR (Ma _ hx) (hF.lt hx))) ((hF.plain hy).of_block (dR (Ma _ hy) (hF.lt hy))) (hl x.1 x.2) (hl y.1 y.2)).mono fun e w' ⟨he,hw⟩=>⟨he,0,#[],by rw [← hw,grow_empty];rfl⟩
  obtain ⟨k,hk,e⟩:=hok z hz;rw [e];exact (hF.plain hk).of_block (dR (Ma _ hk) (hF.lt hk))
 have hcon:=Any.slices_SortFunc_total Tryz.sortNode (fun (x:{k // k∈F.kids i})=>bg A x.1) (fun _=>rfl) (fun x y=>b6 (f x.1) (f y.1)) (O7 f) 241 #[.pointer (some ⟨bx,0,none⟩)] g 0 cap (F.kids i).attach.toArray w eg hcmp hH yA (by rw [hsize];omega)
  (fun x y h1 h2=>by
   simp only [ltOf,decide_eq_false_iff_not] at h1 h2;have h3:b6 (f x.1) (f y.1)=0:=by have:=gq (f x.1) (f y.1);omega
   exact Subtype.ext (hs x.1 x.2 y.1 y.2 (gu h3)))
 rw [hsize,← hv] at hcon;refine hcon.mono fun e w' ⟨he,m,os,hw⟩=>⟨he,?_,?_⟩
 ·have hsrt:(((F.kids i).attach.toArray.toList.mergeSort fun x y=>!(ltOf fun (x y:{k // k∈F.kids i})=>b6 (f x.1) (f y.1)) y x).map fun x=>x.1)=cn f (F.kids i):=by
   have h:=List.map_mergeSort (f:=fun (x:{k // k∈F.kids i})=>x.1) (r:=fun x y=>!(ltOf fun (x y:{k // k∈F.kids i})=>b6 (f x.1) (f y.1)) y x) (s:=l8 f) (l:=(F.kids i).attach) (fun a _ b _=>by
    simp only [ltOf,l8]
    have:=gq (f a.1) (f b.1)
    by_cases h:b6 (f a.1) (f b.1)≤0
    ·rw [decide_eq_true h];simp;omega
    ·rw [decide_eq_false h];simp;omega)
   rw [List.toList_toArray]
   rw [h,List.attach_map_subtype_val]
   rfl
  have ho:aF base 119 w' (kv i) ((cn f (F.kids i)).map (bg A)):=by
   rw [hv,hw,← hsrt,List.map_map]
   have h:=aF.sorted (enc:=fun (x:{k // k∈F.kids i})=>bg A x.1) (n:=m) (os:=os) (ts:=((F.kids i).attach.toArray.toList.mergeSort fun x y=>!(ltOf fun (x y:{k // k∈F.kids i})=>b6 (f x.1) (f y.1)) y x)) (vs:=(F.kids i).map (bg A)) (by rw [J3];exact hown) (by simp)
   rw [J3] at h
   exact h
  have hsame:∀b,b≠g→b<w.heap.size→w'.heap[b]? = w.heap[b]?:=fun b hb hbl=>by rw [hw];exact dR hb hbl
  have h2:=hF.put (w':=w') (k:=i) (v:=kv i) (ks:=cn f (F.kids i)) hi (fun j hj _=>hsame _ (Ma j hj) (hF.lt hj)) (by rw [hsame _ (Ma i hi) (hF.lt hi)];exact hF.node i hi) ho
   (fun j b hj hji hb=>hsame b (fun e=>hji (hF.alone j i b hj hi hb (by rw [hgo,e]))) (hF.fU hj hb).2) (fun b hb=>.inl hb) (fun j hj=>hF.kid i hi j ((dM _ _).mem_iff.1 hj))
  have hkv:upd kv i (kv i)=kv:=by
   funext j;by_cases e:j=i
   ·subst e;exact upd_same _ _ _
   ·exact upd_ne _ _ e
  rw [hkv] at h2
  exact h2
 ·rw [hw]
  exact ⟨rfl,rfl,rfl,Bv _ _ _ _ _,fun b hb _ h2=>dR (fun e=>h2 i hi (by rw [hgo,e])) hb⟩
end
end Go.Proofs.YthgabkgmkolobaaGreat
