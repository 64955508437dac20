/- Nodes that point at each other: how a forest lies in memory, and what keeps it. A list of .. -/
import Derived.Shelf.Lays2
import Derived.Shelf.Slices.CompactI
import Derived.Test.YthgabkgmkolobaaGreatQ12
set_option maxRecDepth 100000
namespace Go.Proofs.YthgabkgmkolobaaGreat
section
open Go.RowKit Go.Deep
structure aU where
 nm:Nat→ByteArray
 old:Nat→Int
 kids:Nat→List Nat
def bg (A:Nat→Nat) (k:Nat):Value:=.pointer (some ⟨A k,0,none⟩)
def upd {α:Type} (f:Nat→α) (k:Nat) (x:α) (i:Nat):α:=if i=k then x else f i
theorem upd_same {α:Type} (f:Nat→α) (k:Nat) (x:α):upd f k x k=x:=by simp [upd]
theorem upd_ne {α:Type} (f:Nat→α) {k i:Nat} (x:α) (h:i≠k):upd f k x i=f i:=by simp [upd,h]
structure bf (base n:Nat) (A:Nat→Nat) (kv:Nat→Value) (F:aU) (w:World):Prop where
 node:∀i,i<n→w.heap[A i]? = some (.cells #[.string (F.nm i),kv i,.int .i64 (F.old i)] 122 (0,0))
 lo:∀i,i<n→base≤A i
 inj:∀i j,i<n→j<n→A i=A j→i=j
 own:∀i,i<n→aF base 119 w (kv i) ((F.kids i).map (bg A))
 apart:∀i j,i<n→j<n→(kv i).ownBlock≠some (A j)
 alone:∀i j b,i<n→j<n→(kv i).ownBlock=some b→(kv j).ownBlock=some b→i=j
 kid:∀i,i<n→∀k∈F.kids i,k<n
theorem aF.same {base:Nat} {e:TypeId} {w w':World} {v:Value} {vs:List Value} (h:aF base e w v vs) (k:∀b,v.ownBlock=some b→w'.heap[b]? = w.heap[b]?):aF base e w' v vs:=by
 obtain ⟨hl,h | ⟨g,cap,cur,rfl,hg,hc,hr⟩⟩:=h
 ·exact ⟨hl,.inl h⟩
 ·exact ⟨hl,.inr ⟨g,cap,cur,rfl,hg,by rw [k g rfl];exact hc,hr⟩⟩
theorem aF.wV {base base':Nat} {e:TypeId} {w:World} {v:Value} {vs:List Value} (h:aF base e w v vs) (hb:base'≤base):aF base' e w v vs:=by
 obtain ⟨hl,h | ⟨g,cap,cur,rfl,hg,hc,hr⟩⟩:=h
 ·exact ⟨hl,.inl h⟩
 ·exact ⟨hl,.inr ⟨g,cap,cur,rfl,Nat.le_trans hb hg,hc,hr⟩⟩
section
variable {base n:Nat} {A:Nat→Nat} {kv:Nat→Value} {F:aU} {w w':World}
theorem bf.lt (h:bf base n A kv F w) {i:Nat} (hi:i<n):A i<w.heap.size:=(Array.getElem?_eq_some_iff.1 (h.node i hi)).1
theorem bf.fU (h:bf base n A kv F w) {i b:Nat} (hi:i<n) (hb:(kv i).ownBlock=some b):base≤b∧b<w.heap.size:=aI (h.own i hi) hb
theorem bf.name (h:bf base n A kv F w) {i:Nat} (hi:i<n):w.cell? ⟨A i,0,none⟩=some (.string (F.nm i)):=by simp [World.cell?,h.node i hi]
theorem bf.oZ (h:bf base n A kv F w) {i:Nat} (hi:i<n):w.cell? ⟨A i,1,none⟩=some (kv i):=by simp [World.cell?,h.node i hi]
theorem bf.thaw (h:bf base n A kv F w) {i:Nat} (hi:i<n) (o:Nat):w.frozen? ⟨A i,o,none⟩=false:=by simp [World.frozen?,h.node i hi]
theorem bf.same (h:bf base n A kv F w) (ha:∀i,i<n→w'.heap[A i]? = w.heap[A i]?) (hk:∀i b,i<n→(kv i).ownBlock=some b→w'.heap[b]? = w.heap[b]?):bf base n A kv F w' :=
 ⟨fun i hi=>by rw [ha i hi];exact h.node i hi,h.lo,h.inj,fun i hi=>(h.own i hi).same fun b hb=>hk i b hi hb,h.apart,h.alone,h.kid⟩
theorem bf.kept (h:bf base n A kv F w) (k:∀b,base≤b→b<w.heap.size→w'.heap[b]? = w.heap[b]?):bf base n A kv F w' :=
 h.same (fun i hi=>k _ (h.lo i hi) (h.lt hi)) (fun _ _ hi hb=>k _ (h.fU hi hb).1 (h.fU hi hb).2)
theorem bf.up (h:bf base n A kv F w) (k:Up w w'):bf base n A kv F w':=h.kept fun b _ hb=>Below.block k b hb
theorem bf.put (h:bf base n A kv F w) {k:Nat} (hk:k<n) {v:Value} {ks:List Nat}
  (ha:∀i,i<n→i≠k→w'.heap[A i]? = w.heap[A i]?) (hn:w'.heap[A k]? = some (.cells #[.string (F.nm k),v,.int .i64 (F.old k)] 122 (0,0)))
  (hv:aF base 119 w' v (ks.map (bg A))) (ho:∀i b,i<n→i≠k→(kv i).ownBlock=some b→w'.heap[b]? = w.heap[b]?)
  (hb:∀b,v.ownBlock=some b→(kv k).ownBlock=some b∨w.heap.size≤b) (hks:∀j∈ks,j<n):bf base n A (upd kv k v) { F with kids:=upd F.kids k ks } w':=by
 refine ⟨fun i hi=>?_,h.lo,h.inj,fun i hi=>?_,fun i j hi hj=>?_,fun i j b hi hj h1 h2=>?_,fun i hi=>?_⟩
 ·by_cases e:i=k
  ·subst e;rw [upd_same];exact hn
  ·rw [upd_ne _ _ e,ha i hi e];exact h.node i hi
 ·by_cases e:i=k
  ·subst e;simp only [upd_same];exact hv
  ·simp only [upd_ne _ _ e];exact (h.own i hi).same fun b hb=>ho i b hi e hb
 ·by_cases e:i=k
  ·subst e;rw [upd_same];intro h3
   rcases hb _ h3 with h4 | h4
   ·exact h.apart i j hi hj h4
   ·exact absurd (h.lt hj) (by omega)
  ·rw [upd_ne _ _ e];exact h.apart i j hi hj
 ·by_cases e1:i=k
  ·by_cases e2:j=k
   ·rw [e1,e2]
   ·subst e1
    rw [upd_same] at h1;rw [upd_ne _ _ e2] at h2;rcases hb _ h1 with h4 | h4
    ·exact h.alone i j b hi hj h4 h2
    ·exact absurd (h.fU hj h2).2 (by omega)
  ·by_cases e2:j=k
   ·subst e2
    rw [upd_same] at h2;rw [upd_ne _ _ e1] at h1;rcases hb _ h2 with h4 | h4
    ·exact h.alone i j b hi hj h1 h4
    ·exact absurd (h.fU hi h1).2 (by omega)
   ·rw [upd_ne _ _ e1] at h1
    rw [upd_ne _ _ e2] at h2;exact h.alone i j b hi hj h1 h2
 ·by_cases e:i=k
  ·subst e;simp only [upd_same];exact hks
  ·simp only [upd_ne _ _ e];exact h.kid i hi
theorem bf.ze (h:bf base n A kv F w) (hb:base≤w.heap.size) (nm:ByteArray) (old:Int) :
  bf base (n+1) (upd A n w.heap.size) (upd kv n (.slice none 0 0)) ⟨upd F.nm n nm,upd F.old n old,upd F.kids n []⟩ (w.alloc (.cells #[.string nm,.slice none 0 0,.int .i64 old] 122)):=by
 have hne:∀i,i<n→i≠n:=fun i hi=>by omega
 have hmap:∀i,i<n→(F.kids i).map (bg (upd A n w.heap.size))=(F.kids i).map (bg A):=fun i hi=>by refine List.map_congr_left fun k hk=>?_;unfold bg;rw [upd_ne _ _ (hne k (h.kid i hi k hk))]
 have lJ:∀i,i<n+1→i<n∨i=n:=fun i hi=>by omega
 refine ⟨fun i hi=>?_,fun i hi=>?_,fun i j hi hj e=>?_,fun i hi=>?_,fun i j hi hj=>?_,fun i j b hi hj h1 h2=>?_,fun i hi=>?_⟩
 ·rcases lJ i hi with hi | rfl
  ·simp only [upd_ne _ _ (hne i hi)];rw [blk_alloc_lt _ _ _ (h.lt hi)];exact h.node i hi
  ·simp only [upd_same];exact blk_alloc_new _ _
 ·rcases lJ i hi with hi | rfl
  ·rw [upd_ne _ _ (hne i hi)];exact h.lo i hi
  ·rw [upd_same];exact hb
 ·rcases lJ i hi with hi | rfl<;>rcases lJ j hj with hj | rfl
  ·rw [upd_ne _ _ (hne i hi),upd_ne _ _ (hne j hj)] at e;exact h.inj i j hi hj e
  ·rw [upd_ne _ _ (hne i hi),upd_same] at e;have:=h.lt hi;omega
  ·rw [upd_same,upd_ne _ _ (hne j hj)] at e;have:=h.lt hj;omega
  ·rfl
 ·rcases lJ i hi with hi | rfl
  ·simp only [upd_ne _ _ (hne i hi)];rw [hmap i hi];exact (h.own i hi).alloc _
  ·simp only [upd_same];exact aF.nil _ _ _
 ·rcases lJ i hi with hi | rfl
  ·rw [upd_ne _ _ (hne i hi)]
   rcases lJ j hj with hj | rfl
   ·rw [upd_ne _ _ (hne j hj)];exact h.apart i j hi hj
   ·rw [upd_same];intro e;have:=(h.fU hi e).2;omega
  ·rw [upd_same];intro e;cases e
 ·rcases lJ i hi with hi | rfl<;>rcases lJ j hj with hj | rfl
  ·rw [upd_ne _ _ (hne i hi)] at h1;rw [upd_ne _ _ (hne j hj)] at h2;exact h.alone i j b hi hj h1 h2
  ·rw [upd_same] at h2;cases h2
  ·rw [upd_same] at h1;cases h1
  ·rfl
 ·rcases lJ i hi with hi | rfl
  ·simp only [upd_ne _ _ (hne i hi)];intro k hk;have:=h.kid i hi k hk;omega
  ·simp only [upd_same];intro k hk;cases hk
theorem bf.empty (base:Nat) (A:Nat→Nat) (kv:Nat→Value) (F:aU) (w:World):bf base 0 A kv F w :=
 ⟨fun _ h=>absurd h (Nat.not_lt_zero _),fun _ h=>absurd h (Nat.not_lt_zero _),fun _ _ h=>absurd h (Nat.not_lt_zero _),fun _ h=>absurd h (Nat.not_lt_zero _),fun _ _ h=>absurd h (Nat.not_lt_zero _),fun _ _ _ h=>absurd h (Nat.not_lt_zero _),fun _ h=>absurd h (Nat.not_lt_zero _)⟩
theorem bf.push (h:bf base n A kv F w) {k c:Nat} (hk:k<n) (hc:c<n) {v:Value} (hv:aF base 119 w' v ((F.kids k++[c]).map (bg A))) (hg:w.grownBy w' (kv k).ownBlock)
  (hb:∀b,v.ownBlock=some b→(kv k).ownBlock=some b∨w.heap.size≤b):bf base n A (upd kv k v) { F with kids:=upd F.kids k (F.kids k++[c]) } (w'.setCell ⟨A k,1,none⟩ v):=by
 have hold:∀i,i<n→w'.heap[A i]? = w.heap[A i]?:=fun i hi=>hg.block (A i) (h.lt hi) (fun e=>h.apart k i hk hi e.symm);have hnA:∀b,v.ownBlock=some b→b≠A k:=fun b hv2 e=>by
  rcases hb b hv2 with h4 | h4
  ·exact h.apart k k hk hk (by rw [h4,e])
  ·have:=h.lt hk;omega
 refine h.put hk (fun i hi e=>?_) ?_ (hv.same fun b hv2=>blk_setCell_other _ _ _ _ (hnA b hv2)) (fun i b hi e hb2=>?_) hb ?_
 ·rw [blk_setCell_other _ _ _ _ (fun e2=>e (h.inj i k hi hk e2))];exact hold i hi
 ·have hn:=hold k hk
  rw [h.node k hk] at hn;simp [World.setCell,Array.getElem?_modify,hn]
 ·have hne:b≠A k:=fun e2=>h.apart i k hi hk (by rw [hb2,e2])
  rw [blk_setCell_other _ _ _ _ hne];exact hg.block b (h.fU hi hb2).2 (fun e2=>e (h.alone i k b hi hk hb2 e2.symm))
 ·intro j hj
  rcases List.mem_append.1 hj with h1 | h1
  ·exact h.kid k hk j h1
  ·have:j=c:=by simpa using h1
   omega
end
end
section
open Go.ChangeShapes Go.WideShapes Go.ChangeAt Go.RowKit Go.Deep
instance:Inhabited Rj:=⟨⟨0,0,[]⟩⟩
end
end Go.Proofs.YthgabkgmkolobaaGreat
namespace Go.Proofs
open Go.Shelf
def Tryz.compactZ_ren:Go.Shelf.Ren:=⟨fun | 20=>72 | n=>n,fun | 22=>26 | 3=>3 | 4=>4 | 0=>0 | n=>n,fun | n=>n⟩
theorem Tryz.compactZ:Go.Proofs.Lays2.n20 Tryz.prog Tryz.compactZ_ren:={
 mixed:=by kernel_rfl
 f20:=Tryz.func72.trans (congrArg some (by kernel_rfl))
 t0:=Tryz.underlying0
 a0:=Tryz.isAgg0
 z0:=Tryz.sizeOf0
 v0:=Tryz.zeroValue0
 t3:=Tryz.underlying3
 a3:=Tryz.isAgg3
 z3:=Tryz.sizeOf3
 v3:=Tryz.zeroValue3
 t4:=Tryz.underlying4
 a4:=Tryz.isAgg4
 z4:=Tryz.sizeOf4
 v4:=Tryz.zeroValue4
 t22:=Tryz.underlying26
 a22:=Tryz.isAgg26
 z22:=Tryz.sizeOf26
 v22:=Tryz.zeroValue26
 i3:=by kernel_rfl }
end Go.Proofs
namespace Go.Proofs.YthgabkgmkolobaaGreat
section
open Go.RowKit Go.Shelf Go.Deep Go.Sort
theorem G9 {w:World} {g n:Nat} (d:Array Int):w.grownBy (putRow (Value.int .i64) (Sort.ahead w n) g 0 d) (some g):=by
 refine ⟨rfl,rfl,rfl,by simp [putRow,mapBlock,Sort.ahead],fun k hk hne=>?_⟩;have:g≠k:=fun e=>hne (by rw [e]);simp [putRow,mapBlock,Sort.ahead,Array.getElem?_modify,this]
theorem LJ (w w1:World) (v:Value) (xs:List Int) (hu:Up w w1) (ho:aF w.heap.size 3 w1 v (xs.map (Value.int .i64))) (hlen:xs.length≤1000000) :
  Calls Tryz.prog 72 #[v] w1 fun e w'=>(∃p cap,e=.returned (.slice p (Lib.compact xs).length cap))∧Up w w':=by
 rcases ho.2 with ⟨rfl,h0⟩ | ⟨g,cap,cur,rfl,hg,hc,hn,hcm,hcs,ht⟩
 ·have hx:xs=[]:=by cases xs with | nil=>rfl | cons _ _=>simp at h0
  subst hx;refine (Any.slices_Compact_int_empty Tryz.compactZ none 0 w1).mono ?_;rintro e w' ⟨rfl,rfl⟩;exact ⟨⟨_,_,rfl⟩,hu⟩
 ·simp only [List.length_map] at hn ht ho ⊢
  refine (Any.slices_Compact_int Tryz.compactZ g 0 cap xs w1 (holds_of_blockI hc (by simpa using ht)) (by omega) (by omega)).mono ?_;rintro e w' ⟨rfl,q,rfl⟩;exact ⟨⟨_,_,rfl⟩,Below.grown hu (G9 _) hu.size (fun j hj=>by cases hj;exact hg)⟩
end
section
open Go
theorem kM (l:List Int) (j:Nat):l.toArray[j]! = gi l j:=by
 unfold gi;by_cases h:j<l.length
 ·simp [h]
 ·simp [h]
theorem sK (l:List Int) (x:Int):∀m,x∈Lib.compactUpTo l.toArray m↔∃j,j<m∧gi l j=x
 | 0=>by simp [Lib.compactUpTo]
 | m+1=>by
  rw [Lib.compactUpTo_succ,List.mem_append,sK l x m,kM]
  constructor
  ·rintro (⟨j,hj,e⟩ | h)
   ·exact ⟨j,by omega,e⟩
   ·by_cases hk:Lib.keeps l.toArray m=true
    ·rw [if_pos hk] at h;exact ⟨m,by omega,(List.mem_singleton.1 h).symm⟩
    ·rw [if_neg hk] at h;cases h
  ·rintro ⟨j,hj,e⟩
   by_cases hjm:j=m
   ·subst hjm
    by_cases hk:Lib.keeps l.toArray j=true
    ·rw [if_pos hk];exact .inr (by simp [e])
    ·unfold Lib.keeps at hk
     rw [kM,kM] at hk
     simp only [decide_eq_true_eq,not_or,ne_eq,Classical.not_not] at hk
     exact .inl ⟨j - 1,by omega,by rw [← hk.2];exact e⟩
   ·exact .inl ⟨j,by omega,e⟩
theorem vq {l:List Int} (hs:∀i j,i<j→j<l.length→gi l i≤gi l j):∀m,m≤l.length→(Lib.compactUpTo l.toArray m).Nodup
 | 0,_=>by simp [Lib.compactUpTo]
 | m+1,h=>by
  rw [Lib.compactUpTo_succ,List.nodup_append]
  refine ⟨vq hs m (by omega),by split<;>simp,fun a ha b hb e=>?_⟩
  subst e
  obtain ⟨j,hj,e⟩:=(sK l a m).1 ha
  by_cases hk:Lib.keeps l.toArray m=true
  ·rw [if_pos hk,kM] at hb
   have hb:a=gi l m:=by simpa using hb
   unfold Lib.keeps at hk
   rw [kM,kM] at hk
   simp only [decide_eq_true_eq,ne_eq] at hk
   have hne:gi l m≠gi l (m - 1):=hk.resolve_left (by omega)
   have h1:gi l j≤gi l (m - 1):=by
    by_cases e2:j=m - 1
    ·rw [e2];exact Int.le_refl _
    ·exact hs j (m - 1) (by omega) (by omega)
   have h2:=hs (m - 1) m (by omega) (by omega)
   omega
  ·rw [if_neg hk] at hb;cases hb
theorem OP (xs:List Int):∀i j,i<j→j<(iP xs).length→gi (iP xs) i≤gi (iP xs) j:=fun i j hij hj=>by
 have hp:(iP xs).Pairwise fun a b=>decide (a≤b)=true:=List.pairwise_mergeSort (le:=fun x y=>decide (x≤y)) (fun a b c h1 h2=>by simp at *;omega) (fun a b=>by simp;omega) xs
 have:=List.pairwise_iff_getElem.1 hp i j (by omega) hj hij
 have hi:i<(iP xs).length:=by omega
 simpa [gi,hi,hj] using this
theorem LK {xs:List Int} {x:Int}:x∈iP xs↔x∈xs:=(List.mergeSort_perm xs _).mem_iff
theorem Cq (xs:List Int):(Lib.compact (iP xs)).length=(dd xs).length:=by
 have hn:=vq (OP xs) _ (Nat.le_refl _);have hm:∀x,x∈Lib.compact (iP xs)↔x∈dd xs:=fun x=>by
  unfold Lib.compact;rw [sK,sW,← LK];constructor
  ·rintro ⟨j,hj,e⟩;rw [← e];exact wj hj
  ·intro h;exact K4 h
 exact Nat.le_antisymm (List.Nodup.length_le_of_subset hn fun x hx=>(hm x).1 hx) (List.Nodup.length_le_of_subset (qA xs) fun x hx=>(hm x).2 hx)
theorem He {st:List Int} {k:Nat} (hk:k<st.length):cQ (st.take (k+1))=cQ (st.take k)++(if 0≤gi st k then [gi st k] else []):=by
 rw [ID hk];unfold cQ;rw [List.filter_append];congr 1;by_cases h:0≤gi st k
 ·rw [if_pos h];simp [h]
 ·rw [if_neg h];simp [h]
theorem LL (st:List Int) (k:Nat):(cQ (st.take k)).length≤k:=Nat.le_trans (List.length_filter_le _ _) (by simp;omega)
end
section
open Go.RowKit Go.Deep
def LM (w:World) (n:Int) (e:Ending) (w':World):Prop:=e=.returned (.int .i64 n)∧QD w w'
set_option maxHeartbeats 1000000 in
theorem EC (S T:Nat→Prop) (w:World) (vr vc:Value) (row c:List Int) (hR:aj S w vr row) (hC:aj T w vc c) (hl:row.length≤c.length) (hn:c.length≤1000) (hcb:∀k,0≤gi c k∧gi c k≤1000) (hrb:∀k,gi row k≤1000000000) :
  Calls Tryz.prog 251 #[vr,vc] w (LM w (bq (gi c) (gi row) row.length).1):=by
 obtain ⟨q,cr,rfl,mD,_⟩:=aC.open hR;obtain ⟨p,cap,rfl,hcap,_⟩:=aC.open hC;have hR:aj S w (.slice q row.length cr) row:=hR;have hC:aj T w (.slice p c.length cap) c:=hC;have eL:=jr (gi c) (gi row);have jN:=aa eL;have HR:=aa hR;have HC:=aa hC;have wH:=aa hcb;have iV:=aa hrb;clear hR hC eL hcb hrb
 go_enter Tryz.func251,Tryz.ntmps251
 go_wp2_with fail
 go_loopw [5,6] (fun b i wr=>∃k:Nat,∃x:Int,k≤row.length∧i=.int .i64 k∧b=.int .i64 x ∧ -1≤x∧x≤1000001000∧Hid ((bq (gi c) (gi row) k).1=x)∧Hid (QD w wr)) (fun _ i _=>row.length - (intOf i).toNat)
 case atStart=>exact ⟨0,-1,by omega,rfl,rfl,by omega,by omega,rfl,QD.refl _⟩
 case round =>
  obtain ⟨k,x,hk,rfl,rfl,hx1,hx2,hx,hQ⟩:=hrel;by_cases hlt:k<row.length
  ·obtain ⟨rb,ro,rfl,h1⟩:=bQ (aj.keep HR.out (hQ.out.kept _)) hlt
   obtain ⟨cb,co,rfl,h2⟩:=bQ (aj.keep HC.out (hQ.out.kept _)) (k:=k) (by omega);have hs:=jN.out k;have HS:=aa hs;have hb1:=wH.out k;have hb2:=iV.out k;clear jN hs;generalize gi row k=r at *;generalize gi c k=cc at *;obtain ⟨hb1,hb3⟩:=hb1;(have i1:(0:Int)≤(k:Int):=by omega);(have i2:(k:Int)<(row.length:Int):=by omega);(have i3:(k:Int)<(c.length:Int):=by omega);by_cases ji:r<0
   ·have d1:decide (0≤r)=false:=by simp;omega
    go_wp2_with fail;(go_quiet (fail));go_wp2_with fail
    go_roundw
    case rel=>exact ⟨k+1,x,by omega,by go_num,rfl,hx1,hx2,by unfold Hid;rw [HS.out,if_pos ji,hx.out],hQ.out.drewN nq⟩
    case measure=>simp [intOf];omega
   ·have d1:decide (0≤r)=true:=by simp;omega
    have Bh:IntKind.i64.wrap (r+cc)=r+cc:=IntWalk.i64_in _ (by omega);by_cases hx0:x<0
    ·have d2:decide (x<0)=true:=by simpa using hx0
     go_wp2_with fail;(go_quiet (fail));go_wp2_with fail;(go_quiet (fail));go_wp2_with fail
     go_roundw
     case rel=>exact ⟨k+1,r+cc,by omega,by go_num,rfl,by omega,by omega,by unfold Hid;rw [HS.out,if_neg (by omega),if_pos (.inl (by rw [hx.out];exact hx0)),Int.add_comm],hQ.out.drewN _⟩
     case measure=>simp [intOf];omega
    ·have d2:decide (x<0)=false:=by simpa using hx0
     by_cases hlt2:r+cc<x
     ·have d3:decide (r+cc<x)=true:=by simpa using hlt2
      go_wp2_with fail;(go_quiet (fail));go_wp2_with fail;(go_quiet (fail));go_wp2_with fail
      go_roundw
      case rel=>exact ⟨k+1,r+cc,by omega,by go_num,rfl,by omega,by omega,by unfold Hid;rw [HS.out,if_neg (by omega),if_pos (.inr (by rw [hx.out];omega)),Int.add_comm],hQ.out.drewN _⟩
      case measure=>simp [intOf];omega
     ·have d3:decide (r+cc<x)=false:=by simpa using hlt2
      go_wp2_with fail;(go_quiet (fail));go_wp2_with fail
      go_roundw
      case rel=>exact ⟨k+1,x,by omega,by go_num,rfl,hx1,hx2,by unfold Hid;rw [HS.out,if_neg (by omega),if_neg (by rw [hx.out];omega),hx.out],hQ.out.drewN nq⟩
      case measure=>simp [intOf];omega
  ·obtain rfl:k=row.length:=by omega
   clear hlt;go_wp2_with fail;go_ret;exact ⟨aH (by rw [hx.out]),hQ.out⟩
end
section
open Go.RowKit Go.Deep
set_option maxHeartbeats 4000000 in
theorem JW (S:Nat→Prop) (w:World) (v:Value) (xs:List (List Int)) (h:aQ S w v xs) (hn:xs.length≤1000000) (hr:∀k,(gl xs k).length≤1000000) :
  Calls Tryz.prog 60 #[v] w fun e w'=>e=.returned (.int .i64 (cw xs))∧QD w w':=by
 obtain ⟨p,cap,rfl,hcap,_⟩:=bS h;have H:=aa h;have HR:=aa hr;have HF:Hid (cw xs=if xs.length=0 then 5 else if 32<xs.length∨4096<(gl xs 0).length then 4 else firstNZ (iO xs) xs.length):=rfl;clear h hr;by_cases h0:xs.length=0
 ·have HX:Hid (cw xs=5):=by unfold Hid;rw [HF.out,if_pos h0]
  have d0:((xs.length:Int)==0)=true:=by simp [h0]
  clear h0
  go_enter Tryz.func60,Tryz.ntmps60
  go_wp2_with fail;go_ret;exact ⟨aH HX.out.symm,QD.refl _⟩
 have d0:((xs.length:Int)==0)=false:=by simpa using h0
 have Uo:0<xs.length:=by omega
 by_cases h1:32<xs.length
 ·have HX:Hid (cw xs=4):=by unfold Hid;rw [HF.out,if_neg h0,if_pos (.inl h1)]
  have d1:decide ((32:Int)<(xs.length:Int))=true:=by simp;omega
  clear h0 h1
  go_enter Tryz.func60,Tryz.ntmps60
  go_wp2_with fail;go_ret;exact ⟨aH HX.out.symm,QD.refl _⟩
 have d1:decide ((32:Int)<(xs.length:Int))=false:=by simp;omega
 obtain ⟨b,off,q0,c0,rfl,hc0,_⟩:=eM H.out Uo;have OI:w.cell? ⟨b,off,none⟩=some (.slice q0 (gl xs 0).length c0):=by simpa using hc0
 have JV:=HR.out 0;clear hc0;by_cases h2:4096<(gl xs 0).length
 ·have HX:Hid (cw xs=4):=by unfold Hid;rw [HF.out,if_neg h0,if_pos (.inr h2)]
  have d2:decide ((4096:Int)<((gl xs 0).length:Int))=true:=by simp;omega
  clear h0 h1 h2
  go_enter Tryz.func60,Tryz.ntmps60
  go_wp2_with fail;go_ret;exact ⟨aH HX.out.symm,QD.refl _⟩
 have d2:decide ((4096:Int)<((gl xs 0).length:Int))=false:=by simp;omega
 have pH:Hid (cw xs=firstNZ (iO xs) xs.length):=by unfold Hid;rw [HF.out,if_neg h0,if_neg (by omega)]
 have LD:Hid (∀k,iO xs k=if (gl xs k).length≠(gl xs 0).length then 9 else if fo (gl xs k) (-1) 16 then 2 else 0):=fun _=>rfl;have eN:=aa OI;clear HF h0 h1 h2;generalize hl0:(gl xs 0).length=l0 at *;clear hl0
 go_enter Tryz.func60,Tryz.ntmps60
 go_wp2_with fail
 go_loopw [3,4] (fun i _ wr=>∃k:Nat,k≤xs.length∧i=.int .i64 k∧Hid (QD w wr)∧Hid (∀j,j<k→iO xs j=0)) (fun i _ _=>xs.length - (intOf i).toNat)
 case atStart=>exact ⟨0,Nat.zero_le _,rfl,QD.refl _,fun j hj=>absurd hj (Nat.not_lt_zero _)⟩
 case round =>
  obtain ⟨k,hk,rfl,hQ,hd⟩:=hrel;obtain ⟨wo,rfl⟩:∃wo:World,wo=wr:=⟨_,rfl⟩;have OI:=hQ.out.up.cell eN.out;by_cases hlt:k<xs.length
  ·obtain ⟨b',off',qk,ck,e1,ni,hik⟩:=eM (H.out.keep (hQ.out.kept S)) hlt
   injection e1 with e1;injection e1 with e1 e2;subst e1;subst e2;(have i1:(0:Int)≤(k:Int):=by omega);(have i2:(k:Int)<(xs.length:Int):=by omega);have HK:=aa (LD.out k);have vv:=aa hik;have dr:=aa ni;have sV:=HR.out k;clear hik;by_cases kS:(gl xs k).length=l0
   ·have eU:(((gl xs k).length:Int) != (l0:Int))=false:=by simp [kS]
    rw [if_neg (fun e=>e kS)] at HK;clear kS;go_wp2_with fail;(go_quiet (fail));go_wp2_with fail
    go_loopw [4] (fun i wr=>∃m:Nat,m≤(gl xs k).length∧i=.int .i64 m∧Hid (QD w wr∧QD wo wr)∧Hid (∀j,j<m→(decide (gi (gl xs k) j < -1) || decide (16≤gi (gl xs k) j))=false)) (fun i _=>(gl xs k).length - (intOf i).toNat)
    case atStart=>exact ⟨0,Nat.zero_le _,rfl,⟨hQ.out.drewN nq,⟨nq,rfl⟩⟩,fun j hj=>absurd hj (Nat.not_lt_zero _)⟩
    case round =>
     obtain ⟨m,hm,rfl,Cr,hd2⟩:=hrel;obtain ⟨wi,rfl⟩:∃wi:World,wi=wr:=⟨_,rfl⟩;have ni:=Cr.out.2.up.cell dr.out;by_cases vo:m<(gl xs k).length
     ·obtain ⟨mb,mo,rfl,Ut⟩:=bQ (aj.keep vv.out (Cr.out.2.kept S)) vo
      (have j1:(0:Int)≤(m:Int):=by omega);(have j2:(m:Int)<((gl xs k).length:Int):=by omega);generalize Yq:gi (gl xs k) m=y at *;have Uu:=aa Yq;clear Yq;by_cases c1:y < -1
      ·have e1:decide (y < -1)=true:=by simpa using c1
       (have HX:Hid (cw xs=2):=by unfold Hid;have hst:fo (gl xs k) (-1) 16=true:=ij (p:=fun j=>decide (gi (gl xs k) j < -1) || decide (16≤gi (gl xs k) j)) vo (by rw [Uu.out,e1];rfl);(have hrow:iO xs k=2:=by rw [HK.out,if_pos hst]);rw [pH.out,fk hlt hd.out (by rw [hrow];decide),hrow]);clear c1;go_wp2_with fail;go_ret;exact ⟨aH HX.out.symm,Cr.out.1⟩
      ·have e1:decide (y < -1)=false:=by simpa using c1
       by_cases c2:16≤y
       ·have e2:decide (16≤y)=true:=by simpa using c2
        (have HX:Hid (cw xs=2):=by unfold Hid;have hst:fo (gl xs k) (-1) 16=true:=ij (p:=fun j=>decide (gi (gl xs k) j < -1) || decide (16≤gi (gl xs k) j)) vo (by rw [Uu.out,e2,Bool.or_true]);(have hrow:iO xs k=2:=by rw [HK.out,if_pos hst]);rw [pH.out,fk hlt hd.out (by rw [hrow];decide),hrow]);clear c1 c2;go_wp2_with fail;go_ret;exact ⟨aH HX.out.symm,Cr.out.1⟩
       ·have e2:decide (16≤y)=false:=by simpa using c2
        (have HY:Hid ((decide (gi (gl xs k) m < -1) || decide (16≤gi (gl xs k) m))=false):=by unfold Hid;rw [Uu.out,e1,e2];rfl);clear c1 c2;go_wp2_with fail
        go_roundw
        case rel=>exact ⟨m+1,by omega,by go_num,⟨Cr.out.1,Cr.out.2⟩,fun j hj=>if e:j=m then by subst e;exact HY.out else hd2.out j (by omega)⟩
        case measure=>simp [intOf];omega
     ·obtain rfl:m=(gl xs k).length:=by omega
      (have Lp:Hid (iO xs k=0):=by unfold Hid;have hst:fo (gl xs k) (-1) 16=false:=any_none hd2.out;rw [HK.out,if_neg (by rw [hst];decide)]);have HQ2:=aa Cr.out.1;clear vo hm hd2 Cr;go_wp2_with fail
      go_roundw
      case rel=>exact ⟨k+1,by omega,by go_num,HQ2.out,fun j hj=>if e:j=k then by subst e;exact Lp.out else hd.out j (by omega)⟩
      case measure=>simp [intOf];omega
   ·have eU:(((gl xs k).length:Int) != (l0:Int))=true:=by simp;omega
    (have HX:Hid (cw xs=9):=by unfold Hid;(have hrow:iO xs k=9:=by rw [HK.out,if_pos kS]);rw [pH.out,fk hlt hd.out (by rw [hrow];decide),hrow]);clear kS;go_wp2_with fail;(go_quiet (fail));go_wp2_with fail;go_ret;exact ⟨aH HX.out.symm,hQ.out.drewN nq⟩
  ·obtain rfl:k=xs.length:=by omega
   (have HX:Hid (cw xs=0):=by unfold Hid;rw [pH.out,dW hd.out]);clear hlt hk;go_wp2_with fail;go_ret;exact ⟨aH HX.out.symm,hQ.out⟩
end
section
open Go.RowKit Go.Deep
set_option maxHeartbeats 2000000 in
theorem ED (S T:Nat→Prop) (w:World) (v u:Value) (t:aD) (h:au S w v t) (h2:au T w u t) (hp:t.ps.length≤1000000) (hn:t.ns.length≤1000000) :
  Calls Tryz.prog 37 #[v,u] w fun e w'=>e=.returned (.bool true)∧Up w w':=by
 obtain ⟨P,N,rfl,hP,hN⟩:=h;obtain ⟨P2,N2,rfl,fE,eZ⟩:=h2;obtain ⟨pp,pc,rfl,_,_⟩:=aC.open hP;obtain ⟨np,nc,rfl,_,_⟩:=aC.open hN;obtain ⟨oD,oF,rfl,_,_⟩:=aC.open fE;obtain ⟨oG,oH,rfl,_,_⟩:=aC.open eZ;have hP:aj S w (.slice pp t.ps.length pc) t.ps:=hP;have hN:ah S w (.slice np t.ns.length nc) t.ns:=hN;have fE:aj T w (.slice oD t.ps.length oF) t.ps:=fE;have eZ:ah T w (.slice oG t.ns.length oH) t.ns:=eZ;have aO:=Up.alloc w (.cells #[.slice pp t.ps.length pc,.slice np t.ns.length nc] 39)
 have aG:=Up.alloc (w.alloc (.cells #[.slice pp t.ps.length pc,.slice np t.ns.length nc] 39)) (.cells #[.slice oD t.ps.length oF,.slice oG t.ns.length oH] 39);have hu:=aO.trans aG;have a0:=aG.cell (dc w (.slice pp t.ps.length pc) (.slice np t.ns.length nc) 39);have a1:=aG.cell (dz w (.slice pp t.ps.length pc) (.slice np t.ns.length nc) 39);have b0:=dc (w.alloc (.cells #[.slice pp t.ps.length pc,.slice np t.ns.length nc] 39)) (.slice oD t.ps.length oF) (.slice oG t.ns.length oH) 39
 have b1:=dz (w.alloc (.cells #[.slice pp t.ps.length pc,.slice np t.ns.length nc] 39)) (.slice oD t.ps.length oF) (.slice oG t.ns.length oH) 39;rw [World.size_alloc] at b0 b1;have HP:=aa (aj.keep hP (hu.kept S));have HN:=aa (ah.keep hN (hu.kept S));have Af:=aa (aj.keep fE (hu.kept T));have jP:=aa (ah.keep eZ (hu.kept T));have HU:=aa hu;have A0:=aa a0;have A1:=aa a1;have Uv:=aa b0;have Uw:=aa b1;have d0:((t.ps.length:Int) != (t.ps.length:Int))=false:=by simp
 have d1:((t.ns.length:Int) != (t.ns.length:Int))=false:=by simp
 clear hP hN fE eZ hu aO aG
 go_enter Tryz.func37,Tryz.ntmps37
 go_wp2_with fail;clear a0 a1 b0 b1;generalize (w.alloc (.cells #[.slice pp t.ps.length pc,.slice np t.ns.length nc] 39)).alloc (.cells #[.slice oD t.ps.length oF,.slice oG t.ns.length oH] 39)=w1 at *
 go_loopw [5] (fun i wr=>∃k:Nat,k≤t.ps.length∧i=.int .i64 k∧Hid (QD w1 wr)) (fun i _=>t.ps.length - (intOf i).toNat)
 case atStart=>exact ⟨0,Nat.zero_le _,rfl,QD.refl _⟩
 case round =>
  obtain ⟨k,hk,rfl,hQ⟩:=hrel;have a0:=hQ.out.up.cell A0.out;have b0:=hQ.out.up.cell Uv.out;by_cases hlt:k<t.ps.length
  ·obtain ⟨b,off,rfl,hc⟩:=bQ (aj.keep HP.out (hQ.out.kept S)) hlt
   obtain ⟨b2,off2,rfl,hc2⟩:=bQ (aj.keep Af.out (hQ.out.kept T)) hlt;(have i1:(0:Int)≤(k:Int):=by omega);(have i2:(k:Int)<(t.ps.length:Int):=by omega);generalize gi t.ps k=x at *;(have j1:(x != x)=false:=by simp);go_wp2_with fail;(go_quiet (fail));go_wp2_with fail
   go_roundw
   case rel=>exact ⟨k+1,by omega,by go_num,hQ.out.drewN nq⟩
   case measure=>simp [intOf];omega
  ·obtain rfl:k=t.ps.length:=by omega
   have Ux:=aa hQ.out;clear hlt hk;go_wp2_with fail
   go_loopw [6] (fun i wr=>∃k:Nat,k≤t.ns.length∧i=.int .i64 k∧Hid (QD w1 wr)) (fun i _=>t.ns.length - (intOf i).toNat)
   case atStart=>exact ⟨0,Nat.zero_le _,rfl,Ux.out⟩
   case round =>
    obtain ⟨k,hk,rfl,hQ⟩:=hrel;have a1:=hQ.out.up.cell A1.out;have b1:=hQ.out.up.cell Uw.out;by_cases hlt:k<t.ns.length
    ·obtain ⟨b,off,rfl,hc⟩:=bI (ah.keep HN.out (hQ.out.kept S)) hlt
     obtain ⟨b2,off2,rfl,hc2⟩:=bI (ah.keep jP.out (hQ.out.kept T)) hlt;(have i1:(0:Int)≤(k:Int):=by omega);(have i2:(k:Int)<(t.ns.length:Int):=by omega);generalize gs t.ns k=x at *;(have j1:(x.toList==x.toList)=true:=by simp);go_wp2_with fail;(go_quiet (fail));go_wp2_with fail
     go_roundw
     case rel=>exact ⟨k+1,by omega,by go_num,hQ.out.drewN nq⟩
     case measure=>simp [intOf];omega
    ·obtain rfl:k=t.ns.length:=by omega
     clear hlt hk;go_wp2_with fail;go_ret;exact ⟨rfl,HU.out.trans hQ.out.up⟩
end
end Go.Proofs.YthgabkgmkolobaaGreat
