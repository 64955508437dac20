/- slices.Sort at ints that the call has built. Contracts: equal lists of lists. Sets of .. -/
import Derived.Shelf.SortM.Plain
import Derived.Shelf.SortM.SortNone
import Derived.Sort.OwnSortedInts
import Derived.Laws.Bits64b
import Derived.Laws.BitsAllLaws
import Derived.Deep.RegionWith
import Derived.Deep.RegionHeld
import Derived.Shelf.Lays2
import Derived.Shelf.Slices.CompactI
import Derived.Test.YtfomhlbhcifgbaaGreatDoorQ13
set_option maxRecDepth 100000
set_option maxHeartbeats 4000000
namespace Go.Proofs.YtfomhlbhcifgbaaGreatDoor
section
open Go.RowKit Go.Shelf Go.Deep Go.Sort
def dK (xs:List Int):List Int:=xs.mergeSort fun x y=>decide (x<=y)
theorem pY (xs:List Int):(dK xs).length=xs.length:=List.length_mergeSort _
theorem MS (w w1:World) (v:Value) (xs:List Int) (hu:Up w w1) (ho:au w.heap.size 3 w1 v (xs.map (Value.int .i64))) (hlen:xs.length<=1000000) :
  Calls Tryz.prog 34 #[v] w1 fun e w'=>e=.returned (.tuple #[])/\Up w w'/\au w.heap.size 3 w' v ((dK xs).map (Value.int .i64)):=by
 rcases ho.2 with ⟨rfl,h0⟩ | ⟨g,cap,cur,rfl,hg,hc,hn,hcm,hcs,ht⟩
 ·have hx:xs=[]:=by cases xs with | nil=>rfl | cons _ _=>simp at h0
  subst hx;refine (AnyM.slices_Sort_int_none Tryz.sortZ none 0 w1).mono ?_;rintro e w' ⟨rfl,rfl⟩;exact ⟨rfl,hu,by unfold dK;simpa using ho⟩
 ·simp only [aD] at hn ht ho ⊢
  refine (AnyM.slices_Sort_int Tryz.sortZ g 0 cap xs w1 (holds_of_blockI hc (by simpa using ht)) (bq.1 hc).1 (by omega)).mono ?_;rintro e w' ⟨rfl,n,os,rfl⟩;refine ⟨rfl,Below.grown hu (grownBy_sortedI _) hu.size (fun j hj=>by cases hj;exact hg),?_⟩;have h:=ownsRow_sortedI (n:=n) (os:=os) (ss:=xs) (ts:=dK xs) (pY xs) hg hc hn hcm (by simpa using hcs);unfold au;rw [aD,pY];exact h
end
section
open Go.RowKit Go.Deep
def QD (w w':World):Prop:=∃n,w'=w.drewN n
theorem QD.refl (w:World):QD w w:=⟨0,rfl⟩
theorem QD.drewN {w w':World} (h:QD w w') (n:Nat):QD w (w'.drewN n):=by
 obtain ⟨m,rfl⟩:=h;exact ⟨m+n,by rw [World.drewN_drewN]⟩
theorem QD.kept {w w':World} (h:QD w w') (S:Nat->Prop):Kept S w w':=by
 obtain ⟨m,rfl⟩:=h;exact fun _ _ _=>rfl
theorem QD.up {w w':World} (h:QD w w'):Up w w':=by
 obtain ⟨m,rfl⟩:=h;exact Up.drewN w m
def Small (l:List Int):Prop:=∀k,k<l.length->0<=gi l k/\gi l k<32
structure aW where
 nm:Nat->ByteArray
 old:Nat->Int
 kids:Nat->List Nat
def bL (A:Nat->Nat) (k:Nat):Value:=.pointer (some ⟨A k,0,none⟩)
def upd {α:Type} (f:Nat->α) (k:Nat) (x:α) (i:Nat):α:=if i=k then x else f i
theorem upd_same {α:Type} (f:Nat->α) (k:Nat) (x:α):upd f k x k=x:=by simp [upd]
theorem upd_ne {α:Type} (f:Nat->α) {k i:Nat} (x:α) (h:i≠k):upd f k x i=f i:=by simp [upd,h]
structure bz (base n:Nat) (A:Nat->Nat) (kv:Nat->Value) (F:aW) (w:World):Prop where
 node:∀i,i<n->w.heap[A i]? = some (.cells #[.string (F.nm i),kv i,.int .i64 (F.old i)] 81 (0,0))
 lo:∀i,i<n->base<=A i
 inj:∀i j,i<n->j<n->A i=A j->i=j
 own:∀i,i<n->au base 78 w (kv i) ((F.kids i).map (bL A))
 apart:∀i j,i<n->j<n->(kv i).ownBlock≠some (A j)
 alone:∀i j b,i<n->j<n->(kv i).ownBlock=some b->(kv j).ownBlock=some b->i=j
 kid:∀i,i<n->∀k∈F.kids i,k<n
theorem au.same {base:Nat} {e:TypeId} {w w':World} {v:Value} {vs:List Value} (h:au base e w v vs) (k:∀b,v.ownBlock=some b->w'.heap[b]? = w.heap[b]?):au base e w' v vs:=by
 obtain ⟨hl,h | ⟨g,cap,cur,rfl,hg,hc,hr⟩⟩:=h
 ·exact ⟨hl,.inl h⟩
 ·exact ⟨hl,.inr ⟨g,cap,cur,rfl,hg,by rw [k g rfl];exact hc,hr⟩⟩
theorem au.MT {base base':Nat} {e:TypeId} {w:World} {v:Value} {vs:List Value} (h:au base e w v vs) (hb:base'<=base):au base' e w v vs:=by
 obtain ⟨hl,h | ⟨g,cap,cur,rfl,hg,hc,hr⟩⟩:=h
 ·exact ⟨hl,.inl h⟩
 ·exact ⟨hl,.inr ⟨g,cap,cur,rfl,aV hb hg,hc,hr⟩⟩
section
variable {base n:Nat} {A:Nat->Nat} {kv:Nat->Value} {F:aW} {w w':World}
theorem bz.lt (h:bz base n A kv F w) {i:Nat} (hi:i<n):A i<w.heap.size:=(bq.1 (h.node i hi)).1
theorem bz.gK (h:bz base n A kv F w) {i b:Nat} (hi:i<n) (hb:(kv i).ownBlock=some b):base<=b/\b<w.heap.size:=az (h.own i hi) hb
theorem bz.name (h:bz base n A kv F w) {i:Nat} (hi:i<n):w.cell? ⟨A i,0,none⟩=some (.string (F.nm i)):=by simp [World.cell?,h.node i hi]
theorem bz.rL (h:bz base n A kv F w) {i:Nat} (hi:i<n):w.cell? ⟨A i,1,none⟩=some (kv i):=by simp [World.cell?,h.node i hi]
theorem bz.thaw (h:bz base n A kv F w) {i:Nat} (hi:i<n) (o:Nat):w.frozen? ⟨A i,o,none⟩=false:=by simp [World.frozen?,h.node i hi]
theorem bz.same (h:bz base n A kv F w) (ha:∀i,i<n->w'.heap[A i]? = w.heap[A i]?) (hk:∀i b,i<n->(kv i).ownBlock=some b->w'.heap[b]? = w.heap[b]?):bz base n A kv F w' :=
 ⟨fun i hi=>by rw [ha i hi];exact h.node i hi,h.lo,h.inj,fun i hi=>(h.own i hi).same fun b hb=>hk i b hi hb,h.apart,h.alone,h.kid⟩
theorem bz.kept (h:bz base n A kv F w) (k:∀b,base<=b->b<w.heap.size->w'.heap[b]? = w.heap[b]?):bz base n A kv F w' :=
 h.same (fun i hi=>k _ (h.lo i hi) (h.lt hi)) (fun _ _ hi hb=>k _ (h.gK hi hb).1 (h.gK hi hb).2)
theorem bz.up (h:bz base n A kv F w) (k:Up w w'):bz base n A kv F w':=h.kept fun b _ hb=>aO k b hb
theorem bz.put (h:bz base n A kv F w) {k:Nat} (hk:k<n) {v:Value} {ks:List Nat}
  (ha:∀i,i<n->i≠k->w'.heap[A i]? = w.heap[A i]?) (hn:w'.heap[A k]? = some (.cells #[.string (F.nm k),v,.int .i64 (F.old k)] 81 (0,0)))
  (hv:au base 78 w' v (ks.map (bL A))) (ho:∀i b,i<n->i≠k->(kv i).ownBlock=some b->w'.heap[b]? = w.heap[b]?)
  (hb:∀b,v.ownBlock=some b->(kv k).ownBlock=some b\/w.heap.size<=b) (hks:∀j∈ks,j<n):bz base n A (upd kv k v) { F with kids:=upd F.kids k ks } w':=by
 refine ⟨fun i hi=>?_,h.lo,h.inj,fun i hi=>?_,fun i j hi hj=>?_,fun i j b hi hj h1 h2=>?_,fun i hi=>?_⟩
 ·by_cases e:i=k
  ·subst e;rw [upd_same];exact hn
  ·rw [upd_ne _ _ e,ha i hi e];exact h.node i hi
 ·by_cases e:i=k
  ·subst e;simp only [upd_same];exact hv
  ·simp only [upd_ne _ _ e];exact (h.own i hi).same fun b hb=>ho i b hi e hb
 ·by_cases e:i=k
  ·subst e;rw [upd_same];intro h3
   rcases hb _ h3 with h4 | h4
   ·exact h.apart i j hi hj h4
   ·exact absurd (h.lt hj) (by omega)
  ·rw [upd_ne _ _ e];exact h.apart i j hi hj
 ·by_cases e1:i=k
  ·by_cases e2:j=k
   ·rw [e1,e2]
   ·subst e1
    rw [upd_same] at h1;rw [upd_ne _ _ e2] at h2;rcases hb _ h1 with h4 | h4
    ·exact h.alone i j b hi hj h4 h2
    ·exact absurd (h.gK hj h2).2 (by omega)
  ·by_cases e2:j=k
   ·subst e2
    rw [upd_same] at h2;rw [upd_ne _ _ e1] at h1;rcases hb _ h2 with h4 | h4
    ·exact h.alone i j b hi hj h1 h4
    ·exact absurd (h.gK hi h1).2 (by omega)
   ·rw [upd_ne _ _ e1] at h1
    rw [upd_ne _ _ e2] at h2;exact h.alone i j b hi hj h1 h2
 ·by_cases e:i=k
  ·subst e;simp only [upd_same];exact hks
  ·simp only [upd_ne _ _ e];exact h.kid i hi
theorem bz.Ao (h:bz base n A kv F w) (hb:base<=w.heap.size) (nm:ByteArray) (old:Int) :
  bz base (n+1) (upd A n w.heap.size) (upd kv n (.slice none 0 0)) ⟨upd F.nm n nm,upd F.old n old,upd F.kids n []⟩ (w.alloc (.cells #[.string nm,.slice none 0 0,.int .i64 old] 81)):=by
 have hne:∀i,i<n->i≠n:=fun i hi=>by omega
 have hmap:∀i,i<n->(F.kids i).map (bL (upd A n w.heap.size))=(F.kids i).map (bL A):=fun i hi=>by refine iK fun k hk=>?_;unfold bL;rw [upd_ne _ _ (hne k (h.kid i hi k hk))]
 have mR:∀i,i<n+1->i<n\/i=n:=fun i hi=>by omega
 refine ⟨fun i hi=>?_,fun i hi=>?_,fun i j hi hj e=>?_,fun i hi=>?_,fun i j hi hj=>?_,fun i j b hi hj h1 h2=>?_,fun i hi=>?_⟩
 ·rcases mR i hi with hi | rfl
  ·simp only [upd_ne _ _ (hne i hi)];rw [blk_alloc_lt _ _ _ (h.lt hi)];exact h.node i hi
  ·simp only [upd_same];exact blk_alloc_new _ _
 ·rcases mR i hi with hi | rfl
  ·rw [upd_ne _ _ (hne i hi)];exact h.lo i hi
  ·rw [upd_same];exact hb
 ·rcases mR i hi with hi | rfl<;>rcases mR j hj with hj | rfl
  ·rw [upd_ne _ _ (hne i hi),upd_ne _ _ (hne j hj)] at e;exact h.inj i j hi hj e
  ·rw [upd_ne _ _ (hne i hi),upd_same] at e;have:=h.lt hi;omega
  ·rw [upd_same,upd_ne _ _ (hne j hj)] at e;have:=h.lt hj;omega
  ·rfl
 ·rcases mR i hi with hi | rfl
  ·simp only [upd_ne _ _ (hne i hi)];rw [hmap i hi];exact (h.own i hi).alloc _
  ·simp only [upd_same];exact au.nil _ _ _
 ·rcases mR i hi with hi | rfl
  ·rw [upd_ne _ _ (hne i hi)]
   rcases mR j hj with hj | rfl
   ·rw [upd_ne _ _ (hne j hj)];exact h.apart i j hi hj
   ·rw [upd_same];intro e;have:=(h.gK hi e).2;omega
  ·rw [upd_same];intro e;cases e
 ·rcases mR i hi with hi | rfl<;>rcases mR j hj with hj | rfl
  ·rw [upd_ne _ _ (hne i hi)] at h1;rw [upd_ne _ _ (hne j hj)] at h2;exact h.alone i j b hi hj h1 h2
  ·rw [upd_same] at h2;cases h2
  ·rw [upd_same] at h1;cases h1
  ·rfl
 ·rcases mR i hi with hi | rfl
  ·simp only [upd_ne _ _ (hne i hi)];intro k hk;have:=h.kid i hi k hk;omega
  ·simp only [upd_same];intro k hk;cases hk
theorem bz.empty (base:Nat) (A:Nat->Nat) (kv:Nat->Value) (F:aW) (w:World):bz base 0 A kv F w :=
 ⟨fun _ h=>absurd h (cz _),fun _ h=>absurd h (cz _),fun _ _ h=>absurd h (cz _),fun _ h=>absurd h (cz _),fun _ _ h=>absurd h (cz _),fun _ _ _ h=>absurd h (cz _),fun _ h=>absurd h (cz _)⟩
theorem bz.push (h:bz base n A kv F w) {k c:Nat} (hk:k<n) (hc:c<n) {v:Value} (hv:au base 78 w' v ((F.kids k++[c]).map (bL A))) (hg:w.grownBy w' (kv k).ownBlock)
  (hb:∀b,v.ownBlock=some b->(kv k).ownBlock=some b\/w.heap.size<=b):bz base n A (upd kv k v) { F with kids:=upd F.kids k (F.kids k++[c]) } (w'.setCell ⟨A k,1,none⟩ v):=by
 have hold:∀i,i<n->w'.heap[A i]? = w.heap[A i]?:=fun i hi=>hg.block (A i) (h.lt hi) (fun e=>h.apart k i hk hi e.symm);have hnA:∀b,v.ownBlock=some b->b≠A k:=fun b hv2 e=>by
  rcases hb b hv2 with h4 | h4
  ·exact h.apart k k hk hk (by rw [h4,e])
  ·have:=h.lt hk;omega
 refine h.put hk (fun i hi e=>?_) ?_ (hv.same fun b hv2=>blk_setCell_other _ _ _ _ (hnA b hv2)) (fun i b hi e hb2=>?_) hb ?_
 ·rw [blk_setCell_other _ _ _ _ (fun e2=>e (h.inj i k hi hk e2))];exact hold i hi
 ·have hn:=hold k hk
  rw [h.node k hk] at hn;simp [World.setCell,Array.getElem?_modify,hn]
 ·have hne:b≠A k:=fun e2=>h.apart i k hi hk (by rw [hb2,e2])
  rw [blk_setCell_other _ _ _ _ hne];exact hg.block b (h.gK hi hb2).2 (fun e2=>e (h.alone i k b hi hk hb2 e2.symm))
 ·intro j hj
  rcases eD.1 hj with h1 | h1
  ·exact h.kid k hk j h1
  ·have:j=c:=by simpa using h1
   omega
end
end
section
open Go.ChangeShapes Go.WideShapes Go.ChangeAt Go.RowKit Go.Deep
instance:Inhabited SY:=⟨⟨0,0,[]⟩⟩
section
variable {H:Type} {enc:TypeId×Value->H} {W:World}
theorem Ld {v:Value} {d:DataW H} {p:List MemPlace} {base:Nat} (hv:Value.okWide Tryz.prog W .any base 22 v) (h:DataW.Trod enc Tryz.prog W 0 (fun _=>true) true 22 v d p):∃xs:List ByteArray,aC Any W v xs/\xs.length<=9223372036854775807/\∀k,(gs xs k).size<=9223372036854775807:=by
 obtain ⟨a,l,c,rfl⟩:=okWide_slice Tryz.underlying22 hv;obtain ⟨n,hn⟩:=FQ rfl h;exact K7 hn
end
end
section
open Go.RowKit Go.Deep
def JP (w:World) (t:aA) (st:List Int) (cs:List (List Int)) (e:Ending) (w':World):Prop :=
 ∃tb V2 V3 rq rc,e=.returned (.slice (some ⟨tb,V2,none⟩) t.ps.length V3)/\w'.cell? ⟨tb,V2,none⟩=some (.slice rq cs.length rc)/\af Any w' (.slice rq cs.length rc) (aR t st cs 0)/\Up w w'
theorem tb1 {w w':World} {t:aA} {st:List Int} {cs:List (List Int)} {e:Ending} (hv:Valid t st cs) (h:Bz w (nX t st cs) e w'):JP w t st cs e w':=by
 obtain ⟨hb,v,rfl,hr⟩:=h;have hp:=(aG hv.tree).1;obtain ⟨p,cap,rfl,_,H⟩:=eE hr;obtain ⟨b,off,q,c,rfl,hc,hi⟩:=H 0 (by rw [FP];exact hp);rw [Ug _ _ _ hp] at hc hi;rw [gJ] at hc hi;rw [FP];exact ⟨b,off,cap,q,c,rfl,by rw [Nat.add_zero] at hc;exact hc,hi,hb⟩
end
end Go.Proofs.YtfomhlbhcifgbaaGreatDoor
namespace Go.Proofs
open Go.Shelf
def Tryz.compactZ_ren:Go.Shelf.Ren:=⟨fun | 20=>138 | n=>n,fun | 22=>27 | 3=>3 | 4=>4 | 0=>0 | n=>n,fun | n=>n⟩
theorem Tryz.compactZ:Go.Proofs.Lays2.n20 Tryz.prog Tryz.compactZ_ren:={
 mixed:=by kernel_rfl
 f20:=Tryz.func138.trans (congrArg some (by kernel_rfl))
 t0:=Tryz.underlying0
 a0:=Tryz.isAgg0
 z0:=Tryz.sizeOf0
 v0:=Tryz.zeroValue0
 t3:=Tryz.underlying3
 a3:=Tryz.isAgg3
 z3:=Tryz.sizeOf3
 v3:=Tryz.zeroValue3
 t4:=Tryz.underlying4
 a4:=Tryz.isAgg4
 z4:=Tryz.sizeOf4
 v4:=Tryz.zeroValue4
 t22:=Tryz.underlying27
 a22:=Tryz.isAgg27
 z22:=Tryz.sizeOf27
 v22:=Tryz.zeroValue27
 i3:=by kernel_rfl }
end Go.Proofs
namespace Go.Proofs.YtfomhlbhcifgbaaGreatDoor
section
open Go.RowKit Go.Shelf Go.Deep Go.Sort
theorem Jh {w:World} {g n:Nat} (d:Array Int):w.grownBy (putRow (Value.int .i64) (Sort.ahead w n) g 0 d) (some g):=by
 refine ⟨rfl,rfl,rfl,by simp [putRow,mapBlock,Sort.ahead],fun k hk hne=>?_⟩;have:g≠k:=fun e=>hne (by rw [e]);simp [putRow,mapBlock,Sort.ahead,Array.getElem?_modify,this]
end
section
open Go
theorem lU (l:List Int) (j:Nat):l.toArray[j]! = gi l j:=by
 unfold gi;by_cases h:j<l.length
 ·simp [h]
 ·simp [h]
theorem pG (l:List Int) (x:Int):∀m,x∈Lib.compactUpTo l.toArray m↔∃j,j<m/\gi l j=x
 | 0=>by simp [Lib.compactUpTo]
 | m+1=>by
  rw [Lib.compactUpTo_succ,eD,pG l x m,lU]
  constructor
  ·rintro (⟨j,hj,e⟩ | h)
   ·exact ⟨j,by omega,e⟩
   ·by_cases hk:Lib.keeps l.toArray m=true
    ·rw [if_pos hk] at h;exact ⟨m,by omega,(eN.1 h).symm⟩
    ·rw [if_neg hk] at h;cases h
  ·rintro ⟨j,hj,e⟩
   by_cases hjm:j=m
   ·subst hjm
    by_cases hk:Lib.keeps l.toArray j=true
    ·rw [if_pos hk];exact .inr (by simp [e])
    ·unfold Lib.keeps at hk
     rw [lU,lU] at hk
     simp only [decide_eq_true_eq,not_or,ne_eq,Classical.not_not] at hk
     exact .inl ⟨j - 1,by omega,by rw [<- hk.2];exact e⟩
   ·exact .inl ⟨j,by omega,e⟩
theorem wN {l:List Int} (hs:∀i j,i<j->j<l.length->gi l i<=gi l j):∀m,m<=l.length->(Lib.compactUpTo l.toArray m).Nodup
 | 0,_=>by simp [Lib.compactUpTo]
 | m+1,h=>by
  rw [Lib.compactUpTo_succ,sJ]
  refine ⟨wN hs m (by omega),by split<;>simp,fun a ha b hb e=>?_⟩
  subst e
  obtain ⟨j,hj,e⟩:=(pG l a m).1 ha
  by_cases hk:Lib.keeps l.toArray m=true
  ·rw [if_pos hk,lU] at hb
   have hb:a=gi l m:=by simpa using hb
   unfold Lib.keeps at hk
   rw [lU,lU] at hk
   simp only [decide_eq_true_eq,ne_eq] at hk
   have hne:gi l m≠gi l (m - 1):=hk.resolve_left (by omega)
   have h1:gi l j<=gi l (m - 1):=by
    by_cases e2:j=m - 1
    ·rw [e2];exact jN _
    ·exact hs j (m - 1) (by omega) (by omega)
   have h2:=hs (m - 1) m (by omega) (by omega)
   omega
  ·rw [if_neg hk] at hb;cases hb
theorem Qv (xs:List Int):∀i j,i<j->j<(dK xs).length->gi (dK xs) i<=gi (dK xs) j:=fun i j hij hj=>by
 have hp:(dK xs).Pairwise fun a b=>decide (a<=b)=true:=List.pairwise_mergeSort (le:=fun x y=>decide (x<=y)) (fun a b c h1 h2=>by simp at *;omega) (fun a b=>by simp;omega) xs
 have:=vw.1 hp i j (by omega) hj hij
 have hi:i<(dK xs).length:=by omega
 simpa [gi,hi,hj] using this
theorem xR {xs:List Int} {x:Int}:x∈dK xs↔x∈xs:=(List.mergeSort_perm xs _).mem_iff
theorem MU (xs:List Int):(Lib.compact (dK xs)).length=(dd xs).length:=by
 have hn:=wN (Qv xs) _ (aj _);have hm:∀x,x∈Lib.compact (dK xs)↔x∈dd xs:=fun x=>by
  unfold Lib.compact;rw [pG,nT,<- xR];constructor
  ·rintro ⟨j,hj,e⟩;rw [<- e];exact ur hj
  ·intro h;exact Fu h
 exact Nat.le_antisymm (List.Nodup.length_le_of_subset hn fun x hx=>(hm x).1 hx) (List.Nodup.length_le_of_subset (rA xs) fun x hx=>(hm x).2 hx)
end
section
def bk (P:List (List Int)) (c p:Nat):List (List Int):=P.set c (dK (gl P c++[(p:Int)]))
def dw (P:List (List Int)) (c p:Nat):Prop:=c<P.length/\p<c/\(p:Int)∉gl P c
instance (P:List (List Int)) (c p:Nat):Decidable (dw P c p):=inferInstanceAs (Decidable (_/\_/\_))
theorem iq (P:List (List Int)) (c p:Nat):(bk P c p).length=P.length:=by simp [bk]
theorem qZ {P:List (List Int)} {c p i:Nat} (hi:i<P.length):gl (bk P c p) i=if i=c then dK (gl P c++[(p:Int)]) else gl P i:=by
 unfold bk gl;rw [mN,mN,List.getElem?_set];by_cases e:c=i
 ·subst e;simp [hi]
 ·rw [if_neg e,if_neg (fe e),mN]
end
section
open Go.RowKit Go.Deep
theorem Le (S:Nat->Prop) (w:World) (v:Value) (xs:List (List Int)) (h:aS S w v xs) (hn:xs.length<=1000000) (hr:∀k,(gl xs k).length<=1000000) :
  Calls Tryz.prog 5 #[v] w fun e w'=>e=.returned (.int .i64 (eo xs))/\QD w w':=by
 obtain ⟨p,cap,rfl,hcap,_⟩:=eE h;have H:=aa h;have HR:=aa hr;have HF:Hid (eo xs=if xs.length=0 then 5 else if 32<xs.length\/4096<(gl xs 0).length then 4 else dP (jr xs) xs.length):=rfl;clear h hr;by_cases h0:xs.length=0
 ·have HX:Hid (eo xs=5):=by unfold Hid;rw [HF.out,if_pos h0]
  have d0:((xs.length:Int)==0)=true:=by simp [h0]
  clear h0;go_in;go_wp2;go_ret;exact ⟨aU HX.out.symm,QD.refl _⟩
 have d0:((xs.length:Int)==0)=false:=by simpa using h0
 have VZ:0<xs.length:=by omega
 by_cases h1:32<xs.length
 ·have HX:Hid (eo xs=4):=by unfold Hid;rw [HF.out,if_neg h0,if_pos (.inl h1)]
  have d1:decide ((32:Int)<(xs.length:Int))=true:=by simp;omega
  clear h0 h1;go_in;go_wp2;go_ret;exact ⟨aU HX.out.symm,QD.refl _⟩
 have d1:decide ((32:Int)<(xs.length:Int))=false:=by simp;omega
 obtain ⟨b,off,q0,c0,rfl,hc0,_⟩:=dV H.out VZ;have Ql:w.cell? ⟨b,off,none⟩=some (.slice q0 (gl xs 0).length c0):=by simpa using hc0
 have ZI:=HR.out 0;clear hc0;by_cases h2:4096<(gl xs 0).length
 ·have HX:Hid (eo xs=4):=by unfold Hid;rw [HF.out,if_neg h0,if_pos (.inr h2)]
  have d2:decide ((4096:Int)<((gl xs 0).length:Int))=true:=by simp;omega
  clear h0 h1 h2;go_in;go_wp2;go_ret;exact ⟨aU HX.out.symm,QD.refl _⟩
 have d2:decide ((4096:Int)<((gl xs 0).length:Int))=false:=by simp;omega
 have dQ:Hid (eo xs=dP (jr xs) xs.length):=by unfold Hid;rw [HF.out,if_neg h0,if_neg (by omega)]
 have ML:Hid (∀k,jr xs k=if (gl xs k).length≠(gl xs 0).length then 9 else if iQ (gl xs k) (-1) 16 then 2 else 0):=fun _=>rfl;have zy:=aa Ql;clear HF h0 h1 h2;generalize hl0:(gl xs 0).length=l0 at *;clear hl0;go_in;go_wp2
 go_loopw [3,4] (fun i _ wr=>∃k:Nat,k<=xs.length/\i=.int .i64 k/\Hid (QD w wr)/\Hid (∀j,j<k->jr xs j=0)) (fun i _ _=>xs.length - (intOf i).toNat)
 case atStart=>exact ⟨0,bg _,rfl,QD.refl _,fun j hj=>absurd hj (cz _)⟩
 case round =>
  obtain ⟨k,hk,rfl,hQ,hd⟩:=hrel;obtain ⟨wo,rfl⟩:=e9 wr;have Ql:=hQ.out.up.cell zy.out;by_cases hlt:k<xs.length
  ·obtain ⟨b',off',qk,ck,e1,sP,hik⟩:=dV (H.out.keep (hQ.out.kept S)) hlt
   injection e1 with e1;injection e1 with e1 e2;subst e1;subst e2;(have i1:(0:Int)<=(k:Int):=by omega);(have i2:(k:Int)<(xs.length:Int):=by omega);have HK:=aa (ML.out k);have S0:=aa hik;have fo:=aa sP;have zq:=HR.out k;clear hik;by_cases pW:(gl xs k).length=l0
   ·have ki:(((gl xs k).length:Int) != (l0:Int))=false:=by simp [pW]
    rw [if_neg (fun e=>e pW)] at HK;clear pW;go_wp2;(go_quiet (fail));go_wp2
    go_loopw [4] (fun i wr=>∃m:Nat,m<=(gl xs k).length/\i=.int .i64 m/\Hid (QD w wr/\QD wo wr)/\Hid (∀j,j<m->(decide (gi (gl xs k) j < -1) || decide (16<=gi (gl xs k) j))=false)) (fun i _=>(gl xs k).length - (intOf i).toNat)
    case atStart=>exact ⟨0,bg _,rfl,⟨hQ.out.drewN nq,⟨nq,rfl⟩⟩,fun j hj=>absurd hj (cz _)⟩
    case round =>
     obtain ⟨m,hm,rfl,DM,hd2⟩:=hrel;obtain ⟨wi,rfl⟩:=e9 wr;have sP:=DM.out.2.up.cell fo.out;by_cases s5:m<(gl xs k).length
     ·obtain ⟨mb,mo,rfl,hmc⟩:=dh (af.keep S0.out (DM.out.2.kept S)) s5
      (have j1:(0:Int)<=(m:Int):=by omega);(have j2:(m:Int)<((gl xs k).length:Int):=by omega);generalize hgy:gi (gl xs k) m=y at *;have V4:=aa hgy;clear hgy;by_cases c1:y < -1
      ·have e1:decide (y < -1)=true:=by simpa using c1
       (have HX:Hid (eo xs=2):=by unfold Hid;have hst:iQ (gl xs k) (-1) 16=true:=uo (p:=fun j=>decide (gi (gl xs k) j < -1) || decide (16<=gi (gl xs k) j)) s5 (by rw [V4.out,e1];rfl);(have hrow:jr xs k=2:=by rw [HK.out,if_pos hst]);rw [dQ.out,iP hlt hd.out (by rw [hrow];decide),hrow]);clear c1;go_wp2;go_ret;exact ⟨aU HX.out.symm,DM.out.1⟩
      ·have e1:decide (y < -1)=false:=by simpa using c1
       by_cases c2:16<=y
       ·have e2:decide (16<=y)=true:=by simpa using c2
        (have HX:Hid (eo xs=2):=by unfold Hid;have hst:iQ (gl xs k) (-1) 16=true:=uo (p:=fun j=>decide (gi (gl xs k) j < -1) || decide (16<=gi (gl xs k) j)) s5 (by rw [V4.out,e2,Bool.or_true]);(have hrow:jr xs k=2:=by rw [HK.out,if_pos hst]);rw [dQ.out,iP hlt hd.out (by rw [hrow];decide),hrow]);clear c1 c2;go_wp2;go_ret;exact ⟨aU HX.out.symm,DM.out.1⟩
       ·have e2:decide (16<=y)=false:=by simpa using c2
        (have HY:Hid ((decide (gi (gl xs k) m < -1) || decide (16<=gi (gl xs k) m))=false):=by unfold Hid;rw [V4.out,e1,e2];rfl);clear c1 c2;go_wp2
        go_roundw
        case rel=>exact ⟨m+1,by omega,by go_num,⟨DM.out.1,DM.out.2⟩,fun j hj=>if e:j=m then by subst e;exact HY.out else hd2.out j (by omega)⟩
        case measure=>simp [intOf];omega
     ·obtain rfl:m=(gl xs k).length:=by omega
      (have DB:Hid (jr xs k=0):=by unfold Hid;have hst:iQ (gl xs k) (-1) 16=false:=any_none hd2.out;rw [HK.out,if_neg (by rw [hst];decide)]);have HQ2:=aa DM.out.1;clear s5 hm hd2 DM;go_wp2
      go_roundw
      case rel=>exact ⟨k+1,by omega,by go_num,HQ2.out,fun j hj=>if e:j=k then by subst e;exact DB.out else hd.out j (by omega)⟩
      case measure=>simp [intOf];omega
   ·have ki:(((gl xs k).length:Int) != (l0:Int))=true:=by simp;omega
    (have HX:Hid (eo xs=9):=by unfold Hid;(have hrow:jr xs k=9:=by rw [HK.out,if_pos pW]);rw [dQ.out,iP hlt hd.out (by rw [hrow];decide),hrow]);clear pW;go_wp2;(go_quiet (fail));go_wp2;go_ret;exact ⟨aU HX.out.symm,hQ.out.drewN nq⟩
  ·obtain rfl:k=xs.length:=by omega
   (have HX:Hid (eo xs=0):=by unfold Hid;rw [dQ.out,fT hd.out]);clear hlt hk;go_wp2;go_ret;exact ⟨aU HX.out.symm,hQ.out⟩
end
end Go.Proofs.YtfomhlbhcifgbaaGreatDoor
