/- Maps whose keys are pointers at nodes. The contract of the reference's table. -/
import Derived.MapKept
import Derived.Laws.Pointers
import Derived.Test.YthgabkgmkolobaaGreatQ13
import Derived.Test.YthgabkgmkolobaaGreatQ9
set_option maxRecDepth 100000
namespace Go.Proofs.YthgabkgmkolobaaGreat
section
open Go.RowKit Go.Deep
def Plain (w:World) (b:Nat):Prop:=∃c t,w.heap[b]? = some (.cells c t (0,0))∧0<c.size
section
variable {P:Program} {w:World}
theorem EL {a b:Nat} (ha:Plain w a) (hb:Plain w b):(sameAddr ⟨a,0,none⟩ ⟨b,0,none⟩).run P w=.ok (decide (a=b)) w:=by
 obtain ⟨ca,ta,ha,hca⟩:=ha;obtain ⟨cb,tb,hb,hcb⟩:=hb;by_cases h:a=b
 ·subst h;simp [sameAddr]
 ·have h1:(a==b)=false:=by simp [h]
  simp [sameAddr,h1,h,World.frozen?,ha,hb,noView,viewAt,mayBeOne,stringish,World.shape?,getObj,Sem.run,shape,frozen]
def pk:Option Nat→Value
 | none=>.pointer none
 | some b=>.pointer (some ⟨b,0,none⟩)
def fq (w:World):Option Nat→Prop
 | none=>True
 | some b=>Plain w b
theorem OW {t e:TypeId} (ht:P.underlying t=some (.pointer e)) (he:∀w,(sizeOf e).run P w=.ok 3 w) {x y:Option Nat} (hx:fq w x) (hy:fq w y) (d:Nat):(Op.equalIn (d+1) t (pk x) (pk y)).run P w=.ok (decide (x=y)) w:=by
 have hu:=run_underlying (w:=w) ht;unfold Op.equalIn;cases x with
 | none=>cases y<;>simp [hu,pk]
 | some a =>
  cases y with
  | none=>simp [hu,pk]
  | some b =>
   have h:=EL (P:=P) hx hy;simp [hu,pk,he,h]
theorem II {t e:TypeId} (ht:P.underlying t=some (.pointer e)) (he:∀w,(sizeOf e).run P w=.ok 3 w) {x y:Option Nat} (hx:fq w x) (hy:fq w y):(Op.equal t (pk x) (pk y)).run P w=.ok (decide (x=y)) w :=
 OW ht he hx hy 9999
theorem JZ {t e:TypeId} (ht:P.underlying t=some (.pointer e)) (he:∀w,(sizeOf e).run P w=.ok 3 w) {k:Option Nat} (hk:fq w k):∀(es:List MapEntry) (l:List (Option Nat×Value)) (i:Nat),
  es.map (fun x=>(x.key,x.val))=l.map (fun x=>(pk x.1,x.2))→(∀x∈l,fq w x.1) →
   (l.lookup k=none∧(Instr.findAsking t (pk k) es i).run P w=.ok none w)∨∃j v,l.lookup k=some v∧(Instr.findAsking t (pk k) es i).run P w=.ok (some (j,v)) w:=by
 intro es
 induction es with
 | nil =>
  intro l i hl _;cases l with
  | nil=>exact .inl ⟨rfl,by simp [Instr.findAsking]⟩
  | cons=>cases hl
 | cons x es ih =>
  intro l i hl hok;cases l with
  | nil=>cases hl
  | cons y l =>
   simp only [List.map_cons,List.cons.injEq,Prod.mk.injEq] at hl;obtain ⟨⟨h1,h2⟩,h3⟩:=hl;have heq:=II (w:=w) ht he hk (hok y (by simp));rw [← h1] at heq;by_cases h:k=y.1
   ·subst h
    refine .inr ⟨i,y.2,?_,?_⟩
    ·obtain ⟨y1,y2⟩:=y;simp
    ·simp [Instr.findAsking,heq,h2]
   ·have hb:(k==y.1)=false:=by simpa using h
    rcases ih l (i+1) h3 (fun z hz=>hok z (by simp [hz])) with ⟨h4,h5⟩ | ⟨j,v,h4,h5⟩
    ·refine .inl ⟨?_,by simp [Instr.findAsking,heq,h,h5]⟩
     obtain ⟨y1,y2⟩:=y;rw [List.lookup_cons,hb];exact h4
    ·refine .inr ⟨j,v,?_,by simp [Instr.findAsking,heq,h,h5]⟩
     obtain ⟨y1,y2⟩:=y;rw [List.lookup_cons,hb];exact h4
def iW (w:World) (b:Nat) (l:List (Option Nat×Value)):Prop:=∃es clock,w.heap[b]? = some (.map es clock)∧es.toList.map (fun x=>(x.key,x.val))=l.map (fun x=>(pk x.1,x.2))
theorem run_findKey {t e:TypeId} (ht:P.underlying t=some (.pointer e)) (he:∀w,(sizeOf e).run P w=.ok 3 w) {k:Option Nat} (hk:fq w k) (es:List MapEntry) (l:List (Option Nat×Value))
  (hl:es.map (fun x=>(x.key,x.val))=l.map (fun x=>(pk x.1,x.2))) (hok:∀x∈l,fq w x.1) :
   (l.lookup k=none∧(Instr.findKey t (pk k) es).run P w=.ok none w)∨∃j v,l.lookup k=some v∧(Instr.findKey t (pk k) es).run P w=.ok (some (j,v)) w:=by
 have hu:=run_underlying (w:=w) ht;have h:=JZ ht he hk es l 0 hl hok;cases es with
 | nil =>
  cases l with
  | nil=>exact .inl ⟨rfl,by simp [Instr.findKey,hu,Instr.findNow]⟩
  | cons=>cases hl
 | cons x es =>
  have hn:Instr.findNow (.pointer e) (pk k) (x::es) 0=none:=by simp [Instr.findNow,Instr.sameNow]
  rcases h with ⟨h1,h2⟩ | ⟨j,v,h1,h2⟩
  ·exact .inl ⟨h1,by simp [Instr.findKey,hu,hn,h2]⟩
  ·exact .inr ⟨j,v,h1,by simp [Instr.findKey,hu,hn,h2]⟩
theorem run_checkKey {t e:TypeId} (ht:P.underlying t=some (.pointer e)) (em:Bool) (k:Option Nat):(Instr.checkKey em 10000 t (pk k)).run P w=.ok () w:=by
 have hu:=run_underlying (w:=w) ht;show (Instr.checkKey em (9999+1) t (pk k)).run P w=_;unfold Instr.checkKey;cases k<;>simp [hu,pk]
theorem uo {mt t e el:TypeId} (hm:P.underlying mt=some (.map t el)) (ht:P.underlying t=some (.pointer e)) (he:∀w,(sizeOf e).run P w=.ok 3 w) {b:Nat} {l:List (Option Nat×Value)} (h:iW w b l) {k:Option Nat} {v:Value}
  (hk:fq w k) (hok:∀x∈l,fq w x.1) (hv:l.lookup k=some v):(Instr.lookup mt (.map (some b)) (pk k) false).run P w=.ok v w:=by
 obtain ⟨es,clock,hb,hl⟩:=h;have hu:=run_underlying (w:=w) hm;have hg:=MapKept.run_getObj_map (P:=P) hb;rcases run_findKey ht he hk es.toList l hl hok with ⟨h1,h2⟩ | ⟨j,v',h1,h2⟩
 ·rw [h1] at hv;cases hv
 ·rw [h1] at hv;injection hv with hv;subst hv
  simp [Instr.lookup,hu,hg,run_checkKey ht,h2]
theorem EM {mt t e el:TypeId} (hm:P.underlying mt=some (.map t el)) (ht:P.underlying t=some (.pointer e)) (he:∀w,(sizeOf e).run P w=.ok 3 w) {b:Nat} {l:List (Option Nat×Value)} (h:iW w b l) {k:Option Nat} (v:Value)
  (hk:fq w k) (hok:∀x∈l,fq w x.1) (hv:l.lookup k=none) :
  ∃w',(Instr.mapUpdate mt (.map (some b)) (pk k) v).run P w=.ok () w'∧iW w' b (l++[(k,v)])∧w'.heap.size=w.heap.size∧w'.os=w.os∧w'.tape=w.tape∧w'.output=w.output∧∀j,j≠b→w'.heap[j]? = w.heap[j]?:=by
 obtain ⟨es,clock,hb,hl⟩:=h;have hu:=run_underlying (w:=w) hm;have hg:=MapKept.run_getObj_map (P:=P) hb;rcases run_findKey ht he hk es.toList l hl hok with ⟨h1,h2⟩ | ⟨j,v',h1,h2⟩
 ·have hs:=MapKept.run_setObj_map (P:=P) (.map (es.push { key:=pk k,val:=v,born:=clock }) (clock+1)) hb
  refine ⟨{ w with heap:=w.heap.setIfInBounds b (.map (es.push { key:=pk k,val:=v,born:=clock }) (clock+1)) },by simp [Instr.mapUpdate,hu,hg,run_checkKey ht,h2,hs],⟨es.push { key:=pk k,val:=v,born:=clock },clock+1,?_,by simp [hl]⟩,by simp,rfl,rfl,rfl,fun j hj=>?_⟩
  ·have:=(Array.getElem?_eq_some_iff.1 hb).1
   simp [this]
  ·simp [Ne.symm hj]
 ·rw [h1] at hv;cases hv
end
end
section
open Go.RowKit Go.Deep
structure dZ (w0 w:World) (ob n m k:Nat) (F:Nat→Nat→Int):Prop where
 below:Below ob w0 w
 top:w.rowIs ob 26 n (fun i=>if i<k then .slice (some ⟨ob+1+i,0,none⟩) m m else .slice none 0 0)
 rows:∀i,i<k→w.rowIs (ob+1+i) 3 m (fun s=>.int .i64 (F i s))
theorem dZ.congr {w0 w:World} {ob n m k:Nat} {F G:Nat→Nat→Int} (h:dZ w0 w ob n m k F) (e:∀i s,i<k→s<m→F i s=G i s):dZ w0 w ob n m k G :=
 ⟨h.below,h.top,fun i hi=>(h.rows i hi).congr fun s hs=>by rw [e i s hi hs]⟩
theorem dZ.keep {w0 w w':World} {ob n m k:Nat} {F:Nat→Nat→Int} (h:dZ w0 w ob n m k F) (hb:Below ob w0 w') (hk:∀b,ob≤b→b<ob+1+k→w'.heap[b]? = w.heap[b]?):dZ w0 w' ob n m k F :=
 ⟨hb,h.top.of_block (hk ob (Nat.le_refl _) (by omega)),fun i hi=>(h.rows i hi).of_block (hk _ (by omega) (by omega))⟩
theorem dZ.up {w0 w w':World} {ob n m k:Nat} {F:Nat→Nat→Int} (h:dZ w0 w ob n m k F) (hu:Up w w'):dZ w0 w' ob n m k F:=by
 have h1:ob<w.heap.size:=h.top.lt;refine h.keep (h.below.trans (Below.mono hu (Nat.le_of_lt h1))) fun b hb hb2=>?_;refine Below.block hu b ?_;by_cases e:b=ob
 ·omega
 ·have:=(h.rows (b - ob - 1) (by omega)).lt;omega
theorem dZ.drewN {w0 w:World} {ob n m k:Nat} {F:Nat→Nat→Int} (h:dZ w0 w ob n m k F) (j:Nat):dZ w0 (w.drewN j) ob n m k F:=h.up (Up.drewN w j)
theorem dZ.set {w0 w:World} {ob n m k:Nat} {F:Nat→Nat→Int} (h:dZ w0 w ob n m k F) {i:Nat} (hi:i<k) (s:Nat) (x:Int):dZ w0 (w.setCell ⟨ob+1+i,s,none⟩ (.int .i64 x)) ob n m k (fun r c=>if r=i∧c=s then x else F r c):=by
 refine ⟨h.below.setCell (p:=⟨ob+1+i,s,none⟩) (by simp only;omega) _,h.top.setOther (a:=⟨ob+1+i,s,none⟩) (by simp only;omega) _,fun r hr=>?_⟩;by_cases e:r=i
 ·subst e
  exact ((h.rows r hr).set s _).congr fun c _=>by by_cases e2:c=s<;>simp [e2]
 ·exact ((h.rows r hr).setOther (a:=⟨ob+1+i,s,none⟩) (by simp only;omega) _).congr fun c _=>by simp [e]
theorem dZ.add {w0 w:World} {ob n m k:Nat} {F:Nat→Nat→Int} (h:dZ w0 w ob n m k F) (hs:w.heap.size=ob+1+k) (hF:∀s,F k s=0) :
  dZ w0 ((w.alloc (.cells (madeCells #[.int .i64 0] m) 3)).setCell ⟨ob,k,none⟩ (.slice (some ⟨ob+1+k,0,none⟩) m m)) ob n m (k+1) F:=by
 refine ⟨(h.below.alloc (by omega) _).setCell (p:=⟨ob,k,none⟩) (Nat.le_refl _) _,((h.top.alloc _).set k _).congr fun i _=>?_,fun i hi=>?_⟩
 ·by_cases e:i=k
  ·subst e;simp
  ·by_cases e2:i<k
   ·simp [e,e2,Nat.lt_succ_of_lt e2]
   ·have e3:¬i<k+1:=by omega
    simp [e,e2,e3]
 ·by_cases e:i=k
  ·subst e
   have h1:=World.rowIs_made w (.int .i64 0) m 3;rw [hs] at h1;exact (h1.setOther (a:=⟨ob,i,none⟩) (by simp only;omega) _).congr fun s _=>by rw [hF]
  ·exact ((h.rows i (by omega)).alloc _).setOther (a:=⟨ob,k,none⟩) (by simp only;omega) _
theorem OX {P:Program} {f:FuncId} {args:Array Value} {w:World} {n:Nat} {x:Int} (h:Calls P f args (w.drewN n) (LM (w.drewN n) x)):Calls P f args (w.drewN n) fun e w''=>e=.returned (.int .i64 x)∧∃m,w''=w.drewN m :=
 h.mono fun _ _ ⟨he,m,hm⟩=>⟨he,n+m,by rw [hm,World.drewN_drewN]⟩
set_option maxHeartbeats 4000000 in
theorem OY (S:Nat→Prop) (w:World) (v vs vc:Value) (t:aD) (st:List Int) (cs:List (List Int)) (hT:au S w v t) (hS:aj S w vs st) (hC:aQ S w vc cs)
  (hz:∀k,(gs t.ns k).size≤70000) (hv:Valid t st cs):Calls Tryz.prog 252 #[v,vs,vc] w (wO w (lQ t st cs)):=by
 obtain ⟨wP,hn2,Yt,hok,_⟩:=aJ hv.tree;obtain ⟨Iw,hm2,Rm,UA,_⟩:=od hv.KX;obtain ⟨P,N,rfl,hP,hN⟩:=hT;obtain ⟨pp,jI,rfl,Xv,_⟩:=aC.open hP;have UB:aj S w (.slice pp t.ps.length jI) t.ps:=hP;obtain ⟨qS,gX,rfl,QY,_⟩:=aC.open hS;have hS:aj S w (.slice qS st.length gX) st:=hS;obtain ⟨qC,fT,rfl,DT,_⟩:=bS hC;have hu:=Up.alloc w (.cells #[.slice pp t.ps.length jI,N] 39);have HT:=aa (show au S (w.alloc (.cells #[.slice pp t.ps.length jI,N] 39)) (.agg #[.slice pp t.ps.length jI,N]) t from au.keep ⟨_,N,rfl,UB,hN⟩ (hu.kept _))
 have HP:=aa ((UB.sub (T:=(· < w.heap.size+1)) fun b _ hb=>Nat.lt_succ_of_lt hb).keep (hu.kept _));have HS:=aa ((hS.sub (T:=(· < w.heap.size+1)) fun b _ hb=>Nat.lt_succ_of_lt hb).keep (hu.kept _));have HC:=aa ((hC.sub (T:=(· < w.heap.size+1)) fun b _ hb=>Nat.lt_succ_of_lt hb).keep (hu.kept _));have HU:=aa hu;have cZ:=aa (dc w (.slice pp t.ps.length jI) N 39);have cR:=aa (dz w (.slice pp t.ps.length jI) N 39)
 have hmk:=fun W=>run_make_row' (P:=Tryz.prog) 23 26 (.slice none 0 0) 24 Tryz.underlying23 Tryz.Eu rfl .i64 .i64 t.ps.length (by omega) (by omega) W;have UC:=fun W=>run_make_row' (P:=Tryz.prog) 26 3 (.int .i64 0) 8 Tryz.underlying26 Tryz.fI rfl .i64 .i64 cs.length (by omega) (by omega) W;have hz1:(w.alloc (.cells #[.slice pp t.ps.length jI,N] 39)).heap.size=w.heap.size+1:=by simp
 have Yu:dZ (w.alloc (.cells #[.slice pp t.ps.length jI,N] 39)) ((w.alloc (.cells #[.slice pp t.ps.length jI,N] 39)).alloc (.cells (madeCells #[.slice none 0 0] t.ps.length) 26)) (w.heap.size+1) t.ps.length cs.length 0 (fun _ _=>0):=by refine ⟨(Below.refl _ _).alloc (by simp) _,?_,fun i hi=>absurd hi (Nat.not_lt_zero _)⟩;have h1:=World.rowIs_made (w.alloc (.cells #[.slice pp t.ps.length jI,N] 39)) (.slice none 0 0) t.ps.length 26;rw [hz1] at h1;exact h1.congr fun i _=>by simp
 have hz2:((w.alloc (.cells #[.slice pp t.ps.length jI,N] 39)).alloc (.cells (madeCells #[.slice none 0 0] t.ps.length) 26)).heap.size=w.heap.size+1+1:=by simp
 have UD:=aa Yu;have T8:=aa hz1;have HZ2:=aa hz2;have HV:=aa hv;have HZZ:=aa hz;have UE:=aa Yt;have nv:=aa hok;have Cv:=aa Rm;have Rn:=aa UA;have hcB:((w.alloc (.cells #[.slice pp t.ps.length jI,N] 39)).alloc (.cells (madeCells #[.slice none 0 0] t.ps.length) 26)).cell? ⟨w.heap.size,0,none⟩=some (.slice pp t.ps.length jI):=(Up.alloc _ _).cell cZ.out;have wH:=aa hcB;clear hu hP UB hN hS hC hz hv Yt hok Rm UA Yu hz1 hz2 hcB
 go_enter Tryz.func252,Tryz.ntmps252
 go_wp2_with fail;clear hmk;generalize (w.alloc (.cells #[.slice pp t.ps.length jI,N] 39)).alloc (.cells (madeCells #[.slice none 0 0] t.ps.length) 26)=w2 at *;generalize w.alloc (.cells #[.slice pp t.ps.length jI,N] 39)=w1 at *
 go_loopw [9] (fun i wr=>∃k:Nat,k≤t.ps.length∧i=.int .i64 k∧Hid (dZ w1 wr (w.heap.size+1) t.ps.length cs.length k (fun _ _=>0))∧Hid (wr.heap.size=w.heap.size+1+1+k)) (fun i _=>t.ps.length - (intOf i).toNat)
 case atStart=>exact ⟨0,Nat.zero_le _,rfl,UD,HZ2⟩
 case round =>
  obtain ⟨k,hk,rfl,hM,hZ⟩:=hrel;obtain ⟨wo,rfl⟩:∃wo:World,wo=wr:=⟨_,rfl⟩;by_cases hlt:k<t.ps.length
  ·have hc1:=(hM.out.top.alloc (.cells (madeCells #[.int .i64 0] cs.length) 3)).cell hlt
   have nw:=(hM.out.top.alloc (.cells (madeCells #[.int .i64 0] cs.length) 3)).frozen k;obtain ⟨y,hc1⟩:∃y,(wo.alloc (.cells (madeCells #[.int .i64 0] cs.length) 3)).cell? ⟨w.heap.size+1,k,none⟩=some y:=⟨_,hc1⟩;have HN:Hid (dZ w1 ((wo.alloc (.cells (madeCells #[.int .i64 0] cs.length) 3)).setCell ⟨w.heap.size+1,k,none⟩ (.slice (some ⟨w.heap.size+1+1+k,0,none⟩) cs.length cs.length)) (w.heap.size+1) t.ps.length cs.length (k+1) (fun _ _=>0)):=hM.out.add hZ.out fun _=>rfl
   (have Yv:Hid (((wo.alloc (.cells (madeCells #[.int .i64 0] cs.length) 3)).setCell ⟨w.heap.size+1,k,none⟩ (.slice (some ⟨w.heap.size+1+1+k,0,none⟩) cs.length cs.length)).heap.size=w.heap.size+1+1+(k+1)):=by unfold Hid;rw [World.size_setCell,World.size_alloc,hZ.out];omega);have HZo:Hid (wo.heap.size=w.heap.size+1+1+k):=hZ;have Yw:wo.heap.size=w.heap.size+1+1+k:=hZ.out;rw [← Yw] at HN Yv;clear Yw;go_wp2_with fail
   go_roundw
   case rel=>exact ⟨k+1,by omega,by go_num,HN,Yv⟩
   case measure=>simp [intOf];omega
  ·obtain rfl:k=t.ps.length:=by omega
   clear hlt hk UC;have hkb:Kept (· < w.heap.size+1) w1 wo:=fun b hb _=>hM.out.below.block b hb;have hc0:wo.cell? ⟨w.heap.size,0,none⟩=some (.slice pp t.ps.length jI):=wT hkb (Nat.lt_succ_self _) cZ.out;have hc1:wo.cell? ⟨w.heap.size,1,none⟩=some N:=wT hkb (Nat.lt_succ_self _) cR.out;(have wY:au S wo (.agg #[.slice pp t.ps.length jI,N]) t:=by refine HT.out.keep fun b _ hl=>hM.out.below.block b ?_;have:=T8.out;omega);have oI:=aa (Ce S wo _ t wY (by omega) (by rw [UE.out];omega) HZZ.out);clear hkb wY;go_wp2_with fail;refine oI.out.mono ?_
   rintro e w4 ⟨hb,⟨h1,_⟩ | ⟨_,lv,rfl,hlv⟩⟩
   ·exact absurd HV.out.tree h1
   obtain ⟨lp,lc,rfl,_,_⟩:=aC.open hlv;have bE:Up wo w4:=hb;have hlv:aj (fun b=>wo.heap.size≤b) w4 (.slice lp (aq t.ns).length lc) (aq t.ns):=hlv;(have EN:Hid (aj (fun b=>w.heap.size+1+1+t.ps.length≤b) w4 (.slice lp (aq t.ns).length lc) (aq t.ns)):=by unfold Hid;rw [← hZ.out];exact hlv);have EO:=aa (bE.cell hc0);have Rn:=aa ((hM.out.up bE).congr (G:=lI t st 0) fun i s _ _=>(JB t st i s).symm);(have kS:(aq t.ns).length≤64:=by have:=jH t.ns;have:=UE.out;omega);clear hb bE hlv hc0 hc1 oI hM HT;go_wp2_with fail
   go_loopw [12,13] (fun i _ wr=>∃j:Nat,j≤(aq t.ns).length∧i=.int .i64 j∧Hid (dZ w1 wr (w.heap.size+1) t.ps.length cs.length t.ps.length (lI t st j))∧Hid (Kept (fun b=>w.heap.size+1+1+t.ps.length≤b) w4 wr)) (fun i _ _=>(aq t.ns).length - (intOf i).toNat)
   case atStart=>exact ⟨0,Nat.zero_le _,rfl,Rn,Kept.refl _ _⟩
   case round =>
    obtain ⟨j,hj,rfl,hM,hK⟩:=hrel;obtain ⟨wp,rfl⟩:∃wo:World,wo=wr:=⟨_,rfl⟩;by_cases hlt:j<(aq t.ns).length
    ·go_wp2_with fail
     go_loopw [13] (fun i wr=>∃s:Nat,s≤cs.length∧i=.int .i64 s∧Hid (dZ w1 wr (w.heap.size+1) t.ps.length cs.length t.ps.length (iU t st j s))∧Hid (Kept (fun b=>w.heap.size+1+1+t.ps.length≤b) w4 wr)) (fun i _=>cs.length - (intOf i).toNat)
     case atStart=>exact ⟨0,Nat.zero_le _,rfl,hM.out.congr fun i s _ _=>(G2 t st j i s).symm,hK⟩
     case round =>
      obtain ⟨s,hs,rfl,hM2,hK2⟩:=hrel;obtain ⟨wq,rfl⟩:∃wo:World,wo=wr:=⟨_,rfl⟩;by_cases hst:s<cs.length
      ·obtain ⟨q,hq,IJ,_⟩:=lN hlt
       have Iy:=B5 hlt hq;have hown:=Si (st:=st) hlt hq;(have EP:q<t.ps.length:=by rw [← UE.out];exact IJ);(have hks:j<st.length:=by rw [HV.out.len];exact hlt);have hkb:Kept (· < w.heap.size+1) w1 wq:=fun b hb _=>hM2.out.below.block b hb;obtain ⟨sb,so,rfl,hcs⟩:=bQ (aj.keep HS.out hkb) hks;(have hbase:cm t st q s=if 0≤gi st j∧gi st j≠s then -1 else 0:=by unfold cm;rw [hown]);have J1:=aa hbase;have hnext:∀i s',iU t st j (s+1) i s'=if i=q∧s'=s then cm t st q s else iU t st j s i s':=fun i s'=>by
        unfold iU;by_cases e:cH t.ns i=j
        ·have UF:i=q:=by
          have h1:=rM (ns:=t.ns) (i:=i) (by omega)
          rw [e,Int.toNat_natCast,hq] at h1;omega
         subst UF
         rw [if_pos e,if_pos e]
         by_cases e2:s'=s
         ·subst e2;simp
         ·by_cases e3:s'<s
          ·simp [e2,e3,Nat.lt_succ_of_lt e3]
          ·have e4:¬s'<s+1:=by omega
           simp [e2,e3,e4]
        ·have UF:i≠q:=fun h=>e (by rw [h];exact Iy)
         rw [if_neg e,if_neg e,if_neg (fun h=>UF h.1)]
       have pZ:=aa hnext;(have LR:iU t st j s q s=0:=by unfold iU;rw [if_pos Iy,if_neg (Nat.lt_irrefl _)]);have hct:=hM2.out.top.cell EP;rw [if_pos EP] at hct;have rS:=(hM2.out.rows q EP).cell hst;have hfr:=(hM2.out.rows q EP).frozen s;rw [LR] at rS;have UG:=aj.keep EN.out hK2.out;obtain ⟨lb,lo,rfl,Yx⟩:=bQ UG hlt;rw [hq] at Yx;clear Iy hown hbase hnext LR UG hq hkb;generalize gi st j=x at *;by_cases h0:0≤x
       ·by_cases hxs:x=s
        ·have hxs1:(x != (s:Int))=false:=by simp [hxs]
         have ny:Hid (dZ w1 wq (w.heap.size+1) t.ps.length cs.length t.ps.length (iU t st j (s+1))):=hM2.out.congr fun i s' _ _=>by
          rw [pZ.out];by_cases e:i=q∧s'=s
          ·rw [if_pos e,e.1,e.2,J1.out,if_neg (fun h=>h.2 hxs)]
           have:=rS;have h2:=(hM2.out.rows q EP).cell hst;rw [h2] at this;simpa using this
          ·rw [if_neg e]
         clear hxs;go_wp2_with fail
         go_roundw
         case rel=>exact ⟨s+1,by omega,by go_num,ny,hK2⟩
         case measure=>simp [intOf];omega
        ·have hxs1:(x != (s:Int))=true:=by simpa using hxs
         have ny:Hid (dZ w1 (wq.setCell ⟨w.heap.size+1+1+q,s,none⟩ (.int .i64 (-1))) (w.heap.size+1) t.ps.length cs.length t.ps.length (iU t st j (s+1))):=(hM2.out.set EP s (-1)).congr fun i s' _ _=>by
          rw [pZ.out];by_cases e:i=q∧s'=s
          ·rw [if_pos e,if_pos e,J1.out,if_pos ⟨h0,hxs⟩]
          ·rw [if_neg e,if_neg e]
         have ER:Hid (Kept (fun b=>w.heap.size+1+1+t.ps.length≤b) w4 (wq.setCell ⟨w.heap.size+1+1+q,s,none⟩ (.int .i64 (-1)))):=fun b hb hl=>(Below.heap_setCell wq _ _ b (by simp only;omega)).trans (hK2.out b hb hl);clear hxs;go_wp2_with fail
         go_roundw
         case rel=>exact ⟨s+1,by omega,by go_num,ny,ER⟩
         case measure=>simp [intOf];omega
       ·have Yo:decide (0≤x)=false:=by simpa using h0
        have ny:Hid (dZ w1 wq (w.heap.size+1) t.ps.length cs.length t.ps.length (iU t st j (s+1))):=hM2.out.congr fun i s' _ _=>by
         rw [pZ.out];by_cases e:i=q∧s'=s
         ·rw [if_pos e,e.1,e.2,J1.out,if_neg (fun h=>h0 h.1)]
          have:=rS;have h2:=(hM2.out.rows q EP).cell hst;rw [h2] at this;simpa using this
         ·rw [if_neg e]
        go_wp2_with fail
        go_roundw
        case rel=>exact ⟨s+1,by omega,by go_num,ny,hK2⟩
        case measure=>simp [intOf];omega
      ·obtain rfl:s=cs.length:=by omega
       have ny:Hid (dZ w1 wq (w.heap.size+1) t.ps.length cs.length t.ps.length (lI t st (j+1))):=hM2.out.congr fun i s' _ hs'=>JC hs';clear hst hs;go_wp2_with fail
       go_roundw
       case rel=>exact ⟨j+1,by omega,by go_num,ny,hK2⟩
       case measure=>simp [intOf];omega
    ·obtain rfl:j=(aq t.ns).length:=by omega
     (have HM5:Hid (dZ w1 wp (w.heap.size+1) t.ps.length cs.length t.ps.length (part t st cs t.ps.length)):=hM.out.congr fun i s _ _=>by rw [K2,N6 _ _ _ (Nat.le_refl _)]);clear hlt hj hM hK EN Rn;(have hn0:((t.ps.length:Int) - 1)=((t.ps.length - 1:Nat):Int):=by omega);have HN0:=aa hn0;clear hn0;go_wp2_with fail
     go_loopw [14,15] (fun i _ wr=>∃j:Nat,j<t.ps.length∧i=.int .i64 j∧Hid (dZ w1 wr (w.heap.size+1) t.ps.length cs.length t.ps.length (part t st cs (j+1)))) (fun i _ _=>(intOf i).toNat)
     case atStart =>refine ⟨t.ps.length - 1,by omega,by rw [HN0.out],?_⟩;(have e:t.ps.length - 1+1=t.ps.length:=by omega);rw [e];exact HM5
     case round =>
      obtain ⟨j,hj,rfl,hM⟩:=hrel;obtain ⟨wp,rfl⟩:∃wo:World,wo=wr:=⟨_,rfl⟩;by_cases hj0:0<j
      ·have hpar:=wm nv.out hj
       obtain ⟨p,hp⟩:∃p:Nat,gi t.ps j=p:=Int.eq_ofNat_of_zero_le (hpar.2.1 hj0);(have Yy:p<j:=by have:=hpar.1;omega);have Af:=aa hp;clear hpar hp;go_wp2_with fail
       go_loopw [15] (fun i wr=>∃s:Nat,s≤cs.length∧i=.int .i64 s∧Hid (dZ w1 wr (w.heap.size+1) t.ps.length cs.length t.ps.length (kL t st cs j s))) (fun i _=>cs.length - (intOf i).toNat)
       case atStart=>exact ⟨0,Nat.zero_le _,rfl,hM.out.congr fun r c _ _=>(JD j r c).symm⟩
       case round =>
        obtain ⟨s,hs,rfl,hM2⟩:=hrel;obtain ⟨wq,rfl⟩:∃wo:World,wo=wr:=⟨_,rfl⟩;by_cases hst:s<cs.length
        ·have hkb:Kept (· < w.heap.size+1) w1 wq:=fun b hb _=>hM2.out.below.block b hb
         have hcB:wq.cell? ⟨w.heap.size,0,none⟩=some (.slice pp t.ps.length jI):=wT hkb (Nat.lt_succ_self _) cZ.out;obtain ⟨pb,po,rfl,jL⟩:=bQ (aj.keep HP.out hkb) hj;rw [Af.out] at jL;(have pJ:p<t.ps.length:=by omega);have hct:=hM2.out.top.cell pJ;rw [if_pos pJ] at hct;have rO:=hM2.out.top.cell hj;rw [if_pos hj] at rO;have rS:=(hM2.out.rows p pJ).cell hst;have hfr:=(hM2.out.rows p pJ).frozen s;(have hval:kL t st cs j s p s=part t st cs (j+1) p s:=by unfold kL;rw [if_neg (by omega)]);rw [hval] at rS
         have hnext:∀r c,kL t st cs j (s+1) r c=if r=p∧c=s then part t st cs (j+1) p s+eH t st cs s j else kL t st cs j s r c:=fun r c=>by
          unfold kL;rw [Af.out];by_cases e:r=p∧c=s
          ·obtain ⟨rfl,rfl⟩:=e
           rw [if_pos ⟨rfl,by omega⟩,if_pos ⟨rfl,rfl⟩,B6 hj Af.out Yy]
          ·rw [if_neg e]
           by_cases e2:(p:Int)=r∧c<s
           ·rw [if_pos ⟨e2.1,by omega⟩,if_pos e2]
           ·rw [if_neg e2,if_neg (fun h=>by
             rcases Nat.lt_or_ge c s with h3 | h3
             ·exact e2 ⟨h.1,h3⟩
             ·exact e ⟨by omega,by omega⟩)]
         have pZ:=aa hnext;obtain ⟨cb,co,rq,rc,rfl,hcc,IB⟩:=eM (HC.out.keep hkb) hst
         have Ro:aj Any wq (.slice (some ⟨w.heap.size+1+1+j,0,none⟩) cs.length cs.length) (aN t st cs j):=by refine ⟨some ⟨w.heap.size+1+1+j,0,none⟩,cs.length,by rw [bX],by rw [bX];exact Nat.le_refl _,.inr ⟨_,0,rfl,trivial,fun c hc=>?_⟩⟩;rw [bX] at hc;rw [Nat.zero_add,(hM2.out.rows j hj).cell hc];show some (Value.int .i64 (kL t st cs j s j c))=some (Value.int .i64 (gi (aN t st cs j) c));rw [fD _ _ _ _ hc];unfold kL;rw [Af.out,if_neg (by omega),D8 HV.out hj (Nat.le_refl _)]
         have ES:=fun m=>EC Any (· < w.heap.size+1) (wq.drewN m) _ _ (aN t st cs j) (gl cs s) (aj.keep Ro (pX _ _ _)) (aj.keep IB (pX _ _ _)) (by rw [bX,Cv.out s hst];exact Nat.le_refl _) (by rw [Cv.out s hst];omega) (Rn.out s) (fun c=>by have:=(HV.out.tb j c hj).2;omega);have Bi:(bq (gi (gl cs s)) (gi (aN t st cs j)) (aN t st cs j).length).1=eH t st cs s j:=rfl;rw [Bi] at ES;have hab:=sG HV.out hst hj;have hpb:=Io HV.out (k:=j+1) pJ hst;have OZ:=Io HV.out (k:=j) pJ hst;rw [B6 hj Af.out Yy] at OZ
         have LS:=aa ES;have HSET:=aa (hM2.out.set pJ s (part t st cs (j+1) p s+eH t st cs s j));(have i1:(0:Int)≤(j:Int):=by omega);(have i2:(j:Int)<(t.ps.length:Int):=by omega);(have i3:(0:Int)≤(p:Int):=by omega);(have i4:(p:Int)<(t.ps.length:Int):=by omega);(have i5:(0:Int)≤(s:Int):=by omega);(have i6:(s:Int)<(cs.length:Int):=by omega);rw [Cv.out s hst] at hcc LS;clear hkb hval hnext IB Ro ES Bi;generalize part t st cs (j+1) p s=px at *;generalize eH t st cs s j=ax at *;obtain ⟨hpb,_⟩:=hpb;obtain ⟨_,OZ⟩:=OZ
         have Bh:IntKind.i64.wrap (px+ax)=px+ax:=IntWalk.i64_in _ (by omega);go_wp2_with fail;refine DG 31 (by kernel_rfl) (by kernel_rfl) ?_;simp only [List.take_succ_cons,List.take_zero,List.drop_succ_cons,List.drop_zero]
         repeat (go_big_quiet_step (exact OX (LS.out _)))
         refine wpQuiet_nil ?_;intro _ hw';obtain ⟨nq,hw''⟩:=hw';subst hw'';have hcr2:(wq.drewN nq).cell? ⟨w.heap.size+1+1+p,s,none⟩=_:=rS;have hfr2:(wq.drewN nq).frozen? ⟨w.heap.size+1+1+p,s,none⟩=false:=hfr;have ny:Hid (dZ w1 ((wq.drewN nq).setCell ⟨w.heap.size+1+1+p,s,none⟩ (.int .i64 (px+ax))) (w.heap.size+1) t.ps.length cs.length t.ps.length (kL t st cs j (s+1))):=((hM2.out.drewN nq).set pJ s (px+ax)).congr fun r c _ _=>(pZ.out r c).symm;go_wp2_with fail
         go_roundw
         case rel=>exact ⟨s+1,by omega,by go_num,ny⟩
         case measure=>simp [intOf];omega
        ·obtain rfl:s=cs.length:=by omega
         obtain ⟨j',rfl⟩:∃j',j=j'+1:=⟨j - 1,by omega⟩;have ny:Hid (dZ w1 wq (w.heap.size+1) t.ps.length cs.length t.ps.length (part t st cs (j'+1))):=hM2.out.congr fun r c _ hc=>K3 hc;clear hst hs;go_wp2_with fail
         go_roundw
         case rel=>exact ⟨j',by omega,by go_num,ny⟩
         case measure=>simp [intOf]
      ·obtain rfl:j=0:=by omega
       clear hj0;go_wp2_with fail;go_ret;refine ⟨HU.out.trans (by rw [← T8.out] at hM;exact hM.out.below),.slice (some ⟨w.heap.size+1,0,none⟩) t.ps.length t.ps.length,rfl,fun i=>.slice (some ⟨w.heap.size+1+1+i,0,none⟩) cs.length cs.length,⟨some ⟨w.heap.size+1,0,none⟩,t.ps.length,by rw [nH],by rw [nH];exact Nat.le_refl _,.inr ⟨_,0,rfl,trivial,fun k hk=>?_⟩⟩,fun k hk=>?_⟩
       ·rw [nH] at hk
        have h1:=hM.out.top.cell hk;rw [if_pos hk] at h1;rw [Nat.zero_add];exact h1
       ·rw [nH] at hk
        rw [Iz _ _ _ hk];refine ⟨some ⟨w.heap.size+1+1+k,0,none⟩,cs.length,by rw [bX],by rw [bX];exact Nat.le_refl _,.inr ⟨_,0,rfl,trivial,fun c hc=>?_⟩⟩;rw [bX] at hc;rw [Nat.zero_add,(hM.out.rows k hk).cell hc];show some (Value.int .i64 (part t st cs (0+1) k c))=some (Value.int .i64 (gi (aN t st cs k) c));rw [fD _ _ _ _ hc,D8 HV.out hk (by omega)]
end
end Go.Proofs.YthgabkgmkolobaaGreat
