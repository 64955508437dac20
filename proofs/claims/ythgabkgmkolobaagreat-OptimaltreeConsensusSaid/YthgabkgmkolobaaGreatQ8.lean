/- The contract of phylotree.sorted. The .. -/
import Derived.RangeFuncKeeps
import Derived.Laws.EntriesVeiled
import Derived.Test.YthgabkgmkolobaaGreatQ7
set_option maxRecDepth 100000
set_option maxHeartbeats 4000000
namespace Go.Proofs.YthgabkgmkolobaaGreat
section
open Go.RowKit Go.Deep
theorem run_makeMap {P:Program} (T:TypeId) (w:World):(Instr.makeMap T none).run P w=.ok (.map (some w.heap.size)) (w.alloc (.map #[] 0)):=by
 rfl
structure Hz (F:bW) (n:Nat) (rk:Nat->Nat):Prop where
 wf:Wf F n rk
 sep:∀i,i<n->Sep (j9 F rk) (F.kids i)
 nodup:∀i,i<n->(F.kids i).Nodup
 len:∀i,i<n->(F.kids i).length<=1000
theorem tM {F:bW} {n:Nat} {rk:Nat->Nat} (h:Wf F n rk):∀ {d i j:Nat},i<n->wU F d i j=true->rk j<=rk i:=by
 intro d
 induction d with
 | zero=>intro i j _ hs;simp [wU] at hs;subst hs;exact ah _
 | succ d ih =>
  intro i j hi hs;simp only [wU,s7,beq_iff_eq,dx] at hs;rcases hs with rfl | ⟨k,hk,h1⟩
  ·exact ah _
  ·have:=h.kid i hi k hk
   have:=ih this.1 h1;omega
theorem aaT {F:bW} {n:Nat} {rk:Nat->Nat} (h:Wf F n rk) {i k:Nat} (hi:i<n) (hk:k∈F.kids i):dz F rk k i=false:=by
 cases hs:dz F rk k i with
 | false=>rfl
 | true =>
  have h1:=h.kid i hi k hk;have:=tM h h1.1 hs;omega
def XQ (n base:Nat) (A:Nat->Nat) (kv:Nat->Value) (F:bW) (rk:Nat->Nat) (p:Nat->Bool) (i:Nat) (w:World) (e:Ending) (w':World):Prop :=
 e=.returned (.string (j9 F rk i))/\cE base n A kv (F.mQ rk fun j=>p j || dz F rk i j) w'/\qz n A kv w w'
def pK (F:bW) (rk:Nat->Nat) (p:Nat->Bool) (L:List Nat) (k j:Nat):Bool:=p j || (L.take k).any fun c=>dz F rk c j
def mK (F:bW) (rk:Nat->Nat) (A:Nat->Nat) (L:List Nat) (k:Nat):List (Option Nat×Value):=(L.take k).map fun j=>(some (A j),.string (j9 F rk j))
structure TD (n base:Nat) (A:Nat->Nat) (kv:Nat->Value) (F:bW) (rk:Nat->Nat) (p:Nat->Bool) (L:List Nat) (w wr:World) (m0 bx k:Nat):Prop where
 fr:cE base n A kv (F.mQ rk (pK F rk p L k)) wr
 map:ou wr m0 (mK F rk A L k)
 box:wr.cell? ⟨bx,0,none⟩=some (.map (some m0))
 up:qz n A kv w wr
theorem aen (F:bW) (rk:Nat->Nat) (p:Nat->Bool) (L:List Nat) {k c:Nat} (hc:L[k]? = some c) (j:Nat):pK F rk p L (k+1) j=(pK F rk p L k j || dz F rk c j):=by
 unfold pK;rw [BU,hc];simp [Bool.or_assoc]
theorem aeo (F:bW) (rk:Nat->Nat) (A:Nat->Nat) (L:List Nat) {k c:Nat} (hc:L[k]? = some c):mK F rk A L (k+1)=mK F rk A L k++[(some (A c),.string (j9 F rk c))]:=by
 unfold mK;rw [BU,hc];simp
theorem cE.Mm {base n:Nat} {A:Nat->Nat} {kv:Nat->Value} {F:bW} {rk:Nat->Nat} {p q:Nat->Bool} {w:World} (h:cE base n A kv (F.mQ rk p) w) (e:∀j,j<n->q j=p j):cE base n A kv (F.mQ rk q) w :=
 h.congr fun j hj=>⟨rfl,rfl,by show (if q j then _ else _)=(if p j then _ else _);rw [e j hj]⟩
theorem Mn {F:bW} {rk:Nat->Nat} {A:Nat->Nat} {n:Nat} (hinj:∀i j,i<n->j<n->A i=A j->i=j):∀ {l:List Nat} {c:Nat},(∀j∈l,j<n)->c<n->c∈l->(l.map fun j=>(some (A j),Value.string (j9 F rk j))).lookup (some (A c))=some (.string (j9 F rk c)):=by
 intro l
 induction l with
 | nil=>intro c _ _ h;cases h
 | cons x l ih =>
  intro c hl hc h;rw [dV,gm];by_cases e:x=c
  ·subst e;simp
  ·have hne:(some (A c)==some (A x))=false:=by
    simp only [beq_eq_false_iff_ne,ne_eq,B3]
    exact fun e2=>e (hinj x c (hl x (by simp)) hc e2.symm)
   rw [hne]
   exact ih (fun j hj=>hl j (by simp [hj])) hc (by rcases bA.1 h with h | h;exact absurd h.symm e;exact h)
theorem S2 {F:bW} {rk:Nat->Nat} {A:Nat->Nat} {n:Nat} (hinj:∀i j,i<n->j<n->A i=A j->i=j):∀ {l:List Nat} {c:Nat},(∀j∈l,j<n)->c<n->c∉l->(l.map fun j=>(some (A j),Value.string (j9 F rk j))).lookup (some (A c))=none:=by
 intro l
 induction l with
 | nil=>intro c _ _ _;rfl
 | cons x l ih =>
  intro c hl hc h;rw [dV,gm];have hne:(some (A c)==some (A x))=false:=by simp only [beq_eq_false_iff_ne,ne_eq,B3];exact fun e2=>h (by rw [hinj c x hc (hl x (by simp)) e2];simp)
  rw [hne];exact ih (fun j hj=>hl j (by simp [hj])) hc (fun h2=>h (by simp [h2]))
theorem qz.cell {n base:Nat} {A:Nat->Nat} {kv:Nat->Value} {F:bW} {w a b:World} (h:qz n A kv a b) (hF:cE base n A kv F w) {p:Addr} {v:Value} (hp:w.heap.size<=p.block) (hc:a.cell? p=some v):b.cell? p=some v:=by
 have hl:p.block<a.heap.size:=dL a _ hc;rw [cU (a:=p) (h.block p.block hl (fun i hi e=>by have:=hF.lt hi;omega) (fun i hi e=>by have:=(hF.lF hi e).2;omega))];exact hc
theorem qz.pmap {n base:Nat} {A:Nat->Nat} {kv:Nat->Value} {F:bW} {w a b:World} (h:qz n A kv a b) (hF:cE base n A kv F w) {m:Nat} {l:List (Option Nat×Value)} (hp:w.heap.size<=m) (hc:ou a m l):ou b m l :=
 hc.of_block (h.block m hc.lt (fun i hi e=>by have:=hF.lt hi;omega) (fun i hi e=>by have:=(hF.lF hi e).2;omega))
theorem cE.Ou {base n:Nat} {A:Nat->Nat} {kv:Nat->Value} {F:bW} {w:World} (h:cE base n A kv F w) {i g cap m j c:Nat} (hi:i<n) (hv:kv i=.slice (some ⟨g,0,none⟩) m cap) (hj:(F.kids i)[j]? = some c):w.cell? ⟨g,j,none⟩=some (.pointer (some ⟨A c,0,none⟩)):=by
 have hown:=h.own i hi;rw [hv] at hown;obtain ⟨q,c',e,_,H⟩:=hown.uf.open;injection e with e1;subst e1;have hl:j<(F.kids i).length:=(o8.1 hj).1;obtain ⟨b,off,e,hc⟩:=H j (by simpa using hl);injection e with e;injection e with e1 e2;subst e1;subst e2;rw [je] at hc;rw [hc];simp [List.getD_eq_getElem?_getD,hj,dh]
theorem afY {F:bW} {n:Nat} {rk:Nat->Nat} (h:Wf F n rk) {p:Nat->Bool} {i:Nat} {L:List Nat} (hi:i<n) (hL:∀c∈L,c∈F.kids i) (k:Nat):pK F rk p L k i=p i:=by
 unfold pK;have:((L.take k).any fun c=>dz F rk c i)=false:=by rw [List.any_eq_false];intro c hc;rw [aaT h hi (hL c (CT hc))];simp
 rw [this,Bool.or_false]
theorem vh {n:Nat} {F:bW} {rk:Nat->Nat} {p:Nat->Bool} {L:List Nat} {i:Nat} (hS:Wf F n rk) (hi:i<n) (hL:L=(F.mQ rk p).kids i) (k:Nat):(F.mQ rk (pK F rk p L k)).kids i=L:=by
 have hm:∀c∈L,c∈F.kids i:=fun c hc=>by rw [hL] at hc;exact (F.mB rk p i).mem_iff.1 hc
 show (if pK F rk p L k i then _ else _)=L;rw [afY hS hi hm,hL];rfl
theorem cE.drew {base n:Nat} {A:Nat->Nat} {kv:Nat->Value} {F:bW} {w:World} (h:cE base n A kv F w):cE base n A kv F w.drew:=h.same (fun _ _=>rfl) (fun _ _ _ _=>rfl)
theorem qz.aep {n:Nat} {A:Nat->Nat} {kv:Nat->Value} {a b:World} (h:qz n A kv a.drew b):qz n A kv a b:=⟨h.os,h.tape,h.output,h.size,h.block⟩
theorem TD.step {n base:Nat} {A:Nat->Nat} {kv:Nat->Value} {F:bW} {rk:Nat->Nat} {p:Nat->Bool} {L:List Nat} {w wo w2:World} {bx k c:Nat} (h:TD n base A kv F rk p L w wo w.heap.size bx k) (hF:cE base n A kv (F.mQ rk p) w) (gX:w.heap.size<bx)
  (hc:L[k]? = some c) (fG:c<n) (xm:∀j∈L,j<n) (iF:L.Nodup) (h2:cE base n A kv (F.mQ rk fun j=>pK F rk p L k j || dz F rk c j) w2) (hu:qz n A kv wo w2) :
  w2.cell? ⟨bx,0,none⟩=some (.map (some w.heap.size))/\∃w3,(Instr.mapUpdate 245 (.map (some w.heap.size)) (.pointer (some ⟨A c,0,none⟩)) (.string (j9 F rk c))).run Tryz.prog w2=.ok () w3/\TD n base A kv F rk p L w w3 w.heap.size bx (k+1):=by
 have iM:=hu.cell hF (p:=⟨bx,0,none⟩) (Nat.le_of_lt gX) h.box;have hmap:=hu.pmap hF (ah _) h.map;have hkeys:∀z∈mK F rk A L k,kA w2 z.1:=fun z hz=>by obtain ⟨j,hj,rfl⟩:=bI.1 hz;exact h2.plain (xm j (CT hj))
 have hno:c∉L.take k:=fun hm=>by
  obtain ⟨j,hj,e⟩:=rQ hm;rw [List.getElem_take] at e;have hjk:j<k:=by rw [jl] at hj;omega
  have jt:=(o8.1 hc);obtain ⟨jt,e2⟩:=jt;have:=(List.getElem_inj iF).1 (e.trans e2.symm);omega
 obtain ⟨w3,hr,hm3,hs3,EM,ht3,ajb,hb3⟩:=Pe (P:=Tryz.prog) Tryz.underlying245 Tryz.underlying119 Tryz.yQ hmap (k:=some (A c)) (.string (j9 F rk c)) (h2.plain fG) hkeys (S2 hF.inj (fun j hj=>xm j (CT hj)) fG hno);refine ⟨iM,w3,hr,?_,?_,?_,?_⟩
 ·have h3:cE base n A kv (F.mQ rk fun j=>pK F rk p L k j || dz F rk c j) w3:=h2.same (fun j hj=>hb3 _ (by have:=hF.lt hj;omega)) (fun j b hj hb=>hb3 _ (by have:=(hF.lF hj hb).2;omega))
  exact h3.Mm fun j _=>aen F rk p L hc j
 ·rw [aeo F rk A L hc];exact hm3
 ·rw [cU (a:=⟨bx,0,none⟩) (hb3 bx (by omega))];exact iM
 ·have hk:=h.up.trans hu
  exact ⟨EM.trans hk.os,ht3.trans hk.tape,ajb.trans hk.output,aB hk.size (fD hs3.symm),fun b hb h4 h5=>(hb3 b (by omega)).trans (hk.block b hb h4 h5)⟩
theorem DO {n base:Nat} {A:Nat->Nat} {kv:Nat->Value} {F:bW} {rk:Nat->Nat} (hS:Hz F n rk) {i:Nat} {p:Nat->Bool} {w:World} (hi:i<n) (hF:cE base n A kv (F.mQ rk p) w) (h0:F.kids i=[]) :
  Calls Tryz.prog 184 #[.pointer (some ⟨A i,0,none⟩)] w (XQ n base A kv F rk p i w):=by
 have kB:=F.mB rk p i;have hL:(F.mQ rk p).kids i=[]:=List.perm_nil.1 (by rw [h0] at kB;exact kB);have hown:=hF.own i hi;rw [hL] at hown;obtain ⟨q,cap,hv,_⟩:=hown.form (n:=0) rfl;have hkc:=hF.yM hi;have hnc:w.cell? ⟨A i,0,none⟩=some (.string (F.nm i)):=hF.name hi;rw [hv] at hkc;have HL:Hid (j9 F rk i=F.nm i):=by unfold Hid;rw [yP hS.wf hi,h0];simp [eU]
 have EH:Hid (cE base n A kv (F.mQ rk fun j=>p j || dz F rk i j) w):=hF.congr fun j hj=>by
  refine ⟨rfl,rfl,?_⟩;by_cases e:j=i
  ·subst e;rw [hL];show (if _ then _ else _)=_;rw [h0];split<;>simp [eU]
  ·show (if _ then _ else _)=(if _ then _ else _)
   (have:dz F rk i j=false:=by rw [l5 hS.wf hi,h0];simpa using e);simp only [this,Bool.or_false]
 clear hF hS kB hL hown hv h0;generalize hap:A i=ai at *;generalize F.nm i=nm at *;clear hap;go_in;go_wp2;go_ret;exact ⟨by rw [HL.out];rfl,EH.out,qz.refl _ _ _ _⟩
theorem aaU {n base:Nat} {A:Nat->Nat} {kv:Nat->Value} {F:bW} {rk:Nat->Nat} (hS:Hz F n rk):∀(d i:Nat) (p:Nat->Bool) (w:World),i<n->rk i<=d->cE base n A kv (F.mQ rk p) w ->
  Calls Tryz.prog 184 #[.pointer (some ⟨A i,0,none⟩)] w (XQ n base A kv F rk p i w):=by
 intro d
 induction d with
 | zero =>
  intro i p w hi Jy hF;refine DO hS hi hF ?_;cases hk:F.kids i with
  | nil=>rfl
  | cons k l=>have:=(hS.wf.kid i hi k (by rw [hk];simp)).2;omega
 | succ d ih =>
  intro i p w hi Jy hF;by_cases h0:F.kids i=[]
  ·exact DO hS hi hF h0
  ·obtain ⟨L,Cb⟩:∃L,L=(F.mQ rk p).kids i:=⟨_,rfl⟩
   (have kB:L.Perm (F.kids i):=by rw [Cb];exact F.mB rk p i);have hlen:L.length=(F.kids i).length:=kB.length_eq;have jC:=hS.len i hi;(have Mo:0<L.length:=by rw [hlen];exact z7.2 h0);have hown:=hF.own i hi;rw [<- Cb] at hown;obtain ⟨q,cap,hv,hq⟩:=hown.form (n:=L.length) (by simp);obtain ⟨g,rfl⟩:∃g,q=some ⟨g,0,none⟩:=by
    rcases hq with rfl | h
    ·obtain ⟨_,h | ⟨g,_,_,h,_⟩⟩:=hown
     ·have:=h.2;rw [aD] at this;omega
     ·rw [hv] at h;cases h
    ·exact h
   have hkc:=hF.yM hi;rw [hv] at hkc;have hsz:=hF.lt hi;have xm:∀c∈L,c<n/\rk c<rk i:=fun c hc=>hS.wf.kid i hi c (kB.mem_iff.1 hc);have HW:Hid (TD n base A kv F rk p L w ((w.alloc (.map #[] 0)).alloc (.cells #[.map (some w.heap.size)] 245)) w.heap.size (w.heap.size+1) 0):=by
    have hu:Up w ((w.alloc (.map #[] 0)).alloc (.cells #[.map (some w.heap.size)] 245)):=(Up.alloc _ _).trans (Up.alloc _ _);refine ⟨(hF.up hu).Mm fun j _=>by simp [pK],⟨#[],0,?_,rfl⟩,?_,qz.F7 hu⟩
    ·rw [blk_alloc_lt _ _ _ (by simp)];exact blk_alloc_new _ _
    ·have h:=aS (w.alloc (.map #[] 0)) #[.map (some w.heap.size)] 245 0
     rw [aQ] at h;exact h
   have kH:=aa xm;have GA:=aa kB;have HLEN:=aa hlen;have HF:=aa hF;have HV:=aa hv;have Al:=aa hkc;have dG:=aa Cb;have oO:=aa ih;have HS:=aa hS;(have hl2:L.length<=1000:=by omega);have hmm:=run_makeMap (P:=Tryz.prog) 245 w;have d1:((L.length:Int)==0)=false:=beq_eq_false_iff_ne.2 (by omega);clear hown hq hS ih hF xm kB hlen hv h0 Cb jC;go_in;go_wp2_with fail;generalize (w.alloc (.map #[] 0)).alloc (.cells #[.map (some w.heap.size)] 245)=w1 at *
   go_loopw [22] (fun i wr=>∃k:Nat,k<=L.length/\i=.int .i64 k/\Hid (TD n base A kv F rk p L w wr w.heap.size (w.heap.size+1) k)) (fun i _=>L.length - (intOf i).toNat)
   case atStart=>exact ⟨0,aF _,rfl,HW⟩
   case round =>
    obtain ⟨k,hk,rfl,hO⟩:=hrel;obtain ⟨wo,rfl⟩:=eM wr;by_cases hlt:k<L.length
    ·have hc:L[k]? = some L[k]:=kQ hlt
     have iM:=hO.out.box;have fG:=kH.out L[k] (jy hlt);have hrow:=hO.out.fr.Ou (j:=k) (c:=L[k]) hi HV.out (by rw [vh HS.out.wf hi dG.out k];exact hc);have gQ:=aa (oO.out L[k] (pK F rk p L k) wo.drew fG.1 (by omega) hO.out.fr.drew);have aiq:Hid (∀w2,cE base n A kv (F.mQ rk fun j=>pK F rk p L k j || dz F rk L[k] j) w2->qz n A kv wo.drew w2->w2.cell? ⟨w.heap.size+1,0,none⟩=some (.map (some w.heap.size))/\∃w3,(Instr.mapUpdate 245 (.map (some w.heap.size)) (.pointer (some ⟨A L[k],0,none⟩)) (.string (j9 F rk L[k]))).run Tryz.prog w2=.ok () w3/\TD n base A kv F rk p L w w3 w.heap.size (w.heap.size+1) (k+1)) :=
      fun w2 h2 hu=>hO.out.step HF.out (wu _) hc fG.1 (fun j hj=>(kH.out j hj).1) (GA.out.symm.nodup_iff.1 (HS.out.nodup i hi)) h2 hu.aep
     clear hc fG;generalize L[k]=c at *;go_wp2_with fail;refine fR (by kernel_rfl) 5 (fun w'=>w'.cell? ⟨w.heap.size+1,0,none⟩=some (.map (some w.heap.size))) iM (fun hS=>?_);simp only [dY,aW,dw,Nat.reduceAdd,iu,iw,dX,di,cm];refine az.xk 0 1 hS ?_;(try simp only [Act.put,aL,aM,aN]);refine az.tk 2 hS ?_;(try simp only [Act.put,aL,aM,aN]);refine az.st 3 fun K' hK=>?_;go_simp;refine gQ.out.mono ?_;rintro e w2 ⟨rfl,hF2,mC⟩;obtain ⟨afZ,w3,hrun,hW3⟩:=aiq.out w2 hF2 mC;have HW3:=aa hW3;clear hF2 mC hW3;refine hK.out _ _ (fun _=>afZ) (fun hS=>?_);replace hS:=hS ⟨4,by decide,rfl⟩;(try simp only [aL,aM,aN]);refine az.st 4 fun K' hK=>?_;go_simp;refine hK.out _ _ (bF ·) (fun hS=>?_);refine az.done (by kernel_rfl) ?_;go_wp2
     go_roundw
     case rel=>exact ⟨k+1,by omega,by go_num,HW3⟩
     case measure=>simp [intOf];omega
    ·obtain rfl:k=L.length:=by omega
     have hkc:=hO.out.fr.yM hi;rw [HV.out] at hkc
     have JA:=aa (S1 hO.out.fr (i:=i) (g:=g) (cap:=cap) (f:=j9 F rk) (bx:=w.heap.size+1) (m0:=w.heap.size) (l:=mK F rk A L L.length) hi (by rw [vh HS.out.wf hi dG.out];exact HV.out) (by rw [vh HS.out.wf hi dG.out];intro h;rw [h] at Mo;exact Nat.lt_irrefl _ Mo) (by rw [vh HS.out.wf hi dG.out];omega)
      (by rw [vh HS.out.wf hi dG.out];exact fun x hx y hy=>HS.out.sep i hi x (GA.out.mem_iff.1 hx) y (GA.out.mem_iff.1 hy)) hO.out.box hO.out.map (fun e=>by have:=(HF.out.lF hi (b:=g) (by rw [HV.out];rfl)).2;omega) (fun e=>by have:=(HF.out.lF hi (b:=g) (by rw [HV.out];rfl)).2;omega)
      (by rw [vh HS.out.wf hi dG.out];intro c hc;unfold mK;rw [fT];exact Mn HF.out.inj (fun j hj=>(kH.out j hj).1) (kH.out c hc).1 hc)
      (fun z hz=>by
       obtain ⟨j,hj,rfl⟩:=bI.1 hz
       exact ⟨j,(kH.out j (CT hj)).1,rfl⟩))
     rw [vh HS.out.wf hi dG.out,HV.out] at JA;go_wp2_with fail;refine JA.out.mono ?_;rintro e w2 ⟨rfl,hF2,mC⟩;obtain ⟨k1,l1,hs1⟩:∃k1 l1,eU (j9 F rk) L=k1::l1:=by
      cases hs:eU (j9 F rk) L with
      | nil=>have h1:=(ic (j9 F rk) L).length_eq;rw [hs] at h1;simp at h1;omega
      | cons k l=>exact ⟨k,l,rfl⟩
     have hk1:k1∈L:=(ic (j9 F rk) L).mem_iff.1 (by rw [hs1];simp);have hrow2:w2.cell? ⟨g,0,none⟩=some (.pointer (some ⟨A k1,0,none⟩)):=hF2.Ou (i:=i) (j:=0) (c:=k1) hi HV.out (by show (upd _ i _ i)[0]? = _;rw [upd_same,hs1];rfl);have ajc:=hF2.yM hi;rw [HV.out] at ajc;have afZ:=mC.cell HF.out (p:=⟨w.heap.size+1,0,none⟩) (oh _) hO.out.box;have af0:=mC.pmap HF.out (ah _) hO.out.map;have hlk:∀q,(Instr.lookup 245 (.map (some w.heap.size)) (.pointer (some ⟨A k1,0,none⟩)) false).run Tryz.prog (w2.drewN q)=.ok (.string (j9 F rk k1)) (w2.drewN q):=fun q =>
      C7 (P:=Tryz.prog) (w:=w2.drewN q) Tryz.underlying245 Tryz.underlying119 Tryz.yQ af0 (k:=some (A k1)) (hF2.plain (kH.out k1 hk1).1) (fun z hz=>by
       obtain ⟨j,hj,rfl⟩:=bI.1 hz
       exact hF2.plain (kH.out j (CT hj)).1) (by unfold mK;rw [fT];exact Mn HF.out.inj (fun j hj=>(kH.out j hj).1) (kH.out k1 hk1).1 hk1)
     have uT:Hid (j9 F rk i=j9 F rk k1):=by unfold Hid;rw [yP HS.out.wf hi,<- DN GA.out (fun x hx y hy=>HS.out.sep i hi x (GA.out.mem_iff.1 hx) y (GA.out.mem_iff.1 hy)),hs1]
     have EH:Hid (cE base n A kv (F.mQ rk fun j=>p j || dz F rk i j) w2):=hF2.congr fun j hj=>by
      refine ⟨rfl,rfl,?_⟩;show (if (p j || dz F rk i j) then _ else _)=upd _ i _ j;by_cases e:j=i
      ·subst e
       rw [upd_same,if_pos (by rw [l5 HS.out.wf hi];simp)];exact (DN GA.out (fun x hx y hy=>HS.out.sep j hi x (GA.out.mem_iff.1 hx) y (GA.out.mem_iff.1 hy))).symm
      ·rw [upd_ne _ _ e]
       (have:pK F rk p L L.length j=(p j || dz F rk i j):=by unfold pK;rw [fT,l5 HS.out.wf hi];(have e2:(j==i)=false:=by simpa using e);rw [e2,Bool.false_or,GA.out.any_eq]);(show _=if pK F rk p L L.length j then _ else _);rw [this]
     have EO:=aa (hO.out.up.trans mC);(have i0:(0:Int)<(L.length:Int):=by omega);clear hF2 mC hs1 hk1 af0 JA hO;go_wp2;(go_quiet (fail));go_wp2;go_ret;exact ⟨by rw [uT.out];rfl,EH.out.same (fun _ _=>rfl) (fun _ _ _ _=>rfl),⟨EO.out.os,EO.out.tape,EO.out.output,EO.out.size,EO.out.block⟩⟩
end
section
open Go.RowKit Go.Shelf Go.Deep
attribute [local go_sem] yB
def C9 (F:bW):Nat->Nat->Option Nat->List (Nat×Option Nat)
 | 0,i,p=>[(i,p)]
 | d+1,i,p=>(i,p)::(F.kids i).flatMap fun k=>C9 F d k (some i)
def gT (F:bW) (rk:Nat->Nat) (i:Nat) (p:Option Nat):List (Nat×Option Nat):=C9 F (rk i) i p
theorem jV {α β:Type} {f g:α->List β}:∀ {l:List α},(∀x∈l,f x=g x)->l.flatMap f=l.flatMap g
 | [],_=>rfl
 | x::l,h=>by rw [gj,gj,h x (by simp),jV fun y hy=>h y (by simp [hy])]
theorem Mp {F:bW} {n:Nat} {rk:Nat->Nat} (h:Wf F n rk):∀ {d e i:Nat} {p:Option Nat},i<n->rk i<=d->rk i<=e->C9 F d i p=C9 F e i p:=by
 intro d
 induction d with
 | zero =>
  intro e i p hi hd he;have hk:F.kids i=[]:=by
   cases hk:F.kids i with
   | nil=>rfl
   | cons k l=>have:=(h.kid i hi k (by rw [hk];simp)).2;omega
  cases e with
  | zero=>rfl
  | succ e=>simp [C9,hk]
 | succ d ih =>
  intro e i p hi hd he;cases e with
  | zero =>
   have hk:F.kids i=[]:=by
    cases hk:F.kids i with
    | nil=>rfl
    | cons k l=>have:=(h.kid i hi k (by rw [hk];simp)).2;omega
   simp [C9,hk]
  | succ e =>
   simp only [C9];congr 1;exact jV fun k hk=>by have:=h.kid i hi k hk;exact ih this.1 (by omega) (by omega)
theorem kS {F:bW} {n:Nat} {rk:Nat->Nat} (h:Wf F n rk) {i:Nat} (hi:i<n) (p:Option Nat):gT F rk i p=(i,p)::(F.kids i).flatMap fun k=>gT F rk k (some i):=by
 have h1:gT F rk i p=C9 F (rk i+1) i p:=Mp h hi (ah _) (oh _);rw [h1];simp only [C9];congr 1;exact jV fun k hk=>by have:=h.kid i hi k hk;exact Mp h this.1 (by omega) (ah _)
abbrev r9 (n:Nat):={ x:Nat×Option Nat // x.1<n/\∀p,x.2=some p->p<n }
def dN {n:Nat} (l:List (r9 n)):List (Nat×Option Nat):=l.map Subtype.val
theorem Cc {n:Nat} (l m:List (r9 n)):dN (l++m)=dN l++dN m:=by simp [dN]
def KX (A:Nat->Nat):Option Nat->Value
 | none=>.pointer none
 | some p=>.pointer (some ⟨A p,0,none⟩)
def KY (A:Nat->Nat) {n:Nat} (x:r9 n):Array Value:=#[.pointer (some ⟨A x.1.1,0,none⟩),KX A x.1.2]
def KN (T:Nat->Prop) (w w':World):Prop:=KS T w w'/\∀(b:Nat) (c:Array Value) (z:Nat×Nat),w.heap[b]? = some (Obj.cells c 258 z)->w'.heap[b]? = w.heap[b]?
theorem KN.trans {T:Nat->Prop} {a b c:World} (h:KN T a b) (k:KN T b c):KN T a c:=⟨h.1.trans k.1,fun i x z hi=>(k.2 i x z ((h.2 i x z hi).trans hi)).trans (h.2 i x z hi)⟩
def um (w:World) (b:Nat) (v:Value):Prop:=w.heap[b]? = some (Obj.cells #[v] 258 (0,0))
theorem um.keep {T:Nat->Prop} {w w':World} {b:Nat} {v:Value} (h:um w b v) (k:KN T w w'):um w' b v:=(k.2 b _ _ h).trans h
theorem um.cell {w:World} {b:Nat} {v:Value} (h:um w b v):w.cell? ⟨b,0,none⟩=some v:=by
 have h:w.heap[b]? = _:=h;simp [World.cell?,h]
theorem cE.af1 {base n:Nat} {A:Nat->Nat} {kv:Nat->Value} {F:bW} {T:Nat->Prop} {w w':World} (h:cE base n A kv F w) (k:KN T w w') (hA:∀i,i<n->T (A i)) (hk:∀i b,i<n->(kv i).ownBlock=some b->T b):cE base n A kv F w' :=
 h.same (fun i hi=>k.1 _ (hA i hi)) (fun i b hi hb=>k.1 b (hk i b hi hb))
section
variable {n base:Nat} {A:Nat->Nat} {kv:Nat->Value} {F:bW} {rk:Nat->Nat} {T:Nat->Prop}
def aaV (T:Nat->Prop) (J Jx:List (r9 n)->World->Prop) (pre:List (r9 n)) (full:List (Nat×Option Nat)) (W:World) (e:Ending) (W':World):Prop :=
 (e=.returned (.bool true)/\∃xs,dN xs=full/\J (pre++xs) W'/\KN T W W')\/(e=.returned (.bool false)/\∃q,dN q <+: full/\Jx (pre++q) W')
theorem Oj {α β:Type} (f:α->List β) (l:List α) {k:Nat} {c:α} (h:l[k]? = some c):((l.take k).flatMap f).length+(f c).length<=(l.flatMap f).length:=by
 have h1:l=l.take (k+1)++l.drop (k+1):=(BV _ _).symm;have h2:(l.flatMap f).length=((l.take (k+1)).flatMap f).length+((l.drop (k+1)).flatMap f).length:=by
  conv=>lhs;rw [h1]
  rw [qq,bg]
 rw [h2,BU,h,qq,bg];simp
theorem Mq {α β:Type} (f:α->List β) (l:List α) {k:Nat} {c:α} (h:l[k]? = some c):(l.take (k+1)).flatMap f=(l.take k).flatMap f++f c:=by
 rw [BU,h,qq];simp
theorem Ia {α β:Type} (f:α->List β) (l:List α) {k:Nat} {c:α} (h:l[k]? = some c) {q:List β} (hq:q <+: f c):(l.take k).flatMap f++q <+: l.flatMap f:=by
 have h1:l=l.take (k+1)++l.drop (k+1):=(BV _ _).symm;have h2:l.flatMap f=(l.take (k+1)).flatMap f++(l.drop (k+1)).flatMap f:=by
  conv=>lhs;rw [h1]
  rw [qq]
 rw [h2,Mq f l h,dS];exact (List.prefix_append_right_inj _).2 (hq.trans (List.prefix_append _ _))
theorem Da {e:Ending} {X Y:Prop} (h:(e=.returned (.bool true)/\X)\/(e=.returned (.bool false)/\Y)):∃bb,e=.returned (.bool bb)/\Hid ((bb=true/\X)\/(bb=false/\Y)):=by
 rcases h with ⟨h1,h2⟩ | ⟨h1,h2⟩
 ·exact ⟨true,h1,.inl ⟨rfl,h2⟩⟩
 ·exact ⟨false,h1,.inr ⟨rfl,h2⟩⟩
def Pm (n base:Nat) (A:Nat->Nat) (kv:Nat->Value) (F:bW) (rk:Nat->Nat) (T:Nat->Prop) (l Bq Be N:Nat) (J Jx:List (r9 n)->World->Prop) (i:Nat):Prop :=
 ∀(par:Option Nat) (m:Nat) (pre:List (r9 n)) (W:World),(∀p,par=some p->p<n)->cE base n A kv F W->um W Bq (.func (.yield l) #[] #[])->um W Be (.func (.func 260) #[] #[.pointer (some ⟨Bq,0,none⟩),.pointer (some ⟨Be,0,none⟩)]) ->
   J pre W->pre.length+(gT F rk i par).length<=N ->
   CallsIn Fence.wide m Tryz.prog 260 #[.pointer (some ⟨A i,0,none⟩),KX A par,.pointer (some ⟨Bq,0,none⟩),.pointer (some ⟨Be,0,none⟩)] W (aaV T J Jx pre (gT F rk i par) W)
theorem Mr (hwf:Wf F n rk) (hlen:∀i,i<n->(F.kids i).length<=1000) (hA:∀i,i<n->T (A i)) (hk:∀i b,i<n->(kv i).ownBlock=some b->T b) (l Bq Be N:Nat) (J Jx:List (r9 n)->World->Prop)
  (hY:∀m pre x W,J pre W->pre.length<N->YieldAt Fence.wide m Tryz.prog l (KY A x) W fun e W'=>(e=.returned (.bool true)/\J (pre++[x]) W'/\KN T W W')\/(e=.returned (.bool false)/\Jx (pre++[x]) W'))
  {i:Nat} (hi:i<n) (ih:∀c∈F.kids i,Pm n base A kv F rk T l Bq Be N J Jx c):Pm n base A kv F rk T l Bq Be N J Jx i:=by
 intro par m pre W hpar hF hq he hJ hN;obtain ⟨fn,tmps,assign,body,hy,hR⟩:=hY (m - 1) pre ⟨(i,par),hi,hpar⟩ W hJ (by rw [kS hwf hi] at hN;simp at hN;omega);simp only [KY] at hy;have hqc:=hq.cell;have HQ:=aa hq;have HE:=aa he;have HF:=aa hF;have HN:=aa hN;have oO:=aa ih;have Pn:=aa hwf;have uQ:=hlen i hi;have adI:Hid (∀W',KN T W W'->cE base n A kv F W'):=fun W' k=>hF.af1 k hA hk;clear hJ hq he hF hN ih hwf hlen hA hk;refine callsIn_of_wp Tryz.func260 rfl trivial ?_ rfl;simp only [Tryz.ntmps260,dY,aW,dw,Nat.reduceAdd,Nat.reduceSub,iu,iw,dX,s9,di,cm];gi_wp2;refine ⟨fun h=>(by cases h),?_⟩;refine hR.mono ?_;rintro e W1 gH;obtain ⟨bb,rfl,hq⟩:=Da gH;clear gH hR;cases bb
 ·gi_wp2
  go_ret;have h2:Jx (pre++[⟨(i,par),hi,hpar⟩]) W1:=by
   rcases hq.out with ⟨h1,_⟩ | ⟨_,h2⟩
   ·cases h1
   ·exact h2
  exact .inr ⟨rfl,[⟨(i,par),hi,hpar⟩],⟨_,by rw [kS Pn.out hi];rfl⟩,h2⟩
 ·have j8:J (pre++[⟨(i,par),hi,hpar⟩]) W1/\KN T W W1:=by
   rcases hq.out with ⟨_,h2⟩ | ⟨h1,_⟩
   ·exact h2
   ·cases h1
  obtain ⟨hJ1,hk1⟩:=j8
  have Ms:=adI.out W1 hk1
  have hown:=Ms.own i hi
  obtain ⟨q,cap,hv,hqq⟩:=hown.form (n:=(F.kids i).length) (by simp)
  have hkc:=Ms.yM hi
  rw [hv] at hkc
  have HV:=aa hv
  have HQQ:=aa hqq
  have Hy:Hid ((F.kids i).length=0\/∃g,q=some ⟨g,0,none⟩):=by
   rcases hqq with rfl | h
   ·obtain ⟨_,h | ⟨g,_,_,h,_⟩⟩:=hown
    ·left;have:=h.2;rw [aD] at this;exact this
    ·rw [hv] at h;cases h
   ·exact .inr h
  have HJ1:=aa hJ1
  have EP:=aa hk1
  clear hqc hq Ms hown hv hqq hJ1 hk1
  gi_wp2
  gi_loopw [19] (fun i' wr=>∃(k:Nat) (done:List (r9 n)),k<=(F.kids i).length/\i'=.int .i64 k/\Hid (dN done=((F.kids i).take k).flatMap fun c=>gT F rk c (some i))/\Hid (J (pre++[⟨(i,par),hi,hpar⟩]++done) wr)/\Hid (KN T W wr)) (fun i' _=>(F.kids i).length - (intOf i').toNat)
  case atStart=>exact ⟨0,[],aF _,rfl,rfl,by unfold Hid;rw [eG];exact HJ1.out,EP⟩
  case round =>
   obtain ⟨k,done,hk,rfl,hD,hJr,hKr⟩:=hrel
   by_cases hlt:k<(F.kids i).length
   ·obtain ⟨g,rfl⟩:∃g,q=some ⟨g,0,none⟩:=by
     rcases Hy.out with h | h
     ·omega
     ·exact h
    have hc:(F.kids i)[k]? = some (F.kids i)[k]:=kQ hlt
    have hFr:=adI.out wr hKr.out
    have hrow:=hFr.Ou (j:=k) (c:=(F.kids i)[k]) hi HV.out hc
    have heb:=(HE.out.keep hKr.out).cell
    have hdl:done.length=(((F.kids i).take k).flatMap fun c=>gT F rk c (some i)).length:=by rw [<- hD.out];simp [dN]
    have vT:=oO.out (F.kids i)[k] (jy hlt) (some i) (m - 1) (pre++[⟨(i,par),hi,hpar⟩]++done) wr (fun p hp=>by cases hp;exact hi) hFr (HQ.out.keep hKr.out) (HE.out.keep hKr.out) hJr.out (by
     have h1:=Oj (fun c=>gT F rk c (some i)) (F.kids i) hc
     have h2:=HN.out
     rw [kS Pn.out hi] at h2
     simp only [bg,aW,dw] at h2 ⊢
     omega)
    simp only [KX] at vT
    have gQ:=aa vT
    have HC:=aa hc
    have fG:Hid ((F.kids i)[k]<n):=(Pn.out.kid i hi _ (jy hlt)).1
    clear hc hFr vT hdl
    generalize (F.kids i)[k]=c at *
    gi_wp2
    refine ⟨trivial,fun h=>(by cases h),?_⟩
    refine gQ.out.mono ?_
    rintro e W3 gH
    obtain ⟨bb,rfl,hq⟩:=Da gH
    clear gH gQ
    cases bb
    ·gi_wp2
     go_ret
     obtain ⟨qs,hqs,hx⟩:∃qs,dN qs <+: gT F rk c (some i)/\Jx (pre++[⟨(i,par),hi,hpar⟩]++done++qs) W3:=by
      rcases hq.out with ⟨h1,_⟩ | ⟨_,h2⟩
      ·cases h1
      ·exact h2
     refine .inr ⟨rfl,⟨(i,par),hi,hpar⟩::(done++qs),?_,by simpa using hx⟩
     rw [kS Pn.out hi,show dN (⟨(i,par),hi,hpar⟩::(done++qs))=(i,par)::dN (done++qs) from rfl,Cc,hD.out]
     exact (List.prefix_cons_inj _).2 (Ia _ _ HC.out hqs)
    ·obtain ⟨xs,hxs,hJ3,hK3⟩:∃xs,dN xs=gT F rk c (some i)/\J (pre++[⟨(i,par),hi,hpar⟩]++done++xs) W3/\KN T wr W3:=by
      rcases hq.out with ⟨_,h2⟩ | ⟨h1,_⟩
      ·exact h2
      ·cases h1
     have HJ3:Hid (J (pre++[⟨(i,par),hi,hpar⟩]++(done++xs)) W3):=by unfold Hid;rw [<- dS];exact hJ3
     have HD3:Hid (dN (done++xs)=((F.kids i).take (k+1)).flatMap fun c=>gT F rk c (some i)):=by unfold Hid;rw [Cc,hD.out,hxs,Mq _ _ HC.out]
     have JB:Hid (KN T W W3):=hKr.out.trans hK3
     clear hq hxs hJ3 hK3
     gi_wp2
     go_roundw
     case rel=>exact ⟨k+1,done++xs,by omega,by go_num,HD3,HJ3,JB⟩
     case measure=>simp [intOf];omega
   ·gi_wp2
    go_ret
    obtain rfl:k=(F.kids i).length:=by omega
    refine .inl ⟨rfl,⟨(i,par),hi,hpar⟩::done,?_,by simpa using hJr.out,hKr.out⟩
    rw [kS Pn.out hi,show dN (⟨(i,par),hi,hpar⟩::done)=(i,par)::dN done from rfl,hD.out,fT]
theorem aeq (hwf:Wf F n rk) (hlen:∀i,i<n->(F.kids i).length<=1000) (hA:∀i,i<n->T (A i)) (hk:∀i b,i<n->(kv i).ownBlock=some b->T b) (l Bq Be N:Nat) (J Jx:List (r9 n)->World->Prop)
  (hY:∀m pre x W,J pre W->pre.length<N->YieldAt Fence.wide m Tryz.prog l (KY A x) W fun e W'=>(e=.returned (.bool true)/\J (pre++[x]) W'/\KN T W W')\/(e=.returned (.bool false)/\Jx (pre++[x]) W')) :
  ∀(d i:Nat),i<n->rk i<=d->Pm n base A kv F rk T l Bq Be N J Jx i:=by
 intro d
 induction d with
 | zero=>exact fun i hi Jy=>Mr hwf hlen hA hk l Bq Be N J Jx hY hi fun c hc=>absurd (hwf.kid i hi c hc).2 (by omega)
 | succ d ih=>exact fun i hi Jy=>Mr hwf hlen hA hk l Bq Be N J Jx hY hi fun c hc=>ih c (hwf.kid i hi c hc).1 (by have:=(hwf.kid i hi c hc).2;omega)
theorem Po {F:Fence} (hd:F.depth=none) (k:Nat):F.room k:=fun d h=>by rw [hd] at h;cases h
theorem YieldAt.Pp {F:Fence} (hd:F.depth=none) {m:Nat} (m':Nat) {P:Program} {l:Nat} {args:Array Value} {W:World} {R:Ending->World->Prop} (h:YieldAt F m P l args W R):YieldAt F m' P l args W R:=by
 obtain ⟨fn,tmps,assign,body,hy,hR⟩:=h;exact ⟨fn,tmps,assign,body,hy,hR.1,fun c cs _=>hR.2 c cs (Po hd _)⟩
theorem XR (hwf:Wf F n rk) (hlen:∀i,i<n->(F.kids i).length<=1000) (hA:∀i,i<n->T (A i)) (hk:∀i b,i<n->(kv i).ownBlock=some b->T b) (m l Bx i:Nat) (hi:i<n) (J Jx:List (r9 n)->World->Prop)
  (hY:∀pre x W,J pre W->pre.length<(gT F rk i none).length->YieldAt Fence.wide (m - 1) Tryz.prog l (KY A x) W fun e W'=>(e=.returned (.bool true)/\J (pre++[x]) W'/\KN T W W')\/(e=.returned (.bool false)/\Jx (pre++[x]) W'))
  (W:World) (Ma:AbidesFrom W.heap.size J) (hF:cE base n A kv F W) (hx:W.cell? ⟨Bx,0,none⟩=some (.pointer (some ⟨A i,0,none⟩))) (hJ:J [] W) :
  CallsIn Fence.wide m Tryz.prog 259 #[.func (.yield l) #[] #[],.pointer (some ⟨Bx,0,none⟩)] W fun e W'=>(∃v,e=.returned v) /\
   ((∃xs,dN xs=gT F rk i none/\J xs W')\/(∃q,dN q <+: gT F rk i none/\Jx q W')):=by
 have aI:Up W ((W.alloc (.cells #[.func (.yield l) #[] #[]] 258)).alloc (.cells #[.nilFunc] 258)):=(Up.alloc _ _).trans (Up.alloc _ _);have hnew:=blk_alloc_new (W.alloc (.cells #[.func (.yield l) #[] #[]] 258)) (.cells #[.nilFunc] 258);rw [aQ] at hnew;have j8:((W.alloc (.cells #[.func (.yield l) #[] #[]] 258)).alloc (.cells #[.nilFunc] 258)).heap[W.heap.size]? = some (.cells #[.func (.yield l) #[] #[]] 258 (0,0)):=by rw [blk_alloc_lt _ _ _ (by simp)];exact blk_alloc_new _ _
 have hxc:=aI.cell hx;generalize hW2:(W.alloc (.cells #[.func (.yield l) #[] #[]] 258)).alloc (.cells #[.nilFunc] 258)=W2 at *;have fG:W2.cell? ⟨W.heap.size+1,0,none⟩=some .nilFunc:=by simp [World.cell?,hnew]
 have hfn:W2.frozen? ⟨W.heap.size+1,0,none⟩=false:=by simp [World.frozen?,hnew]
 have cR:Up W (W2.setCell ⟨W.heap.size+1,0,none⟩ (.func (.func 260) #[] #[.pointer (some ⟨W.heap.size,0,none⟩),.pointer (some ⟨W.heap.size+1,0,none⟩)])):=Below.setCell aI (p:=⟨W.heap.size+1,0,none⟩) (oh _) _;have hJ2:=Ma [] W _ none hJ (⟨cR.os,cR.tape,cR.output,cR.size,fun j hj _=>bH cR j hj⟩:W.grownBy _ none) (fun r e=>by cases e);have hq:um (W2.setCell ⟨W.heap.size+1,0,none⟩ (.func (.func 260) #[] #[.pointer (some ⟨W.heap.size,0,none⟩),.pointer (some ⟨W.heap.size+1,0,none⟩)])) W.heap.size (.func (.yield l) #[] #[]):=by unfold um;rw [blk_setCell_other _ _ _ _ (by show W.heap.size≠W.heap.size+1;omega)];exact j8
 have he:um (W2.setCell ⟨W.heap.size+1,0,none⟩ (.func (.func 260) #[] #[.pointer (some ⟨W.heap.size,0,none⟩),.pointer (some ⟨W.heap.size+1,0,none⟩)])) (W.heap.size+1) (.func (.func 260) #[] #[.pointer (some ⟨W.heap.size,0,none⟩),.pointer (some ⟨W.heap.size+1,0,none⟩)]):=by unfold um;simp [World.setCell,Array.getElem?_modify,hnew]
 have vT:=aeq (base:=base) (A:=A) (kv:=kv) (T:=T) hwf hlen hA hk l W.heap.size (W.heap.size+1) (gT F rk i none).length J Jx (fun m' pre x W' h1 h2=>YieldAt.Pp rfl m' (hY pre x W' h1 h2)) (rk i) i hi (ah _) none (m - 1) [] _ (fun p hp=>by cases hp) (hF.up cR) hq he hJ2 (by simp);simp only [KX] at vT;have hec:=he.cell;have alI:(W2.setCell ⟨W.heap.size+1,0,none⟩ (.func (.func 260) #[] #[.pointer (some ⟨W.heap.size,0,none⟩),.pointer (some ⟨W.heap.size+1,0,none⟩)])).cell? ⟨Bx,0,none⟩=some (.pointer (some ⟨A i,0,none⟩)):=cR.cell hx;have gQ:=aa vT;clear vT hJ2 hq he Ma hF hJ cR aI hY hnew j8;refine callsIn_of_wp Tryz.func259 rfl trivial ?_ rfl;simp only [Tryz.ntmps259,dY,aW,dw,Nat.reduceAdd,Nat.reduceSub,iu,iw,dX,s9,di,cm];gi_wp2;refine ⟨trivial,fun h=>(by cases h),?_⟩;refine gQ.out.mono ?_;rintro e W3 gH;obtain ⟨bb,rfl,hq⟩:=Da gH;gi_wp2
 go_end0
 refine ⟨⟨_,rfl⟩,?_⟩;rcases hq.out with ⟨_,xs,h1,h2,_⟩ | ⟨_,q,h1,h2⟩
 ·exact .inl ⟨xs,h1,by simpa using h2⟩
 ·exact .inr ⟨q,h1,by simpa using h2⟩
theorem aer (w:World) (p:Option Addr):Calls Tryz.prog 216 #[.pointer p] w fun e w'=>e=.returned (.func (.func 259) #[] #[.pointer (some ⟨w.heap.size,0,none⟩)])/\w'=w.alloc (.cells #[.pointer p] 119):=by
 go_in;go_wp2;go_ret;exact ⟨rfl,rfl⟩
theorem S3 (hwf:Wf F n rk) (hlen:∀i,i<n->(F.kids i).length<=1000) (hA:∀i,i<n->T (A i)) (hk:∀i b,i<n->(kv i).ownBlock=some b->T b) (m Bx i:Nat) (hi:i<n) (w:World) (hT:∀b,T b->b<w.heap.size)
  (hBx:T Bx) (hF:cE base n A kv F w) (hx:w.cell? ⟨Bx,0,none⟩=some (.pointer (some ⟨A i,0,none⟩))) :
  SeqStopsK Fence.wide m Tryz.prog 259 #[.pointer (some ⟨Bx,0,none⟩)] (fun x:r9 n=>KY A x) (KN T)
   (fun xs=>dN xs=gT F rk i none) (fun pre=>dN pre <+: gT F rk i none) (gT F rk i none).length w:=fun l J Jx W hW hJ _ hY h0 =>
 XR hwf hlen hA hk m l Bx i hi J Jx hY W hJ (hF.same (fun j hj=>hW.block _ (hT _ (hA j hj))) (fun j b hj hb=>hW.block b (hT b (hk j b hj hb)))) ((hW.cell (p:=⟨Bx,0,none⟩) (hT _ hBx)).trans hx) h0
end
end
end Go.Proofs.YthgabkgmkolobaaGreat
