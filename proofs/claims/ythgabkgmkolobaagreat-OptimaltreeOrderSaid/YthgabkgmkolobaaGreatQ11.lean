/- The contract of phylotree.sorted. -/
import Derived.Test.YthgabkgmkolobaaGreatQ8
import Derived.Test.YthgabkgmkolobaaGreatQ10
set_option maxRecDepth 100000
set_option maxHeartbeats 4000000
namespace Go.Proofs.YthgabkgmkolobaaGreat
open Go.RowKit Go.Deep
theorem run_makeMap {P:Program} (T:TypeId) (w:World):(Instr.makeMap T none).run P w=.ok (.map (some w.heap.size)) (w.alloc (.map #[] 0)):=by
 rfl
structure AV (F:aX) (n:Nat) (rk:Nat->Nat):Prop where
 wf:Wf F n rk
 sep:∀i,i<n->Sep (gq F rk) (F.kids i)
 nodup:∀i,i<n->(F.kids i).Nodup
 len:∀i,i<n->(F.kids i).length<=1000
theorem nQ {F:aX} {n:Nat} {rk:Nat->Nat} (h:Wf F n rk):∀ {d i j:Nat},i<n->qW F d i j=true->rk j<=rk i:=by
 intro d
 induction d with
 | zero=>intro i j _ hs;simp [qW] at hs;subst hs;exact ah _
 | succ d ih =>
  intro i j hi hs;simp only [qW,wu,beq_iff_eq,eF] at hs;rcases hs with rfl | ⟨k,hk,h1⟩
  ·exact ah _
  ·have:=h.kid i hi k hk
   have:=ih this.1 h1;omega
theorem Qx {F:aX} {n:Nat} {rk:Nat->Nat} (h:Wf F n rk) {i k:Nat} (hi:i<n) (hk:k∈F.kids i):b8 F rk k i=false:=by
 cases hs:b8 F rk k i with
 | false=>rfl
 | true =>
  have h1:=h.kid i hi k hk;have:=nQ h h1.1 hs;omega
def Nq (n base:Nat) (A:Nat->Nat) (kv:Nat->Value) (F:aX) (rk:Nat->Nat) (p:Nat->Bool) (i:Nat) (w:World) (e:Ending) (w':World):Prop :=
 e=.returned (.string (gq F rk i))/\bB base n A kv (F.jh rk fun j=>p j || b8 F rk i j) w'/\lI n A kv w w'
def pK (F:aX) (rk:Nat->Nat) (p:Nat->Bool) (L:List Nat) (k j:Nat):Bool:=p j || (L.take k).any fun c=>b8 F rk c j
def mK (F:aX) (rk:Nat->Nat) (A:Nat->Nat) (L:List Nat) (k:Nat):List (Option Nat×Value):=(L.take k).map fun j=>(some (A j),.string (gq F rk j))
structure Kc (n base:Nat) (A:Nat->Nat) (kv:Nat->Value) (F:aX) (rk:Nat->Nat) (p:Nat->Bool) (L:List Nat) (w wr:World) (m0 bx k:Nat):Prop where
 fr:bB base n A kv (F.jh rk (pK F rk p L k)) wr
 map:jZ wr m0 (mK F rk A L k)
 box:wr.cell? ⟨bx,0,none⟩=some (.map (some m0))
 up:lI n A kv w wr
theorem TZ (F:aX) (rk:Nat->Nat) (p:Nat->Bool) (L:List Nat) {k c:Nat} (hc:L[k]? = some c) (j:Nat):pK F rk p L (k+1) j=(pK F rk p L k j || b8 F rk c j):=by
 unfold pK;rw [List.take_add_one,hc];simp [Bool.or_assoc]
theorem T3 (F:aX) (rk:Nat->Nat) (A:Nat->Nat) (L:List Nat) {k c:Nat} (hc:L[k]? = some c):mK F rk A L (k+1)=mK F rk A L k++[(some (A c),.string (gq F rk c))]:=by
 unfold mK;rw [List.take_add_one,hc];simp
theorem bB.D4 {base n:Nat} {A:Nat->Nat} {kv:Nat->Value} {F:aX} {rk:Nat->Nat} {p q:Nat->Bool} {w:World} (h:bB base n A kv (F.jh rk p) w) (e:∀j,j<n->q j=p j):bB base n A kv (F.jh rk q) w :=
 h.congr fun j hj=>⟨rfl,rfl,by show (if q j then _ else _)=(if p j then _ else _);rw [e j hj]⟩
theorem D5 {F:aX} {rk:Nat->Nat} {A:Nat->Nat} {n:Nat} (hinj:∀i j,i<n->j<n->A i=A j->i=j):∀ {l:List Nat} {c:Nat},(∀j∈l,j<n)->c<n->c∈l->(l.map fun j=>(some (A j),Value.string (gq F rk j))).lookup (some (A c))=some (.string (gq F rk c)):=by
 intro l
 induction l with
 | nil=>intro c _ _ h;cases h
 | cons x l ih =>
  intro c hl hc h;rw [bI,dV];by_cases e:x=c
  ·subst e;simp
  ·have hne:(some (A c)==some (A x))=false:=by
    simp only [beq_eq_false_iff_ne,ne_eq,Option.some.injEq]
    exact fun e2=>e (hinj x c (hl x (by simp)) hc e2.symm)
   rw [hne]
   exact ih (fun j hj=>hl j (by simp [hj])) hc (by rcases bX.1 h with h | h;exact absurd h.symm e;exact h)
theorem JA {F:aX} {rk:Nat->Nat} {A:Nat->Nat} {n:Nat} (hinj:∀i j,i<n->j<n->A i=A j->i=j):∀ {l:List Nat} {c:Nat},(∀j∈l,j<n)->c<n->c∉l->(l.map fun j=>(some (A j),Value.string (gq F rk j))).lookup (some (A c))=none:=by
 intro l
 induction l with
 | nil=>intro c _ _ _;rfl
 | cons x l ih =>
  intro c hl hc h;rw [bI,dV];have hne:(some (A c)==some (A x))=false:=by simp only [beq_eq_false_iff_ne,ne_eq,Option.some.injEq];exact fun e2=>h (by rw [hinj c x hc (hl x (by simp)) e2];simp)
  rw [hne];exact ih (fun j hj=>hl j (by simp [hj])) hc (fun h2=>h (by simp [h2]))
theorem lI.cell {n base:Nat} {A:Nat->Nat} {kv:Nat->Value} {F:aX} {w a b:World} (h:lI n A kv a b) (hF:bB base n A kv F w) {p:Addr} {v:Value} (hp:w.heap.size<=p.block) (hc:a.cell? p=some v):b.cell? p=some v:=by
 have hl:p.block<a.heap.size:=dN a _ hc;rw [fG (a:=p) (h.block p.block hl (fun i hi e=>by have:=hF.lt hi;omega) (fun i hi e=>by have:=(hF.iA hi e).2;omega))];exact hc
theorem lI.pmap {n base:Nat} {A:Nat->Nat} {kv:Nat->Value} {F:aX} {w a b:World} (h:lI n A kv a b) (hF:bB base n A kv F w) {m:Nat} {l:List (Option Nat×Value)} (hp:w.heap.size<=m) (hc:jZ a m l):jZ b m l :=
 hc.of_block (h.block m hc.lt (fun i hi e=>by have:=hF.lt hi;omega) (fun i hi e=>by have:=(hF.iA hi e).2;omega))
theorem bB.Fu {base n:Nat} {A:Nat->Nat} {kv:Nat->Value} {F:aX} {w:World} (h:bB base n A kv F w) {i g cap m j c:Nat} (hi:i<n) (hv:kv i=.slice (some ⟨g,0,none⟩) m cap) (hj:(F.kids i)[j]? = some c):w.cell? ⟨g,j,none⟩=some (.pointer (some ⟨A c,0,none⟩)):=by
 have hown:=h.own i hi;rw [hv] at hown;obtain ⟨q,c',e,_,H⟩:=hown.yl.open;injection e with e1;subst e1;have hl:j<(F.kids i).length:=(mj.1 hj).1;obtain ⟨b,off,e,hc⟩:=H j (by simpa using hl);injection e with e;injection e with e1 e2;subst e1;subst e2;rw [ij] at hc;rw [hc];simp [List.getD_eq_getElem?_getD,hj,bD]
theorem VG {F:aX} {n:Nat} {rk:Nat->Nat} (h:Wf F n rk) {p:Nat->Bool} {i:Nat} {L:List Nat} (hi:i<n) (hL:∀c∈L,c∈F.kids i) (k:Nat):pK F rk p L k i=p i:=by
 unfold pK;have:((L.take k).any fun c=>b8 F rk c i)=false:=by rw [List.any_eq_false];intro c hc;rw [Qx h hi (hL c (rJ hc))];simp
 rw [this,Bool.or_false]
theorem pM {n:Nat} {F:aX} {rk:Nat->Nat} {p:Nat->Bool} {L:List Nat} {i:Nat} (hS:Wf F n rk) (hi:i<n) (hL:L=(F.jh rk p).kids i) (k:Nat):(F.jh rk (pK F rk p L k)).kids i=L:=by
 have hm:∀c∈L,c∈F.kids i:=fun c hc=>by rw [hL] at hc;exact (F.iQ rk p i).mem_iff.1 hc
 show (if pK F rk p L k i then _ else _)=L;rw [VG hS hi hm,hL];rfl
theorem bB.drew {base n:Nat} {A:Nat->Nat} {kv:Nat->Value} {F:aX} {w:World} (h:bB base n A kv F w):bB base n A kv F w.drew:=h.same (fun _ _=>rfl) (fun _ _ _ _=>rfl)
theorem lI.T4 {n:Nat} {A:Nat->Nat} {kv:Nat->Value} {a b:World} (h:lI n A kv a.drew b):lI n A kv a b:=⟨h.os,h.tape,h.output,h.size,h.block⟩
theorem Kc.step {n base:Nat} {A:Nat->Nat} {kv:Nat->Value} {F:aX} {rk:Nat->Nat} {p:Nat->Bool} {L:List Nat} {w wo w2:World} {bx k c:Nat} (h:Kc n base A kv F rk p L w wo w.heap.size bx k) (hF:bB base n A kv (F.jh rk p) w) (mV:w.heap.size<bx)
  (hc:L[k]? = some c) (eY:c<n) (Gd:∀j∈L,j<n) (gV:L.Nodup) (h2:bB base n A kv (F.jh rk fun j=>pK F rk p L k j || b8 F rk c j) w2) (hu:lI n A kv wo w2) :
  w2.cell? ⟨bx,0,none⟩=some (.map (some w.heap.size))/\∃w3,(Instr.mapUpdate 245 (.map (some w.heap.size)) (.pointer (some ⟨A c,0,none⟩)) (.string (gq F rk c))).run Tryz.prog w2=.ok () w3/\Kc n base A kv F rk p L w w3 w.heap.size bx (k+1):=by
 have j8:=hu.cell hF (p:=⟨bx,0,none⟩) (Nat.le_of_lt mV) h.box;have hmap:=hu.pmap hF (ah _) h.map;have hkeys:∀z∈mK F rk A L k,gF w2 z.1:=fun z hz=>by obtain ⟨j,hj,rfl⟩:=di.1 hz;exact h2.plain (Gd j (rJ hj))
 have hno:c∉L.take k:=fun hm=>by
  obtain ⟨j,hj,e⟩:=wF hm;rw [List.getElem_take] at e;have hjk:j<k:=by rw [dD] at hj;omega
  have fT:=(mj.1 hc);obtain ⟨fT,e2⟩:=fT;have:=(List.getElem_inj gV).1 (e.trans e2.symm);omega
 obtain ⟨w3,hr,hm3,hs3,yA,ht3,aal,hb3⟩:=F5 (P:=Tryz.prog) Tryz.underlying245 Tryz.underlying119 Tryz.sM hmap (k:=some (A c)) (.string (gq F rk c)) (h2.plain eY) hkeys (JA hF.inj (fun j hj=>Gd j (rJ hj)) eY hno);refine ⟨j8,w3,hr,?_,?_,?_,?_⟩
 ·have h3:bB base n A kv (F.jh rk fun j=>pK F rk p L k j || b8 F rk c j) w3:=h2.same (fun j hj=>hb3 _ (by have:=hF.lt hj;omega)) (fun j b hj hb=>hb3 _ (by have:=(hF.iA hj hb).2;omega))
  exact h3.D4 fun j _=>TZ F rk p L hc j
 ·rw [T3 F rk A L hc];exact hm3
 ·rw [fG (a:=⟨bx,0,none⟩) (hb3 bx (by omega))];exact j8
 ·have hk:=h.up.trans hu
  exact ⟨yA.trans hk.os,ht3.trans hk.tape,aal.trans hk.output,aR hk.size (gQ hs3.symm),fun b hb h4 h5=>(hb3 b (by omega)).trans (hk.block b hb h4 h5)⟩
theorem xL {n base:Nat} {A:Nat->Nat} {kv:Nat->Value} {F:aX} {rk:Nat->Nat} (hS:AV F n rk) {i:Nat} {p:Nat->Bool} {w:World} (hi:i<n) (hF:bB base n A kv (F.jh rk p) w) (h0:F.kids i=[]) :
  Calls Tryz.prog 184 #[.pointer (some ⟨A i,0,none⟩)] w (Nq n base A kv F rk p i w):=by
 have oG:=F.iQ rk p i;have hL:(F.jh rk p).kids i=[]:=List.perm_nil.1 (by rw [h0] at oG;exact oG);have hown:=hF.own i hi;rw [hL] at hown;obtain ⟨q,cap,hv,_⟩:=hown.form (n:=0) rfl;have hkc:=hF.qV hi;have hnc:w.cell? ⟨A i,0,none⟩=some (.string (F.nm i)):=hF.name hi;rw [hv] at hkc;have HL:Hid (gq F rk i=F.nm i):=by unfold Hid;rw [sL hS.wf hi,h0];simp [cW]
 have rC:Hid (bB base n A kv (F.jh rk fun j=>p j || b8 F rk i j) w):=hF.congr fun j hj=>by
  refine ⟨rfl,rfl,?_⟩;by_cases e:j=i
  ·subst e;rw [hL];show (if _ then _ else _)=_;rw [h0];split<;>simp [cW]
  ·show (if _ then _ else _)=(if _ then _ else _)
   (have:b8 F rk i j=false:=by rw [iJ hS.wf hi,h0];simpa using e);simp only [this,Bool.or_false]
 clear hF hS oG hL hown hv h0;generalize hap:A i=ai at *;generalize F.nm i=nm at *;clear hap
 go_enter Tryz.func184,Tryz.ntmps184
 go_wp2_with fail;go_ret;exact ⟨by rw [HL.out];rfl,rC.out,lI.refl _ _ _ _⟩
theorem Qy {n base:Nat} {A:Nat->Nat} {kv:Nat->Value} {F:aX} {rk:Nat->Nat} (hS:AV F n rk):∀(d i:Nat) (p:Nat->Bool) (w:World),i<n->rk i<=d->bB base n A kv (F.jh rk p) w ->
  Calls Tryz.prog 184 #[.pointer (some ⟨A i,0,none⟩)] w (Nq n base A kv F rk p i w):=by
 intro d
 induction d with
 | zero =>
  intro i p w hi Ae hF;refine xL hS hi hF ?_;cases hk:F.kids i with
  | nil=>rfl
  | cons k l=>have:=(hS.wf.kid i hi k (by rw [hk];simp)).2;omega
 | succ d ih =>
  intro i p w hi Ae hF;by_cases h0:F.kids i=[]
  ·exact xL hS hi hF h0
  ·obtain ⟨L,vB⟩:∃L,L=(F.jh rk p).kids i:=⟨_,rfl⟩
   (have oG:L.Perm (F.kids i):=by rw [vB];exact F.iQ rk p i);have hlen:L.length=(F.kids i).length:=oG.length_eq;have jg:=hS.len i hi;(have D6:0<L.length:=by rw [hlen];exact wG.2 h0);have hown:=hF.own i hi;rw [<- vB] at hown;obtain ⟨q,cap,hv,hq⟩:=hown.form (n:=L.length) (by simp);obtain ⟨g,rfl⟩:∃g,q=some ⟨g,0,none⟩:=by
    rcases hq with rfl | h
    ·obtain ⟨_,h | ⟨g,_,_,h,_⟩⟩:=hown
     ·have:=h.2;rw [aD] at this;omega
     ·rw [hv] at h;cases h
    ·exact h
   have hkc:=hF.qV hi;rw [hv] at hkc;have hsz:=hF.lt hi;have Gd:∀c∈L,c<n/\rk c<rk i:=fun c hc=>hS.wf.kid i hi c (oG.mem_iff.1 hc);have HW:Hid (Kc n base A kv F rk p L w ((w.alloc (.map #[] 0)).alloc (.cells #[.map (some w.heap.size)] 245)) w.heap.size (w.heap.size+1) 0):=by
    have hu:Up w ((w.alloc (.map #[] 0)).alloc (.cells #[.map (some w.heap.size)] 245)):=(Up.alloc _ _).trans (Up.alloc _ _);refine ⟨(hF.up hu).D4 fun j _=>by simp [pK],⟨#[],0,?_,rfl⟩,?_,lI.Y5 hu⟩
    ·rw [blk_alloc_lt _ _ _ (by simp)];exact blk_alloc_new _ _
    ·have h:=aH (w.alloc (.map #[] 0)) #[.map (some w.heap.size)] 245 0
     rw [aL] at h;exact h
   have iu:=aa Gd;have Ai:=aa oG;have HLEN:=aa hlen;have HF:=aa hF;have HV:=aa hv;have VH:=aa hkc;have fN:=aa vB;have kD:=aa ih;have HS:=aa hS;(have hl2:L.length<=1000:=by omega);have hmm:=run_makeMap (P:=Tryz.prog) 245 w;have d1:((L.length:Int)==0)=false:=beq_eq_false_iff_ne.2 (by omega);clear hown hq hS ih hF Gd oG hlen hv h0 vB jg
   go_enter Tryz.func184,Tryz.ntmps184
   go_wp2_with fail;generalize (w.alloc (.map #[] 0)).alloc (.cells #[.map (some w.heap.size)] 245)=w1 at *
   go_loopw [22] (fun i wr=>∃k:Nat,k<=L.length/\i=.int .i64 k/\Hid (Kc n base A kv F rk p L w wr w.heap.size (w.heap.size+1) k)) (fun i _=>L.length - (intOf i).toNat)
   case atStart=>exact ⟨0,aI _,rfl,HW⟩
   case round =>
    obtain ⟨k,hk,rfl,hO⟩:=hrel;obtain ⟨wo,rfl⟩:∃wo:World,wo=wr:=⟨_,rfl⟩;by_cases hlt:k<L.length
    ·have hc:L[k]? = some L[k]:=gP hlt
     have j8:=hO.out.box;have eY:=iu.out L[k] (lz hlt);have hrow:=hO.out.fr.Fu (j:=k) (c:=L[k]) hi HV.out (by rw [pM HS.out.wf hi fN.out k];exact hc);have iB:=aa (kD.out L[k] (pK F rk p L k) wo.drew eY.1 (by omega) hO.out.fr.drew)
     have Y8:Hid (∀w2,bB base n A kv (F.jh rk fun j=>pK F rk p L k j || b8 F rk L[k] j) w2->lI n A kv wo.drew w2->w2.cell? ⟨w.heap.size+1,0,none⟩=some (.map (some w.heap.size))/\∃w3,(Instr.mapUpdate 245 (.map (some w.heap.size)) (.pointer (some ⟨A L[k],0,none⟩)) (.string (gq F rk L[k]))).run Tryz.prog w2=.ok () w3/\Kc n base A kv F rk p L w w3 w.heap.size (w.heap.size+1) (k+1)) :=
      fun w2 h2 hu=>hO.out.step HF.out (qz _) hc eY.1 (fun j hj=>(iu.out j hj).1) (Ai.out.symm.nodup_iff.1 (HS.out.nodup i hi)) h2 hu.T4
     clear hc eY;generalize L[k]=c at *;go_wp2_with fail;refine eC (by kernel_rfl) 5 (fun w'=>w'.cell? ⟨w.heap.size+1,0,none⟩=some (.map (some w.heap.size))) j8 (fun hS=>?_);simp only [fo,aO,dz,Nat.reduceAdd,ic,ig,fk,cw,bz];refine af.tk 0 hS ?_;(try simp only [Act.put,aj,aq,au]);refine af.tk 1 hS ?_;(try simp only [Act.put,aj,aq,au]);refine af.tk 2 hS ?_
     (try simp only [Act.put,aj,aq,au]);refine af.step (i:=3) rfl (by kernel_rfl) (fun K' hK=>?_);go_simp;refine iB.out.mono ?_;rintro e w2 ⟨rfl,hF2,sR⟩;obtain ⟨VI,w3,hrun,hW3⟩:=Y8.out w2 hF2 sR;have Z6:=aa hW3;clear hF2 sR hW3;refine hK.out _ _ (fun _=>VI) (fun hS=>?_);replace hS:=hS ⟨4,by decide,rfl⟩;(try simp only [aj,aq,au]);refine af.step (i:=4) rfl (by kernel_rfl) (fun K' hK=>?_);go_simp;refine hK.out _ _ (aS (by kernel_rfl)) (fun hS=>?_)
     refine af.done (by kernel_rfl) ?_;go_wp2_with fail
     go_roundw
     case rel=>exact ⟨k+1,by omega,by go_num,Z6⟩
     case measure=>simp [intOf];omega
    ·obtain rfl:k=L.length:=by omega
     have hkc:=hO.out.fr.qV hi;rw [HV.out] at hkc
     have B2:=aa (Jz hO.out.fr (i:=i) (g:=g) (cap:=cap) (f:=gq F rk) (bx:=w.heap.size+1) (m0:=w.heap.size) (l:=mK F rk A L L.length) hi (by rw [pM HS.out.wf hi fN.out];exact HV.out) (by rw [pM HS.out.wf hi fN.out];intro h;rw [h] at D6;exact Nat.lt_irrefl _ D6) (by rw [pM HS.out.wf hi fN.out];omega)
      (by rw [pM HS.out.wf hi fN.out];exact fun x hx y hy=>HS.out.sep i hi x (Ai.out.mem_iff.1 hx) y (Ai.out.mem_iff.1 hy)) hO.out.box hO.out.map (fun e=>by have:=(HF.out.iA hi (b:=g) (by rw [HV.out];rfl)).2;omega) (fun e=>by have:=(HF.out.iA hi (b:=g) (by rw [HV.out];rfl)).2;omega)
      (by rw [pM HS.out.wf hi fN.out];intro c hc;unfold mK;rw [eT];exact D5 HF.out.inj (fun j hj=>(iu.out j hj).1) (iu.out c hc).1 hc)
      (fun z hz=>by
       obtain ⟨j,hj,rfl⟩:=di.1 hz
       exact ⟨j,(iu.out j (rJ hj)).1,rfl⟩))
     rw [pM HS.out.wf hi fN.out,HV.out] at B2;go_wp2_with fail;refine B2.out.mono ?_;rintro e w2 ⟨rfl,hF2,sR⟩;obtain ⟨k1,l1,hs1⟩:∃k1 l1,cW (gq F rk) L=k1::l1:=by
      cases hs:cW (gq F rk) L with
      | nil=>have h1:=(eH (gq F rk) L).length_eq;rw [hs] at h1;simp at h1;omega
      | cons k l=>exact ⟨k,l,rfl⟩
     have hk1:k1∈L:=(eH (gq F rk) L).mem_iff.1 (by rw [hs1];simp);have hrow2:w2.cell? ⟨g,0,none⟩=some (.pointer (some ⟨A k1,0,none⟩)):=hF2.Fu (i:=i) (j:=0) (c:=k1) hi HV.out (by show (upd _ i _ i)[0]? = _;rw [upd_same,hs1];rfl);have aam:=hF2.qV hi;rw [HV.out] at aam;have VI:=sR.cell HF.out (p:=⟨w.heap.size+1,0,none⟩) (kI _) hO.out.box;have VJ:=sR.pmap HF.out (ah _) hO.out.map;have hlk:∀q,(Instr.lookup 245 (.map (some w.heap.size)) (.pointer (some ⟨A k1,0,none⟩)) false).run Tryz.prog (w2.drewN q)=.ok (.string (gq F rk k1)) (w2.drewN q):=fun q =>
      wO (P:=Tryz.prog) (w:=w2.drewN q) Tryz.underlying245 Tryz.underlying119 Tryz.sM VJ (k:=some (A k1)) (hF2.plain (iu.out k1 hk1).1) (fun z hz=>by
       obtain ⟨j,hj,rfl⟩:=di.1 hz
       exact hF2.plain (iu.out j (rJ hj)).1) (by unfold mK;rw [eT];exact D5 HF.out.inj (fun j hj=>(iu.out j hj).1) (iu.out k1 hk1).1 hk1)
     have Nr:Hid (gq F rk i=gq F rk k1):=by unfold Hid;rw [sL HS.out.wf hi,<- xJ Ai.out (fun x hx y hy=>HS.out.sep i hi x (Ai.out.mem_iff.1 hx) y (Ai.out.mem_iff.1 hy)),hs1]
     have rC:Hid (bB base n A kv (F.jh rk fun j=>p j || b8 F rk i j) w2):=hF2.congr fun j hj=>by
      refine ⟨rfl,rfl,?_⟩;show (if (p j || b8 F rk i j) then _ else _)=upd _ i _ j;by_cases e:j=i
      ·subst e
       rw [upd_same,if_pos (by rw [iJ HS.out.wf hi];simp)];exact (xJ Ai.out (fun x hx y hy=>HS.out.sep j hi x (Ai.out.mem_iff.1 hx) y (Ai.out.mem_iff.1 hy))).symm
      ·rw [upd_ne _ _ e]
       (have:pK F rk p L L.length j=(p j || b8 F rk i j):=by unfold pK;rw [eT,iJ HS.out.wf hi];(have e2:(j==i)=false:=by simpa using e);rw [e2,Bool.false_or,Ai.out.any_eq]);(show _=if pK F rk p L L.length j then _ else _);rw [this]
     have xM:=aa (hO.out.up.trans sR);(have i0:(0:Int)<(L.length:Int):=by omega);clear hF2 sR hs1 hk1 VJ B2 hO;go_wp2_with fail;(go_quiet (fail));go_wp2_with fail;go_ret;exact ⟨by rw [Nr.out];rfl,rC.out.same (fun _ _=>rfl) (fun _ _ _ _=>rfl),⟨xM.out.os,xM.out.tape,xM.out.output,xM.out.size,xM.out.block⟩⟩
end Go.Proofs.YthgabkgmkolobaaGreat
