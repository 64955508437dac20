/- The contract of phylotree.sorted. -/
import Derived.Test.YtfomhlbhcifgbaaGreatDoorQ19
set_option maxRecDepth 100000
set_option maxHeartbeats 4000000
namespace Go.Proofs.YtfomhlbhcifgbaaGreatDoor
open Go.RowKit Go.Deep
theorem run_makeMap {P:Program} (T:TypeId) (w:World):(Instr.makeMap T none).run P w=.ok (.map (some w.heap.size)) (w.alloc (.map #[] 0)):=by
 rfl
structure Aw (F:aW) (n:Nat) (rk:Nat->Nat):Prop where
 wf:Wf F n rk
 sep:∀i,i<n->Sep (fL F rk) (F.kids i)
 nodup:∀i,i<n->(F.kids i).Nodup
 len:∀i,i<n->(F.kids i).length<=1000
theorem nA {F:aW} {n:Nat} {rk:Nat->Nat} (h:Wf F n rk):∀ {d i j:Nat},i<n->qq F d i j=true->rk j<=rk i:=by
 intro d
 induction d with
 | zero=>intro i j _ hs;simp [qq] at hs;subst hs;exact aj _
 | succ d ih =>
  intro i j hi hs;simp only [qq,vg,beq_iff_eq,cR] at hs;rcases hs with rfl | ⟨k,hk,h1⟩
  ·exact aj _
  ·have:=h.kid i hi k hk
   have:=ih this.1 h1;omega
theorem QE {F:aW} {n:Nat} {rk:Nat->Nat} (h:Wf F n rk) {i k:Nat} (hi:i<n) (hk:k∈F.kids i):bY F rk k i=false:=by
 cases hs:bY F rk k i with
 | false=>rfl
 | true =>
  have h1:=h.kid i hi k hk;have:=nA h h1.1 hs;omega
def Nn (n base:Nat) (A:Nat->Nat) (kv:Nat->Value) (F:aW) (rk:Nat->Nat) (p:Nat->Bool) (i:Nat) (w:World) (e:Ending) (w':World):Prop :=
 e=.returned (.string (fL F rk i))/\bz base n A kv (F.iA rk fun j=>p j || bY F rk i j) w'/\kJ n A kv w w'
def pK (F:aW) (rk:Nat->Nat) (p:Nat->Bool) (L:List Nat) (k j:Nat):Bool:=p j || (L.take k).any fun c=>bY F rk c j
def mK (F:aW) (rk:Nat->Nat) (A:Nat->Nat) (L:List Nat) (k:Nat):List (Option Nat×Value):=(L.take k).map fun j=>(some (A j),.string (fL F rk j))
structure JV (n base:Nat) (A:Nat->Nat) (kv:Nat->Value) (F:aW) (rk:Nat->Nat) (p:Nat->Bool) (L:List Nat) (w wr:World) (m0 bx k:Nat):Prop where
 fr:bz base n A kv (F.iA rk (pK F rk p L k)) wr
 map:jy wr m0 (mK F rk A L k)
 box:wr.cell? ⟨bx,0,none⟩=some (.map (some m0))
 up:kJ n A kv w wr
theorem Us (F:aW) (rk:Nat->Nat) (p:Nat->Bool) (L:List Nat) {k c:Nat} (hc:L[k]? = some c) (j:Nat):pK F rk p L (k+1) j=(pK F rk p L k j || bY F rk c j):=by
 unfold pK;rw [List.take_add_one,hc];simp [Bool.or_assoc]
theorem Ut (F:aW) (rk:Nat->Nat) (A:Nat->Nat) (L:List Nat) {k c:Nat} (hc:L[k]? = some c):mK F rk A L (k+1)=mK F rk A L k++[(some (A c),.string (fL F rk c))]:=by
 unfold mK;rw [List.take_add_one,hc];simp
theorem bz.DX {base n:Nat} {A:Nat->Nat} {kv:Nat->Value} {F:aW} {rk:Nat->Nat} {p q:Nat->Bool} {w:World} (h:bz base n A kv (F.iA rk p) w) (e:∀j,j<n->q j=p j):bz base n A kv (F.iA rk q) w :=
 h.congr fun j hj=>⟨rfl,rfl,by show (if q j then _ else _)=(if p j then _ else _);rw [e j hj]⟩
theorem DY {F:aW} {rk:Nat->Nat} {A:Nat->Nat} {n:Nat} (hinj:∀i j,i<n->j<n->A i=A j->i=j):∀ {l:List Nat} {c:Nat},(∀j∈l,j<n)->c<n->c∈l->(l.map fun j=>(some (A j),Value.string (fL F rk j))).lookup (some (A c))=some (.string (fL F rk c)):=by
 intro l
 induction l with
 | nil=>intro c _ _ h;cases h
 | cons x l ih =>
  intro c hl hc h;rw [cV,dJ];by_cases e:x=c
  ·subst e;simp
  ·have hne:(some (A c)==some (A x))=false:=by
    simp only [beq_eq_false_iff_ne,ne_eq,um]
    exact fun e2=>e (hinj x c (hl x (by simp)) hc e2.symm)
   rw [hne]
   exact ih (fun j hj=>hl j (by simp [hj])) hc (by rcases bQ.1 h with h | h;exact absurd h.symm e;exact h)
theorem Jk {F:aW} {rk:Nat->Nat} {A:Nat->Nat} {n:Nat} (hinj:∀i j,i<n->j<n->A i=A j->i=j):∀ {l:List Nat} {c:Nat},(∀j∈l,j<n)->c<n->c∉l->(l.map fun j=>(some (A j),Value.string (fL F rk j))).lookup (some (A c))=none:=by
 intro l
 induction l with
 | nil=>intro c _ _ _;rfl
 | cons x l ih =>
  intro c hl hc h;rw [cV,dJ];have hne:(some (A c)==some (A x))=false:=by simp only [beq_eq_false_iff_ne,ne_eq,um];exact fun e2=>h (by rw [hinj c x hc (hl x (by simp)) e2];simp)
  rw [hne];exact ih (fun j hj=>hl j (by simp [hj])) hc (fun h2=>h (by simp [h2]))
theorem kJ.cell {n base:Nat} {A:Nat->Nat} {kv:Nat->Value} {F:aW} {w a b:World} (h:kJ n A kv a b) (hF:bz base n A kv F w) {p:Addr} {v:Value} (hp:w.heap.size<=p.block) (hc:a.cell? p=some v):b.cell? p=some v:=by
 have hl:p.block<a.heap.size:=fS a _ hc;rw [cW (a:=p) (h.block p.block hl (fun i hi e=>by have:=hF.lt hi;omega) (fun i hi e=>by have:=(hF.gK hi e).2;omega))];exact hc
theorem kJ.pmap {n base:Nat} {A:Nat->Nat} {kv:Nat->Value} {F:aW} {w a b:World} (h:kJ n A kv a b) (hF:bz base n A kv F w) {m:Nat} {l:List (Option Nat×Value)} (hp:w.heap.size<=m) (hc:jy a m l):jy b m l :=
 hc.of_block (h.block m hc.lt (fun i hi e=>by have:=hF.lt hi;omega) (fun i hi e=>by have:=(hF.gK hi e).2;omega))
theorem bz.E6 {base n:Nat} {A:Nat->Nat} {kv:Nat->Value} {F:aW} {w:World} (h:bz base n A kv F w) {i g cap m j c:Nat} (hi:i<n) (hv:kv i=.slice (some ⟨g,0,none⟩) m cap) (hj:(F.kids i)[j]? = some c):w.cell? ⟨g,j,none⟩=some (.pointer (some ⟨A c,0,none⟩)):=by
 have hown:=h.own i hi;rw [hv] at hown;obtain ⟨q,c',e,_,H⟩:=hown.xC.open;injection e with e1;subst e1;have hl:j<(F.kids i).length:=(mO.1 hj).1;obtain ⟨b,off,e,hc⟩:=H j (by simpa using hl);injection e with e;injection e with e1 e2;subst e1;subst e2;rw [jQ] at hc;rw [hc];simp [List.getD_eq_getElem?_getD,hj,bL]
theorem Wy {F:aW} {n:Nat} {rk:Nat->Nat} (h:Wf F n rk) {p:Nat->Bool} {i:Nat} {L:List Nat} (hi:i<n) (hL:∀c∈L,c∈F.kids i) (k:Nat):pK F rk p L k i=p i:=by
 unfold pK;have:((L.take k).any fun c=>bY F rk c i)=false:=by rw [yP];intro c hc;rw [QE h hi (hL c (vv hc))];simp
 rw [this,Bool.or_false]
theorem oQ {n:Nat} {F:aW} {rk:Nat->Nat} {p:Nat->Bool} {L:List Nat} {i:Nat} (hS:Wf F n rk) (hi:i<n) (hL:L=(F.iA rk p).kids i) (k:Nat):(F.iA rk (pK F rk p L k)).kids i=L:=by
 have hm:∀c∈L,c∈F.kids i:=fun c hc=>by rw [hL] at hc;exact (F.ir rk p i).mem_iff.1 hc
 show (if pK F rk p L k i then _ else _)=L;rw [Wy hS hi hm,hL];rfl
theorem bz.drew {base n:Nat} {A:Nat->Nat} {kv:Nat->Value} {F:aW} {w:World} (h:bz base n A kv F w):bz base n A kv F w.drew:=h.same (fun _ _=>rfl) (fun _ _ _ _=>rfl)
theorem kJ.Uu {n:Nat} {A:Nat->Nat} {kv:Nat->Value} {a b:World} (h:kJ n A kv a.drew b):kJ n A kv a b:=⟨h.os,h.tape,h.output,h.size,h.block⟩
theorem JV.step {n base:Nat} {A:Nat->Nat} {kv:Nat->Value} {F:aW} {rk:Nat->Nat} {p:Nat->Bool} {L:List Nat} {w wo w2:World} {bx k c:Nat} (h:JV n base A kv F rk p L w wo w.heap.size bx k) (hF:bz base n A kv (F.iA rk p) w) (nU:w.heap.size<bx)
  (hc:L[k]? = some c) (dZ:c<n) (Gk:∀j∈L,j<n) (iR:L.Nodup) (h2:bz base n A kv (F.iA rk fun j=>pK F rk p L k j || bY F rk c j) w2) (hu:kJ n A kv wo w2) :
  w2.cell? ⟨bx,0,none⟩=some (.map (some w.heap.size))/\∃w3,(Instr.mapUpdate 191 (.map (some w.heap.size)) (.pointer (some ⟨A c,0,none⟩)) (.string (fL F rk c))).run Tryz.prog w2=.ok () w3/\JV n base A kv F rk p L w w3 w.heap.size bx (k+1):=by
 have jE:=hu.cell hF (p:=⟨bx,0,none⟩) (Nat.le_of_lt nU) h.box;have hmap:=hu.pmap hF (aj _) h.map;have hkeys:∀z∈mK F rk A L k,fP w2 z.1:=fun z hz=>by obtain ⟨j,hj,rfl⟩:=ek.1 hz;exact h2.plain (Gk j (vv hj))
 have hno:c∉L.take k:=fun hm=>by
  obtain ⟨j,hj,e⟩:=sG hm;rw [List.getElem_take] at e;have hjk:j<k:=by rw [iy] at hj;omega
  have kG:=(mO.1 hc);obtain ⟨kG,e2⟩:=kG;have:=(List.getElem_inj iR).1 (e.trans e2.symm);omega
 obtain ⟨w3,hr,hm3,hs3,oB,ht3,aau,hb3⟩:=Gd (P:=Tryz.prog) Tryz.underlying191 Tryz.underlying78 Tryz.rV hmap (k:=some (A c)) (.string (fL F rk c)) (h2.plain dZ) hkeys (Jk hF.inj (fun j hj=>Gk j (vv hj)) dZ hno);refine ⟨jE,w3,hr,?_,?_,?_,?_⟩
 ·have h3:bz base n A kv (F.iA rk fun j=>pK F rk p L k j || bY F rk c j) w3:=h2.same (fun j hj=>hb3 _ (by have:=hF.lt hj;omega)) (fun j b hj hb=>hb3 _ (by have:=(hF.gK hj hb).2;omega))
  exact h3.DX fun j _=>Us F rk p L hc j
 ·rw [Ut F rk A L hc];exact hm3
 ·rw [cW (a:=⟨bx,0,none⟩) (hb3 bx (by omega))];exact jE
 ·have hk:=h.up.trans hu
  exact ⟨oB.trans hk.os,ht3.trans hk.tape,aau.trans hk.output,aV hk.size (mQ hs3.symm),fun b hb h4 h5=>(hb3 b (by omega)).trans (hk.block b hb h4 h5)⟩
theorem wT {n base:Nat} {A:Nat->Nat} {kv:Nat->Value} {F:aW} {rk:Nat->Nat} (hS:Aw F n rk) {i:Nat} {p:Nat->Bool} {w:World} (hi:i<n) (hF:bz base n A kv (F.iA rk p) w) (h0:F.kids i=[]) :
  Calls Tryz.prog 111 #[.pointer (some ⟨A i,0,none⟩)] w (Nn n base A kv F rk p i w):=by
 have oa:=F.ir rk p i;have hL:(F.iA rk p).kids i=[]:=List.perm_nil.1 (by rw [h0] at oa;exact oa);have hown:=hF.own i hi;rw [hL] at hown;obtain ⟨q,cap,hv,_⟩:=hown.form (n:=0) rfl;have hkc:=hF.rL hi;have hnc:w.cell? ⟨A i,0,none⟩=some (.string (F.nm i)):=hF.name hi;rw [hv] at hkc;have HL:Hid (fL F rk i=F.nm i):=by unfold Hid;rw [rS hS.wf hi,h0];simp [cF]
 have dQ:Hid (bz base n A kv (F.iA rk fun j=>p j || bY F rk i j) w):=hF.congr fun j hj=>by
  refine ⟨rfl,rfl,?_⟩;by_cases e:j=i
  ·subst e;rw [hL];show (if _ then _ else _)=_;rw [h0];split<;>simp [cF]
  ·show (if _ then _ else _)=(if _ then _ else _)
   (have:bY F rk i j=false:=by rw [gV hS.wf hi,h0];simpa using e);simp only [this,Bool.or_false]
 clear hF hS oa hL hown hv h0;generalize hap:A i=ai at *;generalize F.nm i=nm at *;clear hap;go_in;go_wp2;go_ret;exact ⟨by rw [HL.out];rfl,dQ.out,kJ.refl _ _ _ _⟩
theorem QG {n base:Nat} {A:Nat->Nat} {kv:Nat->Value} {F:aW} {rk:Nat->Nat} (hS:Aw F n rk):∀(d i:Nat) (p:Nat->Bool) (w:World),i<n->rk i<=d->bz base n A kv (F.iA rk p) w ->
  Calls Tryz.prog 111 #[.pointer (some ⟨A i,0,none⟩)] w (Nn n base A kv F rk p i w):=by
 intro d
 induction d with
 | zero =>
  intro i p w hi zq hF;refine wT hS hi hF ?_;cases hk:F.kids i with
  | nil=>rfl
  | cons k l=>have:=(hS.wf.kid i hi k (by rw [hk];simp)).2;omega
 | succ d ih =>
  intro i p w hi zq hF;by_cases h0:F.kids i=[]
  ·exact wT hS hi hF h0
  ·obtain ⟨L,uD⟩:∃L,L=(F.iA rk p).kids i:=⟨_,rfl⟩
   (have oa:L.Perm (F.kids i):=by rw [uD];exact F.ir rk p i);have hlen:L.length=(F.kids i).length:=oa.length_eq;have ki:=hS.len i hi;(have ux:0<L.length:=by rw [hlen];exact yQ.2 h0);have hown:=hF.own i hi;rw [<- uD] at hown;obtain ⟨q,cap,hv,hq⟩:=hown.form (n:=L.length) (by simp);obtain ⟨g,rfl⟩:∃g,q=some ⟨g,0,none⟩:=by
    rcases hq with rfl | h
    ·obtain ⟨_,h | ⟨g,_,_,h,_⟩⟩:=hown
     ·have:=h.2;rw [aD] at this;omega
     ·rw [hv] at h;cases h
    ·exact h
   have hkc:=hF.rL hi;rw [hv] at hkc;have hsz:=hF.lt hi;have Gk:∀c∈L,c<n/\rk c<rk i:=fun c hc=>hS.wf.kid i hi c (oa.mem_iff.1 hc);have HW:Hid (JV n base A kv F rk p L w ((w.alloc (.map #[] 0)).alloc (.cells #[.map (some w.heap.size)] 191)) w.heap.size (w.heap.size+1) 0):=by
    have hu:Up w ((w.alloc (.map #[] 0)).alloc (.cells #[.map (some w.heap.size)] 191)):=(Up.alloc _ _).trans (Up.alloc _ _);refine ⟨(hF.up hu).DX fun j _=>by simp [pK],⟨#[],0,?_,rfl⟩,?_,kJ.ZM hu⟩
    ·rw [blk_alloc_lt _ _ _ (by simp)];exact blk_alloc_new _ _
    ·have h:=bE (w.alloc (.map #[] 0)) #[.map (some w.heap.size)] 191 0
     rw [aN] at h;exact h
   have b6:=aa Gk;have tq:=aa oa;have HLEN:=aa hlen;have HF:=aa hF;have HV:=aa hv;have HKC:=aa hkc;have kZ:=aa uD;have tr:=aa ih;have HS:=aa hS;(have hl2:L.length<=1000:=by omega);have hmm:=run_makeMap (P:=Tryz.prog) 191 w;have d1:((L.length:Int)==0)=false:=beq_eq_false_iff_ne.2 (by omega);clear hown hq hS ih hF Gk oa hlen hv h0 uD ki;go_in;go_wp2_with fail;generalize (w.alloc (.map #[] 0)).alloc (.cells #[.map (some w.heap.size)] 191)=w1 at *
   go_loopw [22] (fun i wr=>∃k:Nat,k<=L.length/\i=.int .i64 k/\Hid (JV n base A kv F rk p L w wr w.heap.size (w.heap.size+1) k)) (fun i _=>L.length - (intOf i).toNat)
   case atStart=>exact ⟨0,bg _,rfl,HW⟩
   case round =>
    obtain ⟨k,hk,rfl,hO⟩:=hrel;obtain ⟨wo,rfl⟩:=e9 wr;by_cases hlt:k<L.length
    ·have hc:L[k]? = some L[k]:=kB hlt
     have jE:=hO.out.box;have dZ:=b6.out L[k] (pg hlt);have hrow:=hO.out.fr.E6 (j:=k) (c:=L[k]) hi HV.out (by rw [oQ HS.out.wf hi kZ.out k];exact hc);have iz:=aa (tr.out L[k] (pK F rk p L k) wo.drew dZ.1 (by omega) hO.out.fr.drew)
     have ZP:Hid (∀w2,bz base n A kv (F.iA rk fun j=>pK F rk p L k j || bY F rk L[k] j) w2->kJ n A kv wo.drew w2->w2.cell? ⟨w.heap.size+1,0,none⟩=some (.map (some w.heap.size))/\∃w3,(Instr.mapUpdate 191 (.map (some w.heap.size)) (.pointer (some ⟨A L[k],0,none⟩)) (.string (fL F rk L[k]))).run Tryz.prog w2=.ok () w3/\JV n base A kv F rk p L w w3 w.heap.size (w.heap.size+1) (k+1)) :=
      fun w2 h2 hu=>hO.out.step HF.out (kC _) hc dZ.1 (fun j hj=>(b6.out j hj).1) (tq.out.symm.nodup_iff.1 (HS.out.nodup i hi)) h2 hu.Uu
     clear hc dZ;generalize L[k]=c at *;go_wp2_with fail;refine jT (by kernel_rfl) 5 (fun w'=>w'.cell? ⟨w.heap.size+1,0,none⟩=some (.map (some w.heap.size))) jE (fun hS=>?_);simp only [gI,bB,eW,Nat.reduceAdd,jL,jM,gH,dz,cw];refine ah.Dz 0 1 hS ?_;(try simp only [Act.put,av,ax,ay]);refine ah.tk 2 hS ?_;try simp only [Act.put,av,ax,ay]
     refine ah.st 3 fun K' hK=>?_;go_simp;refine iz.out.mono ?_;rintro e w2 ⟨rfl,hF2,kK⟩;obtain ⟨Wz,w3,hrun,hW3⟩:=ZP.out w2 hF2 kK;have HW3:=aa hW3;clear hF2 kK hW3;refine hK.out _ _ (fun _=>Wz) (fun hS=>?_);replace hS:=hS ⟨4,by decide,rfl⟩;(try simp only [av,ax,ay]);refine ah.st 4 fun K' hK=>?_;go_simp;refine hK.out _ _ (aT ·) (fun hS=>?_);refine ah.done (by kernel_rfl) ?_;go_wp2
     go_roundw
     case rel=>exact ⟨k+1,by omega,by go_num,HW3⟩
     case measure=>simp [intOf];omega
    ·obtain rfl:k=L.length:=by omega
     have hkc:=hO.out.fr.rL hi;rw [HV.out] at hkc
     have qa:=aa (Jj hO.out.fr (i:=i) (g:=g) (cap:=cap) (f:=fL F rk) (bx:=w.heap.size+1) (m0:=w.heap.size) (l:=mK F rk A L L.length) hi (by rw [oQ HS.out.wf hi kZ.out];exact HV.out) (by rw [oQ HS.out.wf hi kZ.out];intro h;rw [h] at ux;exact Nat.lt_irrefl _ ux) (by rw [oQ HS.out.wf hi kZ.out];omega)
      (by rw [oQ HS.out.wf hi kZ.out];exact fun x hx y hy=>HS.out.sep i hi x (tq.out.mem_iff.1 hx) y (tq.out.mem_iff.1 hy)) hO.out.box hO.out.map (fun e=>by have:=(HF.out.gK hi (b:=g) (by rw [HV.out];rfl)).2;omega) (fun e=>by have:=(HF.out.gK hi (b:=g) (by rw [HV.out];rfl)).2;omega)
      (by rw [oQ HS.out.wf hi kZ.out];intro c hc;unfold mK;rw [gq];exact DY HF.out.inj (fun j hj=>(b6.out j hj).1) (b6.out c hc).1 hc)
      (fun z hz=>by
       obtain ⟨j,hj,rfl⟩:=ek.1 hz
       exact ⟨j,(b6.out j (vv hj)).1,rfl⟩))
     rw [oQ HS.out.wf hi kZ.out,HV.out] at qa;go_wp2_with fail;refine qa.out.mono ?_;rintro e w2 ⟨rfl,hF2,kK⟩;obtain ⟨k1,l1,hs1⟩:∃k1 l1,cF (fL F rk) L=k1::l1:=by
      cases hs:cF (fL F rk) L with
      | nil=>have h1:=(eu (fL F rk) L).length_eq;rw [hs] at h1;simp at h1;omega
      | cons k l=>exact ⟨k,l,rfl⟩
     have hk1:k1∈L:=(eu (fL F rk) L).mem_iff.1 (by rw [hs1];simp);have hrow2:w2.cell? ⟨g,0,none⟩=some (.pointer (some ⟨A k1,0,none⟩)):=hF2.E6 (i:=i) (j:=0) (c:=k1) hi HV.out (by show (upd _ i _ i)[0]? = _;rw [upd_same,hs1];rfl);have aav:=hF2.rL hi;rw [HV.out] at aav;have Wz:=kK.cell HF.out (p:=⟨w.heap.size+1,0,none⟩) (jP _) hO.out.box;have WA:=kK.pmap HF.out (aj _) hO.out.map;have hlk:∀q,(Instr.lookup 191 (.map (some w.heap.size)) (.pointer (some ⟨A k1,0,none⟩)) false).run Tryz.prog (w2.drewN q)=.ok (.string (fL F rk k1)) (w2.drewN q):=fun q =>
      vJ (P:=Tryz.prog) (w:=w2.drewN q) Tryz.underlying191 Tryz.underlying78 Tryz.rV WA (k:=some (A k1)) (hF2.plain (b6.out k1 hk1).1) (fun z hz=>by
       obtain ⟨j,hj,rfl⟩:=ek.1 hz
       exact hF2.plain (b6.out j (vv hj)).1) (by unfold mK;rw [gq];exact DY HF.out.inj (fun j hj=>(b6.out j hj).1) (b6.out k1 hk1).1 hk1)
     have HLS:Hid (fL F rk i=fL F rk k1):=by unfold Hid;rw [rS HS.out.wf hi,<- wO tq.out (fun x hx y hy=>HS.out.sep i hi x (tq.out.mem_iff.1 hx) y (tq.out.mem_iff.1 hy)),hs1]
     have dQ:Hid (bz base n A kv (F.iA rk fun j=>p j || bY F rk i j) w2):=hF2.congr fun j hj=>by
      refine ⟨rfl,rfl,?_⟩;show (if (p j || bY F rk i j) then _ else _)=upd _ i _ j;by_cases e:j=i
      ·subst e
       rw [upd_same,if_pos (by rw [gV HS.out.wf hi];simp)];exact (wO tq.out (fun x hx y hy=>HS.out.sep j hi x (tq.out.mem_iff.1 hx) y (tq.out.mem_iff.1 hy))).symm
      ·rw [upd_ne _ _ e]
       (have:pK F rk p L L.length j=(p j || bY F rk i j):=by unfold pK;rw [gq,gV HS.out.wf hi];(have e2:(j==i)=false:=by simpa using e);rw [e2,Bool.false_or,tq.out.any_eq]);(show _=if pK F rk p L L.length j then _ else _);rw [this]
     have Np:=aa (hO.out.up.trans kK);(have i0:(0:Int)<(L.length:Int):=by omega);clear hF2 kK hs1 hk1 WA qa hO;go_wp2;(go_quiet (fail));go_wp2;go_ret;exact ⟨by rw [HLS.out];rfl,dQ.out.same (fun _ _=>rfl) (fun _ _ _ _=>rfl),⟨Np.out.os,Np.out.tape,Np.out.output,Np.out.size,Np.out.block⟩⟩
end Go.Proofs.YtfomhlbhcifgbaaGreatDoor
