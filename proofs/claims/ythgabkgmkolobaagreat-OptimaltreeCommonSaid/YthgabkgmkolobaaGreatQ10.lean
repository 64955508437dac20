/- The plain law of forests in which no node has two parents and no two leaves one name: .. -/
import Derived.Test.YthgabkgmkolobaaGreatQ9
set_option maxRecDepth 100000
set_option maxHeartbeats 2000000
namespace Go.Proofs.YthgabkgmkolobaaGreat
section
theorem pV {F:ct} {n:Nat} {rk:Nat->Nat} (h:Wf F n rk) {i:Nat} (hi:i<n):ep F rk i i=true:=by rw [nN h hi];simp
theorem vD {F:ct} {n:Nat} {rk:Nat->Nat} (h:Wf F n rk) {i k j:Nat} (hi:i<n) (hk:k∈F.kids i) (hj:ep F rk k j=true):ep F rk i j=true:=by
 rw [nN h hi,Ah];exact .inr (eO.2 ⟨k,hk,hj⟩)
theorem Ar {F:ct} {n:Nat} {rk:Nat->Nat} (h:Wf F n rk) {i j:Nat} (hi:i<n) (hj:ep F rk i j=true):j=i\/∃k∈F.kids i,ep F rk k j=true:=by
 rw [nN h hi,Ah] at hj;rcases hj with h1 | h1
 ·exact .inl (by simpa using h1)
 ·obtain ⟨k,hk,h2⟩:=eO.1 h1
  exact .inr ⟨k,hk,h2⟩
theorem vZ {F:ct} {n:Nat} {rk:Nat->Nat} (h:Wf F n rk):∀ {d i j:Nat},i<n->rk i<=d->ep F rk i j=true->j<n:=by
 intro d
 induction d with
 | zero =>
  intro i j hi hd hj;rcases Ar h hi hj with rfl | ⟨k,hk,h1⟩
  ·exact hi
  ·have:=(h.kid i hi k hk).2;omega
 | succ d ih =>
  intro i j hi hd hj;rcases Ar h hi hj with rfl | ⟨k,hk,h1⟩
  ·exact hi
  ·have:=h.kid i hi k hk
   exact ih this.1 (by omega) h1
structure BO (F:ct) (n:Nat) (rk:Nat->Nat):Prop where
 wf:Wf F n rk
 one:∀p q k,p<n->q<n->k∈F.kids p->k∈F.kids q->p=q
 nodup:∀i,i<n->(F.kids i).Nodup
 aac:∀a b,a<n->b<n->F.kids a=[]->F.kids b=[]->F.nm a=F.nm b->a=b
section
variable {F:ct} {n:Nat} {rk:Nat->Nat}
theorem Au (h:Wf F n rk):∀ {d x j:Nat},x<n->rk x<=d->ep F rk x j=true->j≠x->∃p,p<n/\j∈F.kids p/\ep F rk x p=true:=by
 intro d
 induction d with
 | zero =>
  intro x j hx hd hj hne;rcases Ar h hx hj with e | ⟨k,hk,h1⟩
  ·exact absurd e hne
  ·have:=(h.kid x hx k hk).2;omega
 | succ d ih =>
  intro x j hx hd hj hne;rcases Ar h hx hj with e | ⟨k,hk,h1⟩
  ·exact absurd e hne
  ·have hkk:=h.kid x hx k hk
   by_cases e:j=k
   ·exact ⟨x,hx,by rw [e];exact hk,pV h hx⟩
   ·obtain ⟨p,hp,h2,h3⟩:=ih hkk.1 (by omega) h1 e
    exact ⟨p,hp,h2,vD h hx hk h3⟩
theorem sub_chain (h:BO F n rk) {R:Nat} (hR:∀i,i<n->rk i<=R):∀ {m j x y:Nat},R - rk j<=m->j<n->x<n->y<n->ep F rk x j=true->ep F rk y j=true->ep F rk x y=true\/ep F rk y x=true:=by
 intro m
 induction m with
 | zero =>
  intro j x y hm hj hx hy h1 h2;by_cases e1:j=x
  ·subst e1;exact .inr h2
  ·obtain ⟨p,hp,hk,_⟩:=Au h.wf hx (af _) h1 e1
   have:=(h.wf.kid p hp j hk).2;have:=hR p hp;omega
 | succ m ih =>
  intro j x y hm hj hx hy h1 h2;by_cases e1:j=x
  ·subst e1;exact .inr h2
  ·by_cases e2:j=y
   ·subst e2;exact .inl h1
   ·obtain ⟨p,hp,hk,h3⟩:=Au h.wf hx (af _) h1 e1
    obtain ⟨q,hq,hk2,h4⟩:=Au h.wf hy (af _) h2 e2;obtain rfl:=h.one p q j hp hq hk hk2;have h5:=(h.wf.kid p hp j hk).2;have h6:=hR p hp;exact ih (by omega) hp hx hy h3 h4
theorem LJ (h:BO F n rk) {R:Nat} (hR:∀i,i<n->rk i<=R) {i x y j:Nat} (hi:i<n) (hx:x∈F.kids i) (hy:y∈F.kids i) (h1:ep F rk x j=true) (h2:ep F rk y j=true):x=y:=by
 have qF:=h.wf.kid i hi x hx;have QH:=h.wf.kid i hi y hy;have hj:=vZ h.wf qF.1 (af _) h1;have key:∀ {a b:Nat},a∈F.kids i->b∈F.kids i->a<n->rk a<rk i->ep F rk a b=true->a=b:=fun {a b} ha hb TR har hab=>by
  by_cases e:b=a
  ·exact e.symm
  ·obtain ⟨p,hp,hk,h3⟩:=Au h.wf TR (af _) hab e
   obtain rfl:=h.one p i b hp hi hk hb;have:=vX h.wf TR h3;omega
 rcases sub_chain h hR (af _) hj qF.1 QH.1 h1 h2 with h3 | h3
 ·exact key hx hy qF.1 qF.2 h3
 ·exact (key hy hx QH.1 QH.2 h3).symm
theorem YF (h:Wf F n rk):∀ {d i:Nat},i<n->rk i<=d->∃j,j<n/\ep F rk i j=true/\F.kids j=[]/\lM F rk i=F.nm j:=by
 intro d
 induction d with
 | zero =>
  intro i hi hd;have hk:F.kids i=[]:=by
   cases hk:F.kids i with
   | nil=>rfl
   | cons k l=>have:=(h.kid i hi k (by rw [hk];simp)).2;omega
  exact ⟨i,hi,pV h hi,hk,by rw [BD h hi,hk];simp [fV]⟩
 | succ d ih =>
  intro i hi hd;by_cases hk:F.kids i=[]
  ·exact ⟨i,hi,pV h hi,hk,by rw [BD h hi,hk];simp [fV]⟩
  ·obtain ⟨k,l,hs⟩:∃k l,fV (lM F rk) (F.kids i)=k::l:=by
    cases hs:fV (lM F rk) (F.kids i) with
    | nil=>have h1:=(jo (lM F rk) (F.kids i)).length_eq;rw [hs] at h1;exact absurd (CL.1 h1.symm) hk
    | cons k l=>exact ⟨k,l,rfl⟩
   have hki:k∈F.kids i:=(jo (lM F rk) _).mem_iff.1 (by rw [hs];simp)
   have hkk:=h.kid i hi k hki
   obtain ⟨j,hj,h1,h2,h3⟩:=ih hkk.1 (by omega)
   exact ⟨j,hj,vD h hi hki h1,h2,by rw [BD h hi,hs];exact h3⟩
theorem BO.sortable (h:BO F n rk) (hl:∀i,i<n->(F.kids i).length<=1000) {R:Nat} (hR:∀i,i<n->rk i<=R):LH F n rk:=by
 refine ⟨h.wf,fun i hi x hx y hy e=>?_,h.nodup,hl⟩;have qF:=h.wf.kid i hi x hx;have QH:=h.wf.kid i hi y hy;obtain ⟨a,ha,h1,h2,h3⟩:=YF h.wf qF.1 (af _);obtain ⟨b,hb,h4,h5,h6⟩:=YF h.wf QH.1 (af _);rw [h3,h6] at e;obtain rfl:=h.aac a b ha hb h2 h5 e;exact LJ h hR hi hx hy h1 h4
def dw (F:ct) (rk:Nat->Nat) (i:Nat):List Nat:=(iW F rk i none).map (·.1)
theorem YG (h:Wf F n rk):∀ {d i:Nat} (p q:Option Nat),i<n->rk i<=d->(iW F rk i p).map (·.1)=(iW F rk i q).map (·.1):=by
 intro d;cases d with
 | zero=>intro i p q hi hd;rw [mI h hi,mI h hi];rfl
 | succ d=>intro i p q hi hd;rw [mI h hi,mI h hi];rfl
theorem fh (h:Wf F n rk) {i:Nat} (hi:i<n):dw F rk i=i::(F.kids i).flatMap fun k=>dw F rk k:=by
 unfold dw;rw [mI h hi,cK,CN];congr 1;exact nO fun k hk=>YG h _ _ (h.kid i hi k hk).1 (af _)
theorem gO (h:Wf F n rk):∀ {d i j:Nat},i<n->rk i<=d->(j∈dw F rk i↔ep F rk i j=true):=by
 intro d
 induction d with
 | zero =>
  intro i j hi hd;rw [fh h hi,nN h hi];have hk:F.kids i=[]:=by
   cases hk:F.kids i with
   | nil=>rfl
   | cons k l=>have:=(h.kid i hi k (by rw [hk];simp)).2;omega
  simp [hk]
 | succ d ih =>
  intro i j hi hd;rw [fh h hi,nN h hi];simp only [aW,jP,Ah,beq_iff_eq,eO];constructor
  ·rintro (e | ⟨k,hk,h1⟩)
   ·exact .inl e
   ·have:=h.kid i hi k hk
    exact .inr ⟨k,hk,(ih this.1 (by omega)).1 h1⟩
  ·rintro (e | ⟨k,hk,h1⟩)
   ·exact .inl e
   ·have:=h.kid i hi k hk
    exact .inr ⟨k,hk,(ih this.1 (by omega)).2 h1⟩
theorem qI (h:BO F n rk) {R:Nat} (hR:∀i,i<n->rk i<=R):∀ {d i:Nat},i<n->rk i<=d->(dw F rk i).Nodup:=by
 intro d
 induction d with
 | zero =>
  intro i hi hd;rw [fh h.wf hi];have hk:F.kids i=[]:=by
   cases hk:F.kids i with
   | nil=>rfl
   | cons k l=>have:=(h.wf.kid i hi k (by rw [hk];simp)).2;omega
  simp [hk]
 | succ d ih =>
  intro i hi hd;rw [fh h.wf hi,iR];refine ⟨fun hm=>?_,?_⟩
  ·obtain ⟨k,hk,h1⟩:=jP.1 hm
   have hkk:=h.wf.kid i hi k hk;have:=vX h.wf hkk.1 ((gO h.wf hkk.1 (af _)).1 h1);omega
  ·have hsub:∀l:List Nat,l.Nodup->(∀k∈l,k∈F.kids i)->(l.flatMap fun k=>dw F rk k).Nodup:=by
    intro l
    induction l with
    | nil=>intro _ _;simp
    | cons x l ihl =>
     intro hn hin
     obtain ⟨hx,hl⟩:=iR.1 hn
     have hxx:=h.wf.kid i hi x (hin x (by simp))
     rw [gU,nR]
     refine ⟨ih hxx.1 (by omega),ihl hl (fun k hk=>hin k (by simp [hk])),fun a ha b hb e=>?_⟩
     subst e
     obtain ⟨y,hy,h2⟩:=jP.1 hb
     have hyy:=h.wf.kid i hi y (hin y (by simp [hy]))
     have:=LJ h hR hi (hin x (by simp)) (hin y (by simp [hy])) ((gO h.wf hxx.1 (af _)).1 ha) ((gO h.wf hyy.1 (af _)).1 h2)
     subst this;exact hx hy
   exact hsub _ (h.nodup i hi) (fun k hk=>hk)
theorem xX {l:List Nat} {n:Nat} (h:l.Nodup) (hl:∀x∈l,x<n):l.length<=n:=by
 have h1:l ⊆ List.range n:=fun x hx=>bh.2 (hl x hx);have:=h.length_le_of_subset h1;simpa using this
theorem seq_len (h:BO F n rk) {R:Nat} (hR:∀i,i<n->rk i<=R) {i:Nat} (hi:i<n) (p:Option Nat):(iW F rk i p).length<=n:=by
 have h1:(iW F rk i p).length=(dw F rk i).length:=by have:=congrArg List.length (YG h.wf p none hi (af _));simpa [dw] using this
 rw [h1];exact xX (qI h hR hi (af _)) (fun x hx=>vZ h.wf hi (af _) ((gO h.wf hi (af _)).1 hx))
theorem BO.oO (h:BO F n rk) (p:Nat->Bool):BO (F.oO rk p) n rk :=
 ⟨⟨fun i hi k hk=>h.wf.kid i hi k ((F.nY rk p i).mem_iff.1 hk)⟩,fun a b k ha hb h1 h2=>h.one a b k ha hb ((F.nY rk p a).mem_iff.1 h1) ((F.nY rk p b).mem_iff.1 h2),fun i hi=>(F.nY rk p i).symm.nodup_iff.1 (h.nodup i hi),
  fun a b ha hb h1 h2 e=>h.aac a b ha hb (List.perm_nil.1 (by rw [<- h1];exact (F.nY rk p a).symm)) (List.perm_nil.1 (by rw [<- h2];exact (F.nY rk p b).symm)) e⟩
end
def dU (t:az) (i:Nat):Nat:=t.ps.length - i
theorem iY (t:az) (i:Nat):(fJ t).kids i=bq t.ps i:=rfl
theorem eu {t:az} (h:aH t=0):BO (fJ t) t.ps.length (dU t):=by
 obtain ⟨hp,_,hn,hok,he⟩:=aF h;refine ⟨⟨fun i hi k hk=>?_⟩,fun p q k _ _ h1 h2=>?_,fun i _=>?_,fun a b ha hb h1 h2 e=>?_⟩
 ·obtain ⟨h1,h2,_⟩:=cD.1 hk
  exact ⟨h1,by unfold dU;omega⟩
 ·obtain ⟨_,_,h3⟩:=cD.1 h1
  obtain ⟨_,_,h4⟩:=cD.1 h2;omega
 ·exact Fq _ List.nodup_range
 ·have leaf:∀i,i<t.ps.length->bq t.ps i=[]->isIn t.ps i=false:=fun i hi hk=>by
   cases hin:isIn t.ps i with
   | false=>rfl
   | true=>exact absurd hk ((sY hok i).2 hin)
  have e:gs t.ns a=gs t.ns b:=e
  rcases rY a b with hab | hab | hab
  ·have h3:=(Fx h hb (leaf b hb h2)).2
   have:=any_false h3 hab
   simp [e] at this
  ·exact hab
  ·have h3:=(Fx h ha (leaf a ha h1)).2
   have:=any_false h3 hab
   simp [e] at this
theorem EB (t:az) (i:Nat):dU t i<=t.ps.length:=Nat.sub_le _ _
end
section
open Go.RowKit Go.Deep
def rG (t:az):ct:=(fJ t).oO (dU t) fun j=>false || ep (fJ t) (dU t) 0 j
def o8 (t:az):az:=lZ (rG t) (dU t) 0
theorem wZ (t:az) (i:Nat):((fJ t).kids i).length<=t.ps.length:=by rw [iY];exact vS _ _ _
theorem TS {t:az} (h:aH t=0):BO (rG t) t.ps.length (dU t):=(eu h).oO _
theorem SL (t:az) (i:Nat):((rG t).kids i).length<=t.ps.length:=by
 have h:=((fJ t).nY (dU t) (fun j=>false || ep (fJ t) (dU t) 0 j) i).length_eq;have h2:=wZ t i;unfold rG;omega
theorem gp {w:World} {P N:Value} {T:TypeId}:(w.alloc (.cells #[P,N] T)).heap[w.heap.size]? = some (.cells #[P,N] T (0,0)):=mV _ _
theorem XL (S:Nat->Prop) (w:World) (v:Value) (t:az) (hT:aI S w v t) (he:aH t=0) (hz:∀k,(gs t.ns k).size<=70000):Calls Tryz.prog 129 #[v] w (TrPost w (o8 t)):=by
 obtain ⟨jW,DR,hnl,hok,_⟩:=aF he;obtain ⟨P,N,rfl,hP,hN⟩:=hT;have hu:=(Up.alloc w (.cells #[P,N] 39)).trans (Up.alloc _ (.cells #[.slice none 0 0,.slice none 0 0] 39));have kY:aI S ((w.alloc (.cells #[P,N] 39)).alloc (.cells #[.slice none 0 0,.slice none 0 0] 39)) (.agg #[P,N]) t:=aI.keep ⟨P,N,rfl,hP,hN⟩ (hu.kept _);have HN:=aa (nodes_t S _ _ t kY (by omega) hnl hok hz);have HU:=aa hu;have hc0:=(Up.alloc _ (.cells #[.slice none 0 0,.slice none 0 0] 39)).cell (iU w P N 39)
 have hc1:=(Up.alloc _ (.cells #[.slice none 0 0,.slice none 0 0] 39)).cell (iV w P N 39);have hrb:=gp (w:=w.alloc (.cells #[P,N] 39)) (P:=.slice none 0 0) (N:=.slice none 0 0) (T:=39);have hsz:((w.alloc (.cells #[P,N] 39)).alloc (.cells #[.slice none 0 0,.slice none 0 0] 39)).heap.size=w.heap.size+2:=by simp
 rw [aQ] at hrb;have lJ:=aa hrb;have fA:=aa hsz;have HAR:=aa (eu he);have CW:=aa (TS he);clear hu kY hP hN hrb hsz hnl hok
 go_enter Tryz.func129,Tryz.ntmps129
 go_wp2_with fail;generalize (w.alloc (.cells #[P,N] 39)).alloc (.cells #[.slice none 0 0,.slice none 0 0] 39)=w1 at *;refine HN.out.mono ?_;rintro e w2 ⟨aK,g,A,kv,rfl,hF,hrow⟩;have jg:=hrow.cell (i:=0) jW;have TT:=aa hF;have bD:=aa aK;have mP:=aa ((bI aK (w.heap.size+1) (by rw [fA.out];omega)).trans lJ.out);have hs2:=aK.size;simp only [cV] at jg;have hpos:(0:Int)<(t.ps.length:Int):=by omega
 clear aK hF hrow hc0 hc1 HN;go_wp2_with fail;have hF0:cU w1.heap.size t.ps.length A kv ((fJ t).oO (dU t) fun _=>false) w2:=TT.out.congr fun j _=>⟨rfl,rfl,rfl⟩;have pW:=aa (sorted_t (HAR.out.sortable (fun i _=>by have:=wZ t i;omega) (fun i _=>EB t i)) (dU t 0) 0 (fun _=>false) w2 jW (af _) hF0);clear jg;refine pW.out.mono ?_;rintro e w3 ⟨rfl,YA,hfu⟩;have hb3:Below w1.heap.size w2 w3:=hfu.below hF0 hs2;have HRB3:=aa ((hb3.block (w.heap.size+1) (by rw [fA.out];omega)).trans mP.out);have eo:Hid (Up w1 w3):=iH bD.out hb3
 have Io:=aa (tree_t (F:=rG t) (rk:=dU t) CW.out.wf (fun i _=>by have:=SL t i;omega) w3 0 jW YA (by have:=seq_len CW.out (fun i _=>EB t i) jW none;omega));clear YA hfu hb3 pW TT hF0 mP bD;go_wp2_with fail;refine Io.out.mono ?_;rintro e w4 ⟨di,_,rfl,P4,N4,rfl,iB,iC⟩;obtain ⟨pp,pc,rfl,_,_⟩:=ay.open iB;obtain ⟨np,nc,rfl,_,_⟩:=ay.open iC;have qJ:=(bI di (w.heap.size+1) (by have:=eo.out.size;rw [fA.out] at this;omega)).trans HRB3.out;have sH:w4.cell? ⟨w.heap.size+1,0,none⟩=some (.slice none 0 0):=by simp [World.cell?,qJ]
 have hr1:w4.cell? ⟨w.heap.size+1,1,none⟩=some (.slice none 0 0):=by simp [World.cell?,qJ]
 have KI:w4.frozen? ⟨w.heap.size+1,0,none⟩=false:=by simp [World.frozen?,qJ]
 have nE:w4.frozen? ⟨w.heap.size+1,1,none⟩=false:=by simp [World.frozen?,qJ]
 have QE:=aa iB;have HN4:=aa iC;have kX:=aa di;have HRB4:=aa qJ;clear iB iC di qJ Io HRB3;go_wp2_with fail;have dR:∀b,b≠w.heap.size+1->((w4.setCell ⟨w.heap.size+1,0,none⟩ (.slice pp (lZ (rG t) (dU t) 0).ps.length pc)).setCell ⟨w.heap.size+1,1,none⟩ (.slice np (lZ (rG t) (dU t) 0).ns.length nc)).heap[b]? = w4.heap[b]?:=fun b hb=>by rw [blk_setCell_other _ _ _ _ hb,blk_setCell_other _ _ _ _ hb]
 have hheap:((w4.setCell ⟨w.heap.size+1,0,none⟩ (.slice pp (lZ (rG t) (dU t) 0).ps.length pc)).setCell ⟨w.heap.size+1,1,none⟩ (.slice np (lZ (rG t) (dU t) 0).ns.length nc)).heap[w.heap.size+1]? = some (Obj.cells #[.slice pp (lZ (rG t) (dU t) 0).ps.length pc,.slice np (lZ (rG t) (dU t) 0).ns.length nc] 39 (0,0)):=by simp [World.setCell,Array.getElem?_modify,HRB4.out]
 have di:=HU.out.trans (eo.out.trans kX.out);have ey:Up w ((w4.setCell ⟨w.heap.size+1,0,none⟩ (.slice pp (lZ (rG t) (dU t) 0).ps.length pc)).setCell ⟨w.heap.size+1,1,none⟩ (.slice np (lZ (rG t) (dU t) 0).ns.length nc)) :=
  ⟨di.os,di.tape,di.output,by simp [World.size_setCell];exact di.size,fun b hb=>(dR b (by omega)).trans (di.block b hb)⟩
 have hs3:w.heap.size+2<=w3.heap.size:=by have:=eo.out.size;rw [fA.out] at this;exact this
 generalize (w4.setCell ⟨w.heap.size+1,0,none⟩ (.slice pp (lZ (rG t) (dU t) 0).ps.length pc)).setCell ⟨w.heap.size+1,1,none⟩ (.slice np (lZ (rG t) (dU t) 0).ns.length nc)=w5 at *;have sH:w5.cell? ⟨w.heap.size+1,0,none⟩=some (.slice pp (lZ (rG t) (dU t) 0).ps.length pc):=by simp [World.cell?,hheap]
 have hr1:w5.cell? ⟨w.heap.size+1,1,none⟩=some (.slice np (lZ (rG t) (dU t) 0).ns.length nc):=by simp [World.cell?,hheap]
 refine ⟨rfl,.agg #[.slice pp (lZ (rG t) (dU t) 0).ps.length pc,.slice np (lZ (rG t) (dU t) 0).ns.length nc],by simp [results,Tryz.results129,go_sem,sH,hr1],?_⟩;exact ⟨ey,_,rfl,_,_,rfl,(ah.keep QE.out fun b hb _=>dR b (by omega)).sub fun b hb _=>by omega,(au.keep HN4.out fun b hb _=>dR b (by omega)).sub fun b hb _=>by omega⟩
def CnPost (w:World) (t:az) (e:Ending) (w':World):Prop :=
 Up w w'/\((aH t≠0/\e=.returned (.tuple #[.agg #[.slice none 0 0,.slice none 0 0],.int .i64 1]))\/(aH t=0/\∃v,e=.returned (.tuple #[v,.int .i64 0])/\aI (fun b=>w.heap.size<=b) w' v (o8 t)))
theorem gq {w w4:World} {B:Nat} {x y p q:Value} {T:TypeId} (hb:w4.heap[B]? = some (Obj.cells #[x,y] T (0,0))) (hB:w.heap.size<=B) (hu:Up w w4) :
  Up w ((w4.setCell ⟨B,0,none⟩ p).setCell ⟨B,1,none⟩ q)/\((w4.setCell ⟨B,0,none⟩ p).setCell ⟨B,1,none⟩ q).cell? ⟨B,0,none⟩=some p/\((w4.setCell ⟨B,0,none⟩ p).setCell ⟨B,1,none⟩ q).cell? ⟨B,1,none⟩=some q /\
   ∀b,b≠B->((w4.setCell ⟨B,0,none⟩ p).setCell ⟨B,1,none⟩ q).heap[b]? = w4.heap[b]?:=by
 have dR:∀b,b≠B->((w4.setCell ⟨B,0,none⟩ p).setCell ⟨B,1,none⟩ q).heap[b]? = w4.heap[b]?:=fun b hb=>by rw [blk_setCell_other _ _ _ _ hb,blk_setCell_other _ _ _ _ hb]
 have hheap:((w4.setCell ⟨B,0,none⟩ p).setCell ⟨B,1,none⟩ q).heap[B]? = some (Obj.cells #[p,q] T (0,0)):=by simp [World.setCell,Array.getElem?_modify,hb]
 exact ⟨⟨hu.os,hu.tape,hu.output,by simp [World.size_setCell];exact hu.size,fun b hb=>(dR b (by omega)).trans (hu.block b hb)⟩,by simp [World.cell?,hheap],by simp [World.cell?,hheap],dR⟩
theorem BP (S:Nat->Prop) (w:World) (v:Value) (t:az) (hT:aI S w v t) (hp:t.ps.length<=1000000) (hn:t.ns.length<=1000000) (hz:∀k,(gs t.ns k).size<=70000):Calls Tryz.prog 75 #[v] w (CnPost w t):=by
 obtain ⟨P,N,rfl,hP,hN⟩:=hT;have hu:=(Up.alloc w (.cells #[P,N] 39)).trans (Up.alloc _ (.cells #[.slice none 0 0,.slice none 0 0] 39));have kY:aI S ((w.alloc (.cells #[P,N] 39)).alloc (.cells #[.slice none 0 0,.slice none 0 0] 39)) (.agg #[P,N]) t:=aI.keep ⟨P,N,rfl,hP,hN⟩ (hu.kept _);have gy:=aa (xS S _ _ t kY hp hn hz);have HT:=aa kY;have HU:=aa hu;have jx:=aa ((Up.alloc _ (.cells #[.slice none 0 0,.slice none 0 0] 39)).cell (iU w P N 39));have jG:=aa ((Up.alloc _ (.cells #[.slice none 0 0,.slice none 0 0] 39)).cell (iV w P N 39))
 have hc0:=jx.out;have hc1:=jG.out;have hrb:=gp (w:=w.alloc (.cells #[P,N] 39)) (P:=.slice none 0 0) (N:=.slice none 0 0) (T:=39);have hsz:((w.alloc (.cells #[P,N] 39)).alloc (.cells #[.slice none 0 0,.slice none 0 0] 39)).heap.size=w.heap.size+2:=by simp
 rw [aQ] at hrb;have lJ:=aa hrb;have fA:=aa hsz;clear hu kY hP hN hrb hsz
 go_enter Tryz.func75,Tryz.ntmps75
 go_wp2_with fail;generalize (w.alloc (.cells #[P,N] 39)).alloc (.cells #[.slice none 0 0,.slice none 0 0] 39)=w1 at *;refine gy.out.mono ?_;rintro e w2 ⟨rfl,hb2⟩;have aK:Up w1 w2:=hb2;have hc0:=aK.cell jx.out;have hc1:=aK.cell jG.out;have uj:=aa (HT.out.keep (aK.kept S));have nj:=(bI aK (w.heap.size+1) (by rw [fA.out];omega)).trans lJ.out;have bD:=aa (HU.out.trans aK);have oQ:Hid (w.heap.size+2<=w2.heap.size):=by unfold Hid;have:=aK.size;rw [fA.out] at this;exact this
 clear hb2 aK gy HT HU jx jG lJ;by_cases he:aH t=0
 ·have HE:=aa he
  rw [he];have mP:=aa nj;have nV:=aa (XL S w2 _ t uj.out he hz);clear nj he;go_wp2_with fail;refine nV.out.mono ?_;rintro e w4 ⟨di,_,rfl,P4,N4,rfl,iB,iC⟩;obtain ⟨pp,pc,rfl,_,_⟩:=ay.open iB;obtain ⟨np,nc,rfl,_,_⟩:=ay.open iC;have qJ:=(bI di (w.heap.size+1) (by have:=oQ.out;omega)).trans mP.out;have sH:w4.cell? ⟨w.heap.size+1,0,none⟩=some (.slice none 0 0):=by simp [World.cell?,qJ]
  have hr1:w4.cell? ⟨w.heap.size+1,1,none⟩=some (.slice none 0 0):=by simp [World.cell?,qJ]
  have KI:w4.frozen? ⟨w.heap.size+1,0,none⟩=false:=by simp [World.frozen?,qJ]
  have nE:w4.frozen? ⟨w.heap.size+1,1,none⟩=false:=by simp [World.frozen?,qJ]
  have QE:=aa iB;have HN4:=aa iC;have HST:=aa (gq (w:=w) (p:=.slice pp (o8 t).ps.length pc) (q:=.slice np (o8 t).ns.length nc) qJ (by omega) (bD.out.trans di));clear iB iC di qJ nV mP hc0 hc1;go_wp2_with fail;obtain ⟨s1,s2,s3,s4⟩:=HST.out;have hs2:=oQ.out;refine ⟨rfl,.tuple #[.agg #[.slice pp (o8 t).ps.length pc,.slice np (o8 t).ns.length nc],.int .i64 0],by simp [results,Tryz.results75,go_sem,s2,s3],?_⟩
  exact ⟨s1,.inr ⟨HE.out,_,rfl,_,_,rfl,(ah.keep QE.out fun b hb _=>s4 b (by omega)).sub fun b hb _=>by omega,(au.keep HN4.out fun b hb _=>s4 b (by omega)).sub fun b hb _=>by omega⟩⟩
 ·have Nu:(aH t != 0)=true:=by simpa using he
  have sH:w2.cell? ⟨w.heap.size+1,0,none⟩=some (.slice none 0 0):=by simp [World.cell?,nj]
  have hr1:w2.cell? ⟨w.heap.size+1,1,none⟩=some (.slice none 0 0):=by simp [World.cell?,nj]
  have KI:w2.frozen? ⟨w.heap.size+1,0,none⟩=false:=by simp [World.frozen?,nj]
  have nE:w2.frozen? ⟨w.heap.size+1,1,none⟩=false:=by simp [World.frozen?,nj]
  have HST:=aa (gq (w:=w) (p:=.slice none 0 0) (q:=.slice none 0 0) nj (by omega) bD.out);have HE:=aa he;clear he nj hc0 hc1;generalize aH t=te at Nu ⊢;go_wp2_with fail;obtain ⟨s1,s2,s3,s4⟩:=HST.out;refine ⟨rfl,.tuple #[.agg #[.slice none 0 0,.slice none 0 0],.int .i64 1],by simp [results,Tryz.results75,go_sem,s2,s3],?_⟩;exact ⟨s1,.inl ⟨HE.out,rfl⟩⟩
end
section
deriving instance DecidableEq for az
def Ip (f:Nat->ByteArray) (a:Nat):List Nat->List Nat
 | []=>[a]
 | b::l=>if vV f a b then a::b::l else b::Ip f a l
def DT (f:Nat->ByteArray):List Nat->List Nat
 | []=>[]
 | a::l=>Ip f a (DT f l)
theorem Nw (f:Nat->ByteArray) (a:Nat) (l₂:List Nat) (h2:∀b∈l₂,vV f a b=true):∀l₁:List Nat,(∀b∈l₁,vV f a b=false)->Ip f a (l₁++l₂)=l₁++a::l₂
 | [],_=>by
  cases l₂ with
  | nil=>rfl
  | cons b l=>simp only [cH,Ip];rw [if_pos (h2 b (by simp))]
 | b::l₁,h1=>by
  simp only [cr,Ip]
  rw [if_neg (by rw [h1 b (by simp)];decide),Nw f a l₂ h2 l₁ fun c hc=>h1 c (by simp [hc])]
theorem LK (f:Nat->ByteArray):∀l,fV f l=DT f l
 | []=>by unfold fV;simp [DT]
 | a::l=>by
  have ih:=LK f l
  obtain ⟨l₁,l₂,h1,h2,h3⟩:=List.mergeSort_cons (Qo f) (Qp f) a l
  have hs:=BC f (a::l)
  unfold fV at hs ih ⊢
  rw [h1] at hs ⊢
  show _=Ip f a (DT f l)
  rw [<- ih,h2]
  refine (Nw f a l₂ (fun b hb=>?_) l₁ fun b hb=>by simpa using h3 b hb).symm
  have h4:=(List.pairwise_append.1 hs).2.1
  exact (iI.1 h4).1 b hb
end
section
inductive RT where
 | node (nm:ByteArray) (kids:List RT)
namespace RT
def nm:RT->ByteArray | .node n _=>n
def kids:RT->List RT | .node _ k=>k
end RT
mutual
def aU:RT->Nat
 | .node _ ks=>1+bE ks
def bE:List RT->Nat
 | []=>0
 | r::rs=>aU r+bE rs
end
mutual
def mY:RT->Nat->Int->List Int
 | .node _ ks,n,p=>p::iE ks n (n+1)
def iE:List RT->Nat->Nat->List Int
 | [],_,_=>[]
 | r::rs,own,n=>mY r n (own:Int)++iE rs own (n+aU r)
end
mutual
def gJ:RT->List ByteArray
 | .node nm ks=>nm::gZ ks
def gZ:List RT->List ByteArray
 | []=>[]
 | r::rs=>gJ r++gZ rs
end
def flat (r:RT):az:=⟨mY r 0 (-1),gJ r⟩
mutual
theorem tO:∀(r:RT) (n:Nat) (p:Int),(mY r n p).length=aU r
 | .node _ ks,n,p=>by simp only [mY,aU,aT];rw [xY ks n (n+1)];omega
theorem xY:∀(rs:List RT) (own n:Nat),(iE rs own n).length=bE rs
 | [],_,_=>rfl
 | r::rs,own,n=>by simp only [iE,bE,aZ];rw [tO r n own,xY rs own (n+aU r)]
end
mutual
theorem JZ:∀(r:RT),(gJ r).length=aU r
 | .node _ ks=>by simp only [gJ,aU,aT];rw [LL ks];omega
theorem LL:∀(rs:List RT),(gZ rs).length=bE rs
 | []=>rfl
 | r::rs=>by simp only [gZ,bE,aZ];rw [JZ r,LL rs]
end
def zD (F:ct):Nat->Nat->RT
 | 0,i=>.node (F.nm i) []
 | d+1,i=>.node (F.nm i) ((F.kids i).map (zD F d))
def bB (F:ct) (rk:Nat->Nat) (i:Nat):RT:=zD F (rk i) i
section
variable {F:ct} {n:Nat} {rk:Nat->Nat}
theorem QI (h:Wf F n rk):∀ {d e i:Nat},i<n->rk i<=d->rk i<=e->zD F d i=zD F e i:=by
 intro d
 induction d with
 | zero =>
  intro e i hi hd he;have hk:F.kids i=[]:=by
   cases hk:F.kids i with
   | nil=>rfl
   | cons k l=>have:=(h.kid i hi k (by rw [hk];simp)).2;omega
  cases e with
  | zero=>rfl
  | succ e=>simp [zD,hk]
 | succ d ih =>
  intro e i hi hd he;cases e with
  | zero =>
   have hk:F.kids i=[]:=by
    cases hk:F.kids i with
    | nil=>rfl
    | cons k l=>have:=(h.kid i hi k (by rw [hk];simp)).2;omega
   simp [zD,hk]
  | succ e =>
   simp only [zD];congr 1;refine lU fun k hk=>?_;have:=h.kid i hi k hk;exact ih this.1 (by omega) (by omega)
theorem fO (h:Wf F n rk) {i:Nat} (hi:i<n):bB F rk i=.node (F.nm i) ((F.kids i).map (bB F rk)):=by
 have h1:bB F rk i=zD F (rk i+1) i:=QI h hi (af _) (lz _);rw [h1];simp only [zD];congr 1;refine lU fun k hk=>?_;have:=h.kid i hi k hk;exact QI h this.1 (by omega) (af _)
theorem iA {l:List (Option Nat×Int)} {k j:Option Nat} (v:Int) (h:j≠k):(th l k v).lookup j=l.lookup j:=by
 have hne:(j==k)=false:=by simpa using h
 unfold th;split
 ·induction l with
  | nil=>simp [List.lookup,hne]
  | cons x l ih =>
   rename_i hl;obtain ⟨x1,x2⟩:=x;rw [cr,eC,eC];cases hx:(j==x1)
   ·refine ih ?_
    rw [eC] at hl;cases hx2:(k==x1)
    ·rw [hx2] at hl;exact hl
    ·rw [hx2] at hl;cases hl
   ·rfl
 ·have key:∀q:List (Option Nat×Int),List.lookup j (q.map (fun x=>if x.1=k then (k,v) else x))=List.lookup j q:=by
   intro q
   induction q with
   | nil=>rfl
   | cons x l ih =>
    obtain ⟨x1,x2⟩:=x
    rw [cK,eC]
    by_cases e:x1=k
    ·subst e
     simp only [if_true]
     rw [eC,hne];exact ih
    ·rw [if_neg e,eC]
     cases (j==x1)
     ·exact ih
     ·rfl
  exact key l
theorem CX {l:List (Option Nat×Int)} {k:Option Nat} (v:Int) (h:l.lookup k=none):(th l k v).lookup k=some v:=by
 unfold th;rw [h];simp only [Option.isNone_none,if_true]
 induction l with
 | nil=>simp
 | cons x l ih =>
  obtain ⟨x1,x2⟩:=x;rw [eC] at h;rw [cr,eC];cases hx:(k==x1)
  ·rw [hx] at h;exact ih h
  ·rw [hx] at h;cases h
structure S0 (s s':GP) (ps:List Int) (ns:List ByteArray) (nd:List Nat):Prop where
 ps:s'.ps=s.ps++ps
 ns:s'.ns=s.ns++ns
 old:∀k:Option Nat,(∀j∈nd,k≠some j)->s'.mp.lookup k=s.mp.lookup k
theorem num_sub (h:BO F n rk) {R:Nat} (hR:∀i,i<n->rk i<=R):∀ {d i:Nat} (p:Option Nat) (np:Int) (s:GP),i<n->rk i<=d->p≠some i->s.mp.lookup p=some np->(∀j∈dw F rk i,s.mp.lookup (some j)=none) ->
  S0 s ((iW F rk i p).foldl (wY F) s) (mY (bB F rk i) s.ps.length np) (gJ (bB F rk i)) (dw F rk i):=by
 intro d
 induction d with
 | zero =>
  intro i p np s hi hd hp hl hn;have hk:F.kids i=[]:=by
   cases hk:F.kids i with
   | nil=>rfl
   | cons k l=>have:=(h.wf.kid i hi k (by rw [hk];simp)).2;omega
  rw [mI h.wf hi,fO h.wf hi,fh h.wf hi,hk];have hni:=hn i (by rw [fh h.wf hi];simp);refine ⟨?_,?_,fun k hk2=>iA _ (hk2 i (by simp))⟩
  ·show s.ps++[((th s.mp (some i) _).lookup p).getD 0]=_
   rw [iA _ hp,hl];rfl
  ·rfl
 | succ d ih =>
  intro i p np s hi hd hp hl hn;rw [mI h.wf hi,fO h.wf hi,fh h.wf hi];have hni:=hn i (by rw [fh h.wf hi];simp);have fe:=qI h hR hi (af (rk i));rw [fh h.wf hi,iR] at fe;have key:∀(l:List Nat),(∀k∈l,k∈F.kids i)->(l.flatMap fun k=>dw F rk k).Nodup->(∀k∈l,i∉dw F rk k)->∀(s2:GP) (own:Nat),s2.mp.lookup (some i)=some (own:Int)->(∀k∈l,∀j∈dw F rk k,s2.mp.lookup (some j)=none) ->
    S0 s2 ((l.flatMap fun k=>iW F rk k (some i)).foldl (wY F) s2) (iE (l.map (bB F rk)) own s2.ps.length) (gZ (l.map (bB F rk))) (l.flatMap fun k=>dw F rk k):=by
   intro l
   induction l with
   | nil=>intro _ _ _ s2 own _ _;exact ⟨by simp [iE],by simp [gZ],fun _ _=>rfl⟩
   | cons c l ihl =>
    intro hin hdl hil s2 own ho hno
    have hcc:=h.wf.kid i hi c (hin c (by simp))
    rw [gU,List.foldl_append,gU]
    rw [gU,nR] at hdl
    have h1:=ih (some i) (own:Int) s2 hcc.1 (by omega) (fun e=>by
     injection e with e
     have:=hcc.2;rw [e] at this;omega) ho (hno c (by simp))
    have h2:=ihl (fun k hk=>hin k (by simp [hk])) hdl.2.1 (fun k hk=>hil k (by simp [hk])) ((iW F rk c (some i)).foldl (wY F) s2) own
     ((h1.old (some i) (fun j hj e=>by injection e with e;subst e;exact hil c (by simp) hj)).trans ho)
     (fun k hk j hj=>(h1.old (some j) (fun j2 hj2 e=>by
      injection e with e;subst e
      exact hdl.2.2 j hj2 j (jP.2 ⟨k,hk,hj⟩) rfl)).trans (hno k (by simp [hk]) j hj))
    refine ⟨?_,?_,fun k hk=>?_⟩
    ·rw [h2.ps,h1.ps,cK,iE,dN,aZ,tO]
    ·rw [h2.ns,h1.ns,cK,gZ,dN]
    ·rw [h2.old k (fun j hj=>hk j (by simp [hj])),h1.old k (fun j hj=>hk j (by simp [hj]))]
  have hin:∀k∈F.kids i,i∉dw F rk k:=fun k hk hm=>fe.1 (jP.2 ⟨k,hk,hm⟩)
  have h3:=key (F.kids i) (fun k hk=>hk) fe.2 hin (wY F s (i,p)) s.ps.length (CX _ hni) (fun k hk j hj=>by
   show (th s.mp (some i) _).lookup (some j)=none;rw [iA _ (fun e=>by injection e with e;subst e;exact hin k hk hj)]
   exact hn j (by rw [fh h.wf hi];exact pH _ (jP.2 ⟨k,hk,hj⟩)))
  have hps:(wY F s (i,p)).ps=s.ps++[np]:=by show s.ps++[((th s.mp (some i) _).lookup p).getD 0]=_;rw [iA _ hp,hl];rfl
  rw [List.foldl_cons];refine ⟨?_,?_,fun k hk=>?_⟩
  ·rw [h3.ps,hps,mY,dN,aZ];rfl
  ·rw [h3.ns]
   show (s.ns++[F.nm i])++_=_;rw [gJ,dN];rfl
  ·rw [h3.old k (fun j hj=>hk j (by simp [hj]))]
   exact iA _ (hk i (by simp))
theorem treeF_flat (h:BO F n rk) {R:Nat} (hR:∀i,i<n->rk i<=R) {i:Nat} (hi:i<n):lZ F rk i=flat (bB F rk i):=by
 have h1:=num_sub h hR (d:=rk i) none (-1) Pa hi (af _) (fun e=>by cases e) rfl (fun j _=>rfl);unfold lZ flat fW;rw [h1.ps,h1.ns];rfl
end
end
section
def bw:RT->ByteArray
 | .node nm []=>nm
 | .node _ (k::_)=>bw k
def iF (a:RT):List RT->List RT
 | []=>[a]
 | b::l=>if fG (bw a) (bw b)<=0 then a::b::l else b::iF a l
mutual
def cn:RT->RT
 | .node nm ks=>.node nm (fU ks)
def fU:List RT->List RT
 | []=>[]
 | r::rs=>iF (cn r) (fU rs)
end
theorem TU {f:Nat->ByteArray} {g:Nat->RT} {a:Nat} (ha:bw (g a)=f a):∀l:List Nat,(∀k∈l,bw (g k)=f k)->iF (g a) (l.map g)=(Ip f a l).map g
 | [],_=>rfl
 | b::l,h=>by
  have hb:=h b (by simp)
  rw [cK,iF,Ip,ha,hb]
  unfold vV
  by_cases e:fG (f a) (f b)<=0
  ·rw [if_pos e,if_pos (by simpa using e)];rfl
  ·rw [if_neg e,if_neg (by simpa using e),TU ha l (fun k hk=>h k (by simp [hk]))];rfl
theorem LM {f:Nat->ByteArray} {l:List Nat} {k:Nat}:k∈DT f l↔k∈l:=by rw [<- LK];exact (jo f l).mem_iff
theorem Nx {f:Nat->ByteArray} {h:Nat->RT}:∀l:List Nat,(∀k∈l,bw (cn (h k))=f k)->fU (l.map h)=(DT f l).map fun k=>cn (h k)
 | [],_=>rfl
 | a::l,hf=>by
  rw [cK,fU,DT,Nx l (fun k hk=>hf k (by simp [hk]))]
  exact TU (g:=fun k=>cn (h k)) (hf a (by simp)) (DT f l) (fun k hk=>hf k (by simp [LM.1 hk]))
section
variable {F:ct} {n:Nat} {rk:Nat->Nat}
theorem Wf.oO (h:Wf F n rk) (p:Nat->Bool):Wf (F.oO rk p) n rk:=⟨fun i hi k hk=>h.kid i hi k ((F.nY rk p i).mem_iff.1 hk)⟩
theorem toRF_srt (h:Wf F n rk) (p:Nat->Bool):∀ {d i:Nat},i<n->rk i<=d->(∀j,ep F rk i j=true->p j=true)->bB (F.oO rk p) rk i=cn (bB F rk i)/\bw (cn (bB F rk i))=lM F rk i:=by
 intro d;have hkids:∀i,p i=true->(F.oO rk p).kids i=fV (lM F rk) (F.kids i):=fun i hp=>by show (if p i then _ else _:List Nat)=_;rw [if_pos hp]
 induction d with
 | zero =>
  intro i hi hd hp;have hk:F.kids i=[]:=by
   cases hk:F.kids i with
   | nil=>rfl
   | cons k l=>have:=(h.kid i hi k (by rw [hk];simp)).2;omega
  have hk2:(F.oO rk p).kids i=[]:=by rw [hkids i (hp i (pV h hi)),hk];simp [fV]
  rw [fO (h.oO p) hi,fO h hi,BD h hi,hk,hk2];refine ⟨rfl,?_⟩;simp [fV,cn,fU,bw]
 | succ d ih =>
  intro i hi hd hp;have hk2:=hkids i (hp i (pV h hi));have key:∀k∈F.kids i,bB (F.oO rk p) rk k=cn (bB F rk k)/\bw (cn (bB F rk k))=lM F rk k:=fun k hk=>by have hkk:=h.kid i hi k hk;exact ih hkk.1 (by omega) (fun j hj=>hp j (vD h hi hk hj))
  have hs:fU ((F.kids i).map (bB F rk))=(DT (lM F rk) (F.kids i)).map fun k=>cn (bB F rk k):=Nx _ (fun k hk=>(key k hk).2);rw [fO (h.oO p) hi,fO h hi,BD h hi,hk2,LK,cn,hs];refine ⟨?_,?_⟩
  ·show RT.node (F.nm i) _=_
   congr 1;exact lU fun k hk=>(key k (LM.1 hk)).1
  ·cases hc:DT (lM F rk) (F.kids i) with
   | nil=>rfl
   | cons k l =>
    rw [cK,bw];exact (key k (LM.1 (by rw [hc];simp))).2
end
def iZ (t:az):RT:=bB (fJ t) (dU t) 0
theorem wh {t:az} (h:aH t=0):o8 t=flat (cn (iZ t)):=by
 obtain ⟨hp,_⟩:=aF h;unfold o8;rw [treeF_flat (TS h) (R:=t.ps.length) (fun i _=>EB t i) hp];congr 1;exact (toRF_srt (eu h).wf _ hp (af _) (fun j hj=>by simpa using hj)).1
def kf (own:Nat):List Int->Nat->List Nat
 | [],_=>[]
 | p::ps,b=>if p=(own:Int) then b::kf own ps (b+1) else kf own ps (b+1)
theorem BQ (own:Nat):∀(a c:List Int) (b:Nat),kf own (a++c) b=kf own a b++kf own c (b+a.length)
 | [],c,b=>rfl
 | x::a,c,b=>by
  rw [cr,kf,kf,BQ own a c (b+1),aT,show b+1+a.length=b+(a.length+1) by omega]
  split<;>rfl
theorem AY (own:Nat):∀(a:List Int) (b:Nat),(∀x∈a,x≠(own:Int))->kf own a b=[]
 | [],_,_=>rfl
 | x::a,b,h=>by rw [kf,if_neg (h x (by simp)),AY own a (b+1) (fun y hy=>h y (by simp [hy]))]
theorem TV {ps:List Int} {n:Nat} (h:∀i,i<ps.length->gi ps i=n->n<i):bq ps n=kf n ps 0:=by
 have key:∀k,k<=ps.length->dc ps n k=kf n (ps.take k) 0:=by
  intro k
  induction k with
  | zero=>intro _;rfl
  | succ k ih =>
   intro hk;rw [ng,ih (by omega),jY (show k<ps.length by omega),BQ,gV,Nat.min_eq_left (by omega)];(have hg:gi ps k=ps[k]:=by simp [gi,show k<ps.length by omega]);congr 1;by_cases e:gi ps k=n
   ·rw [if_pos ⟨h k (by omega) e,e⟩,kf,if_pos (by rw [<- hg];exact e)]
    simp [kf]
   ·rw [if_neg (fun q=>e q.2),kf,if_neg (by rw [<- hg];exact e)];rfl
 unfold bq;rw [key _ (af _),gh]
mutual
theorem TW:∀(r:RT) (n:Nat) (p x:Int),x∈mY r n p->x=p\/((n:Int)<=x/\x<((n+aU r:Nat):Int))
 | .node _ ks,n,p,x,h=>by
  rw [mY,aW] at h
  rcases h with h | h
  ·exact .inl h
  ·right
   rw [aU]
   rcases EC ks n (n+1) x h with h1 | ⟨h1,h2⟩
   ·subst h1;exact ⟨by omega,by omega⟩
   ·exact ⟨by omega,by omega⟩
theorem EC:∀(rs:List RT) (own n:Nat) (x:Int),x∈iE rs own n->x=(own:Int)\/((n:Int)<=x/\x<((n+bE rs:Nat):Int))
 | [],_,_,_,h=>by simp [iE] at h
 | r::rs,own,n,x,h=>by
  rw [iE,dV] at h
  rw [bE]
  rcases h with h | h
  ·rcases TW r n own x h with h1 | ⟨h1,h2⟩
   ·exact .inl h1
   ·exact .inr ⟨h1,by omega⟩
  ·rcases EC rs own (n+aU r) x h with h1 | ⟨h1,h2⟩
   ·exact .inl h1
   ·exact .inr ⟨by omega,by omega⟩
end
def Iq:List RT->Nat->List Nat
 | [],_=>[]
 | r::rs,n=>n::Iq rs (n+aU r)
theorem Pc (own:Nat):∀(rs:List RT) (n:Nat),own<n->kf own (iE rs own n) n=Iq rs n
 | [],_,_=>rfl
 | .node nm ks::rs,n,h=>by
  rw [iE,Iq,BQ,tO,Pc own rs _ (by omega),mY,kf,if_pos rfl]
  rw [AY own _ _ (fun x hx e=>by
   rcases EC ks n (n+1) x hx with h1 | ⟨h1,_⟩<;>omega)]
  rfl
theorem mA (r:RT):0<aU r:=by cases r;rw [aU];omega
theorem BR (a b:List Int) (k:Nat):gi (a++b) (a.length+k)=gi b k:=by simp [gi,List.getElem?_append_right]
theorem gs_app_r (a b:List ByteArray) (k:Nat):gs (a++b) (a.length+k)=gs b k:=by simp [gs,List.getElem?_append_right]
theorem FL {a:List Int} (b:List Int) {k:Nat} (h:k<a.length):gi (a++b) k=gi a k:=by simp [gi,List.getElem?_append_left h]
theorem toRD_at:∀(d:Nat) (r:RT) (n:Nat) (p:Int) (t:az) (pre post:List Int) (YH Pd:List ByteArray),aU r<=d->t.ps=pre++(mY r n p++post)->t.ns=YH++(gJ r++Pd)->pre.length=n->YH.length=n->p<n->(∀x∈pre,x<(n:Int))->(∀x∈post,x<(n:Int)\/((n+aU r:Nat):Int)<=x)->zD (fJ t) d n=r:=by
 intro d
 induction d with
 | zero=>intro r n p t pre post YH Pd hd;have:=mA r;omega
 | succ d ih =>
  intro r n p t pre post YH Pd hd hps Nf hpl hnl hp hpre hpost;obtain ⟨nm,ks⟩:=r;rw [aU] at hd hpost;rw [mY,cr] at hps;rw [gJ,cr] at Nf;have hk:(fJ t).kids n=Iq ks (n+1):=by
   rw [iY,TV]
   ·rw [hps,BQ,AY n pre 0 (fun x hx e=>by have:=hpre x hx;omega),cH,kf,if_neg (by omega),BQ,hpl,mg,Pc n ks (n+1) (by omega),xY]
    rw [AY n post _ (fun x hx e=>by rcases hpost x hx with h1 | h1<;>omega),gN]
   ·intro i hi e
    rw [hps] at e;rcases rY i n with h1 | h1 | h1
    ·rw [FL _ (by omega)] at e
     have:=hpre _ (mq (l:=pre) (k:=i) (by omega));omega
    ·subst h1
     have h2:=BR pre (p::(iE ks i (i+1)++post)) 0;rw [hpl] at h2;have h2:gi (pre++p::(iE ks i (i+1)++post)) i=p:=h2;rw [h2] at e;have e:p=i:=e;omega
    ·exact h1
  have hnm:(fJ t).nm n=nm:=by show gs t.ns n=nm;rw [Nf,<- hnl];exact gs_app_r YH (nm::(gZ ks++Pd)) 0
  rw [zD,hk,hnm];congr 1;have key:∀(rs:List RT) (m:Nat) (pr:List Int) (nr:List ByteArray),bE rs<=d->t.ps=pr++(iE rs n m++post)->t.ns=nr++(gZ rs++Pd)->pr.length=m->nr.length=m->n<m->(∀x∈pr,x<(m:Int))->(∀x∈post,x<(n:Int)\/((m+bE rs:Nat):Int)<=x)->(Iq rs m).map (zD (fJ t) d)=rs:=by
   intro rs
   induction rs with
   | nil=>intros;rfl
   | cons r rs ihr =>
    intro m pr nr hd2 hps2 hns2 hpl2 FM hm za hpo;rw [bE] at hd2 hpo;rw [iE,dN] at hps2;rw [gZ,dN] at hns2;rw [Iq,cK]
    have h1:=ih r m n t pr (iE rs n (m+aU r)++post) nr (gZ rs++Pd) (by omega) hps2 hns2 hpl2 FM (by omega) za (fun x hx=>by
     rcases dV.1 hx with hx | hx
     ·rcases EC rs n (m+aU r) x hx with h2 | ⟨h2,_⟩
      ·exact .inl (by omega)
      ·exact .inr h2
     ·rcases hpo x hx with h2 | h2
      ·exact .inl (by omega)
      ·exact .inr (by omega))
    have h2:=ihr (m+aU r) (pr++mY r m n) (nr++gJ r) (by omega) (by rw [hps2,dN]) (by rw [hns2,dN])
     (by rw [aZ,tO,hpl2]) (by rw [aZ,JZ,FM]) (by omega) (fun x hx=>by
      rcases dV.1 hx with hx | hx
      ·have:=za x hx;omega
      ·rcases TW r m n x hx with h3 | ⟨_,h3⟩<;>omega) (fun x hx=>by
      rcases hpo x hx with h3 | h3
      ·exact .inl h3
      ·exact .inr (by omega))
    rw [h1,h2]
  exact key ks (n+1) (pre++[p]) (YH++[nm]) (by omega) (by rw [hps,dN];rfl) (by rw [Nf,dN];rfl) (by simp [hpl]) (by simp [hnl]) (by omega) (fun x hx=>by
   rcases dV.1 hx with hx | hx
   ·have:=hpre x hx;omega
   ·have:x=p:=by simpa using hx
    omega) (fun x hx=>by
   rcases hpost x hx with h3 | h3
   ·exact .inl h3
   ·exact .inr (by omega))
theorem wj (r:RT):(flat r).ps.length=aU r:=tO r 0 (-1)
theorem AZ (r:RT):(flat r).ns.length=aU r:=JZ r
theorem vE (r:RT):iZ (flat r)=r:=by
 unfold iZ bB;have h:dU (flat r) 0=aU r:=by unfold dU;rw [wj,Nat.sub_zero]
 rw [h];exact toRD_at (aU r) r 0 (-1) (flat r) [] [] [] [] (af _) (by simp [flat]) (by simp [flat]) rfl rfl (by omega) (fun x hx=>by simp at hx) (fun x hx=>by simp at hx)
end
end Go.Proofs.YthgabkgmkolobaaGreat
