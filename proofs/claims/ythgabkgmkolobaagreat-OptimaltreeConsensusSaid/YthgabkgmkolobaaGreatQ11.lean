/- The plain law of forests in which no .. -/
import Derived.Test.YthgabkgmkolobaaGreatQ10
set_option maxRecDepth 100000
set_option maxHeartbeats 2000000
namespace Go.Proofs.YthgabkgmkolobaaGreat
section
theorem nw {F:bW} {n:Nat} {rk:Nat->Nat} (h:Wf F n rk) {i:Nat} (hi:i<n):dz F rk i i=true:=by rw [l5 h hi];simp
theorem tC {F:bW} {n:Nat} {rk:Nat->Nat} (h:Wf F n rk) {i k j:Nat} (hi:i<n) (hk:k∈F.kids i) (hj:dz F rk k j=true):dz F rk i j=true:=by
 rw [l5 h hi,s7];exact .inr (dx.2 ⟨k,hk,hj⟩)
theorem xS {F:bW} {n:Nat} {rk:Nat->Nat} (h:Wf F n rk) {i j:Nat} (hi:i<n) (hj:dz F rk i j=true):j=i\/∃k∈F.kids i,dz F rk k j=true:=by
 rw [l5 h hi,s7] at hj;rcases hj with h1 | h1
 ·exact .inl (by simpa using h1)
 ·obtain ⟨k,hk,h2⟩:=dx.1 h1
  exact .inr ⟨k,hk,h2⟩
theorem tO {F:bW} {n:Nat} {rk:Nat->Nat} (h:Wf F n rk):∀ {d i j:Nat},i<n->rk i<=d->dz F rk i j=true->j<n:=by
 intro d
 induction d with
 | zero =>
  intro i j hi hd hj;rcases xS h hi hj with rfl | ⟨k,hk,h1⟩
  ·exact hi
  ·have:=(h.kid i hi k hk).2;omega
 | succ d ih =>
  intro i j hi hd hj;rcases xS h hi hj with rfl | ⟨k,hk,h1⟩
  ·exact hi
  ·have:=h.kid i hi k hk
   exact ih this.1 (by omega) h1
structure yZ (F:bW) (n:Nat) (rk:Nat->Nat):Prop where
 wf:Wf F n rk
 one:∀p q k,p<n->q<n->k∈F.kids p->k∈F.kids q->p=q
 nodup:∀i,i<n->(F.kids i).Nodup
 amd:∀a b,a<n->b<n->F.kids a=[]->F.kids b=[]->F.nm a=F.nm b->a=b
section
variable {F:bW} {n:Nat} {rk:Nat->Nat}
theorem xT (h:Wf F n rk):∀ {d x j:Nat},x<n->rk x<=d->dz F rk x j=true->j≠x->∃p,p<n/\j∈F.kids p/\dz F rk x p=true:=by
 intro d
 induction d with
 | zero =>
  intro x j hx hd hj hne;rcases xS h hx hj with e | ⟨k,hk,h1⟩
  ·exact absurd e hne
  ·have:=(h.kid x hx k hk).2;omega
 | succ d ih =>
  intro x j hx hd hj hne;rcases xS h hx hj with e | ⟨k,hk,h1⟩
  ·exact absurd e hne
  ·have hkk:=h.kid x hx k hk
   by_cases e:j=k
   ·exact ⟨x,hx,by rw [e];exact hk,nw h hx⟩
   ·obtain ⟨p,hp,h2,h3⟩:=ih hkk.1 (by omega) h1 e
    exact ⟨p,hp,h2,tC h hx hk h3⟩
theorem X4 (h:yZ F n rk) {R:Nat} (hR:∀i,i<n->rk i<=R):∀ {m j x y:Nat},R - rk j<=m->j<n->x<n->y<n->dz F rk x j=true->dz F rk y j=true->dz F rk x y=true\/dz F rk y x=true:=by
 intro m
 induction m with
 | zero =>
  intro j x y hm hj hx hy h1 h2;by_cases e1:j=x
  ·subst e1;exact .inr h2
  ·obtain ⟨p,hp,hk,_⟩:=xT h.wf hx (ah _) h1 e1
   have:=(h.wf.kid p hp j hk).2;have:=hR p hp;omega
 | succ m ih =>
  intro j x y hm hj hx hy h1 h2;by_cases e1:j=x
  ·subst e1;exact .inr h2
  ·by_cases e2:j=y
   ·subst e2;exact .inl h1
   ·obtain ⟨p,hp,hk,h3⟩:=xT h.wf hx (ah _) h1 e1
    obtain ⟨q,hq,hk2,h4⟩:=xT h.wf hy (ah _) h2 e2;obtain rfl:=h.one p q j hp hq hk hk2;have h5:=(h.wf.kid p hp j hk).2;have h6:=hR p hp;exact ih (by omega) hp hx hy h3 h4
theorem Ic (h:yZ F n rk) {R:Nat} (hR:∀i,i<n->rk i<=R) {i x y j:Nat} (hi:i<n) (hx:x∈F.kids i) (hy:y∈F.kids i) (h1:dz F rk x j=true) (h2:dz F rk y j=true):x=y:=by
 have ug:=h.wf.kid i hi x hx;have My:=h.wf.kid i hi y hy;have hj:=tO h.wf ug.1 (ah _) h1;have key:∀ {a b:Nat},a∈F.kids i->b∈F.kids i->a<n->rk a<rk i->dz F rk a b=true->a=b:=fun {a b} ha hb Px har hab=>by
  by_cases e:b=a
  ·exact e.symm
  ·obtain ⟨p,hp,hk,h3⟩:=xT h.wf Px (ah _) hab e
   obtain rfl:=h.one p i b hp hi hk hb;have:=tM h.wf Px h3;omega
 rcases X4 h hR (ah _) hj ug.1 My.1 h1 h2 with h3 | h3
 ·exact key hx hy ug.1 ug.2 h3
 ·exact (key hy hx My.1 My.2 h3).symm
theorem TJ (h:Wf F n rk):∀ {d i:Nat},i<n->rk i<=d->∃j,j<n/\dz F rk i j=true/\F.kids j=[]/\j9 F rk i=F.nm j:=by
 intro d
 induction d with
 | zero =>
  intro i hi hd;have hk:F.kids i=[]:=by
   cases hk:F.kids i with
   | nil=>rfl
   | cons k l=>have:=(h.kid i hi k (by rw [hk];simp)).2;omega
  exact ⟨i,hi,nw h hi,hk,by rw [yP h hi,hk];simp [eU]⟩
 | succ d ih =>
  intro i hi hd;by_cases hk:F.kids i=[]
  ·exact ⟨i,hi,nw h hi,hk,by rw [yP h hi,hk];simp [eU]⟩
  ·obtain ⟨k,l,hs⟩:∃k l,eU (j9 F rk) (F.kids i)=k::l:=by
    cases hs:eU (j9 F rk) (F.kids i) with
    | nil=>have h1:=(ic (j9 F rk) (F.kids i)).length_eq;rw [hs] at h1;exact absurd (xO.1 h1.symm) hk
    | cons k l=>exact ⟨k,l,rfl⟩
   have hki:k∈F.kids i:=(ic (j9 F rk) _).mem_iff.1 (by rw [hs];simp)
   have hkk:=h.kid i hi k hki
   obtain ⟨j,hj,h1,h2,h3⟩:=ih hkk.1 (by omega)
   exact ⟨j,hj,tC h hi hki h1,h2,by rw [yP h hi,hs];exact h3⟩
theorem yZ.aaZ (h:yZ F n rk) (hl:∀i,i<n->(F.kids i).length<=1000) {R:Nat} (hR:∀i,i<n->rk i<=R):Hz F n rk:=by
 refine ⟨h.wf,fun i hi x hx y hy e=>?_,h.nodup,hl⟩;have ug:=h.wf.kid i hi x hx;have My:=h.wf.kid i hi y hy;obtain ⟨a,ha,h1,h2,h3⟩:=TJ h.wf ug.1 (ah _);obtain ⟨b,hb,h4,h5,h6⟩:=TJ h.wf My.1 (ah _);rw [h3,h6] at e;obtain rfl:=h.amd a b ha hb h2 h5 e;exact Ic h hR hi hx hy h1 h4
def cI (F:bW) (rk:Nat->Nat) (i:Nat):List Nat:=(gT F rk i none).map (·.1)
theorem TK (h:Wf F n rk):∀ {d i:Nat} (p q:Option Nat),i<n->rk i<=d->(gT F rk i p).map (·.1)=(gT F rk i q).map (·.1):=by
 intro d;cases d with
 | zero=>intro i p q hi hd;rw [kS h hi,kS h hi];rfl
 | succ d=>intro i p q hi hd;rw [kS h hi,kS h hi];rfl
theorem dQ (h:Wf F n rk) {i:Nat} (hi:i<n):cI F rk i=i::(F.kids i).flatMap fun k=>cI F rk k:=by
 unfold cI;rw [kS h hi,dV,CS];congr 1;exact jV fun k hk=>TK h _ _ (h.kid i hi k hk).1 (ah _)
theorem fB (h:Wf F n rk):∀ {d i j:Nat},i<n->rk i<=d->(j∈cI F rk i↔dz F rk i j=true):=by
 intro d
 induction d with
 | zero =>
  intro i j hi hd;rw [dQ h hi,l5 h hi];have hk:F.kids i=[]:=by
   cases hk:F.kids i with
   | nil=>rfl
   | cons k l=>have:=(h.kid i hi k (by rw [hk];simp)).2;omega
  simp [hk]
 | succ d ih =>
  intro i j hi hd;rw [dQ h hi,l5 h hi];simp only [bA,iA,s7,beq_iff_eq,dx];constructor
  ·rintro (e | ⟨k,hk,h1⟩)
   ·exact .inl e
   ·have:=h.kid i hi k hk
    exact .inr ⟨k,hk,(ih this.1 (by omega)).1 h1⟩
  ·rintro (e | ⟨k,hk,h1⟩)
   ·exact .inl e
   ·have:=h.kid i hi k hk
    exact .inr ⟨k,hk,(ih this.1 (by omega)).2 h1⟩
theorem oy (h:yZ F n rk) {R:Nat} (hR:∀i,i<n->rk i<=R):∀ {d i:Nat},i<n->rk i<=d->(cI F rk i).Nodup:=by
 intro d
 induction d with
 | zero =>
  intro i hi hd;rw [dQ h.wf hi];have hk:F.kids i=[]:=by
   cases hk:F.kids i with
   | nil=>rfl
   | cons k l=>have:=(h.wf.kid i hi k (by rw [hk];simp)).2;omega
  simp [hk]
 | succ d ih =>
  intro i hi hd;rw [dQ h.wf hi,qu];refine ⟨fun hm=>?_,?_⟩
  ·obtain ⟨k,hk,h1⟩:=iA.1 hm
   have hkk:=h.wf.kid i hi k hk;have:=tM h.wf hkk.1 ((fB h.wf hkk.1 (ah _)).1 h1);omega
  ·have hsub:∀l:List Nat,l.Nodup->(∀k∈l,k∈F.kids i)->(l.flatMap fun k=>cI F rk k).Nodup:=by
    intro l
    induction l with
    | nil=>intro _ _;simp
    | cons x l ihl =>
     intro hn hin
     obtain ⟨hx,hl⟩:=qu.1 hn
     have hxx:=h.wf.kid i hi x (hin x (by simp))
     rw [gj,ua]
     refine ⟨ih hxx.1 (by omega),ihl hl (fun k hk=>hin k (by simp [hk])),fun a ha b hb e=>?_⟩
     subst e
     obtain ⟨y,hy,h2⟩:=iA.1 hb
     have hyy:=h.wf.kid i hi y (hin y (by simp [hy]))
     have:=Ic h hR hi (hin x (by simp)) (hin y (by simp [hy])) ((fB h.wf hxx.1 (ah _)).1 ha) ((fB h.wf hyy.1 (ah _)).1 h2)
     subst this;exact hx hy
   exact hsub _ (h.nodup i hi) (fun k hk=>hk)
theorem vq {l:List Nat} {n:Nat} (h:l.Nodup) (hl:∀x∈l,x<n):l.length<=n:=by
 have h1:l ⊆ List.range n:=fun x hx=>bu.2 (hl x hx);have:=h.length_le_of_subset h1;simpa using this
theorem aes (h:yZ F n rk) {R:Nat} (hR:∀i,i<n->rk i<=R) {i:Nat} (hi:i<n) (p:Option Nat):(gT F rk i p).length<=n:=by
 have h1:(gT F rk i p).length=(cI F rk i).length:=by have:=congrArg List.length (TK h.wf p none hi (ah _));simpa [cI] using this
 rw [h1];exact vq (oy h hR hi (ah _)) (fun x hx=>tO h.wf hi (ah _) ((fB h.wf hi (ah _)).1 hx))
theorem yZ.mQ (h:yZ F n rk) (p:Nat->Bool):yZ (F.mQ rk p) n rk :=
 ⟨⟨fun i hi k hk=>h.wf.kid i hi k ((F.mB rk p i).mem_iff.1 hk)⟩,fun a b k ha hb h1 h2=>h.one a b k ha hb ((F.mB rk p a).mem_iff.1 h1) ((F.mB rk p b).mem_iff.1 h2),fun i hi=>(F.mB rk p i).symm.nodup_iff.1 (h.nodup i hi),
  fun a b ha hb h1 h2 e=>h.amd a b ha hb (List.perm_nil.1 (by rw [<- h1];exact (F.mB rk p a).symm)) (List.perm_nil.1 (by rw [<- h2];exact (F.mB rk p b).symm)) e⟩
end
def dI (t:ax) (i:Nat):Nat:=t.ps.length - i
theorem jW (t:ax) (i:Nat):(fA t).kids i=bL t.ps i:=rfl
theorem ew {t:ax} (h:aA t=0):yZ (fA t) t.ps.length (dI t):=by
 obtain ⟨hp,_,hn,hok,he⟩:=aH h;refine ⟨⟨fun i hi k hk=>?_⟩,fun p q k _ _ h1 h2=>?_,fun i _=>?_,fun a b ha hb h1 h2 e=>?_⟩
 ·obtain ⟨h1,h2,_⟩:=cK.1 hk
  exact ⟨h1,by unfold dI;omega⟩
 ·obtain ⟨_,_,h3⟩:=cK.1 h1
  obtain ⟨_,_,h4⟩:=cK.1 h2;omega
 ·exact Jb _ List.nodup_range
 ·have leaf:∀i,i<t.ps.length->bL t.ps i=[]->isIn t.ps i=false:=fun i hi hk=>by
   cases hin:isIn t.ps i with
   | false=>rfl
   | true=>exact absurd hk ((qR hok i).2 hin)
  have e:gs t.ns a=gs t.ns b:=e
  rcases oo a b with hab | hab | hab
  ·have h3:=(CX h hb (leaf b hb h2)).2
   have:=any_false h3 hab
   simp [e] at this
  ·exact hab
  ·have h3:=(CX h ha (leaf a ha h1)).2
   have:=any_false h3 hab
   simp [e] at this
theorem Ci (t:ax) (i:Nat):dI t i<=t.ps.length:=Nat.sub_le _ _
end
section
open Go.RowKit Go.Deep
def pF (t:ax):bW:=(fA t).mQ (dI t) fun j=>false || dz (fA t) (dI t) 0 j
def kW (t:ax):ax:=kC (pF t) (dI t) 0
theorem uu (t:ax) (i:Nat):((fA t).kids i).length<=t.ps.length:=by rw [jW];exact wA _ _ _
theorem Py {t:ax} (h:aA t=0):yZ (pF t) t.ps.length (dI t):=(ew h).mQ _
theorem Ol (t:ax) (i:Nat):((pF t).kids i).length<=t.ps.length:=by
 have h:=((fA t).mB (dI t) (fun j=>false || dz (fA t) (dI t) 0 j) i).length_eq;have h2:=uu t i;unfold pF;omega
theorem iN {w:World} {P N:Value} {T:TypeId}:(w.alloc (.cells #[P,N] T)).heap[w.heap.size]? = some (.cells #[P,N] T (0,0)):=ng _ _
theorem S5 (S:Nat->Prop) (w:World) (v:Value) (t:ax) (hT:aG S w v t) (he:aA t=0) (hz:∀k,(gs t.ns k).size<=70000):Calls Tryz.prog 129 #[v] w (XX w (kW t)):=by
 obtain ⟨xg,K3,hnl,hok,_⟩:=aH he;obtain ⟨P,N,rfl,hP,hN⟩:=hT;have hu:=(Up.alloc w (.cells #[P,N] 39)).trans (Up.alloc _ (.cells #[.slice none 0 0,.slice none 0 0] 39));have nt:aG S ((w.alloc (.cells #[P,N] 39)).alloc (.cells #[.slice none 0 0,.slice none 0 0] 39)) (.agg #[P,N]) t:=aG.keep ⟨P,N,rfl,hP,hN⟩ (hu.kept _);have HN:=aa (aem S _ _ t nt (by omega) hnl hok hz);have HU:=aa hu;have hc0:=(Up.alloc _ (.cells #[.slice none 0 0,.slice none 0 0] 39)).cell (iq w P N 39);have hc1:=(Up.alloc _ (.cells #[.slice none 0 0,.slice none 0 0] 39)).cell (jg w P N 39);have hrb:=iN (w:=w.alloc (.cells #[P,N] 39)) (P:=.slice none 0 0) (N:=.slice none 0 0) (T:=39);have hsz:((w.alloc (.cells #[P,N] 39)).alloc (.cells #[.slice none 0 0,.slice none 0 0] 39)).heap.size=w.heap.size+2:=by simp
 rw [aQ] at hrb;have gY:=aa hrb;have dM:=aa hsz;have HAR:=aa (ew he);have Cj:=aa (Py he);clear hu nt hP hN hrb hsz hnl hok;go_in;go_wp2_with fail;generalize (w.alloc (.cells #[P,N] 39)).alloc (.cells #[.slice none 0 0,.slice none 0 0] 39)=w1 at *;refine HN.out.mono ?_;rintro e w2 ⟨aI,g,A,kv,rfl,hF,hrow⟩;have gO:=hrow.cell (i:=0) xg;have qA:=aa hF;have b7:=aa aI;have vu:=aa ((bH aI (w.heap.size+1) (by rw [dM.out];omega)).trans gY.out);have hs2:=aI.size;simp only [dh] at gO;have hpos:(0:Int)<(t.ps.length:Int):=by omega
 clear aI hF hrow hc0 hc1 HN;go_wp2_with fail;have hF0:cE w1.heap.size t.ps.length A kv ((fA t).mQ (dI t) fun _=>false) w2:=qA.out.congr fun j _=>⟨rfl,rfl,rfl⟩;have kJ:=aa (aaU (HAR.out.aaZ (fun i _=>by have:=uu t i;omega) (fun i _=>Ci t i)) (dI t 0) 0 (fun _=>false) w2 xg (ah _) hF0);clear gO;refine kJ.out.mono ?_;rintro e w3 ⟨rfl,TC,hfu⟩;have hb3:Below w1.heap.size w2 w3:=hfu.below hF0 hs2;have af9:=aa ((hb3.block (w.heap.size+1) (by rw [dM.out];omega)).trans vu.out);have eW:Hid (Up w1 w3):=iz b7.out hb3;have wD:=aa (XY (F:=pF t) (rk:=dI t) Cj.out.wf (fun i _=>by have:=Ol t i;omega) w3 0 xg TC (by have:=aes Cj.out (fun i _=>Ci t i) xg none;omega));clear TC hfu hb3 kJ qA hF0 vu b7;go_wp2_with fail;refine wD.out.mono ?_;rintro e w4 ⟨gU,_,rfl,P4,N4,rfl,qB,qD⟩;obtain ⟨pp,pc,rfl,_,_⟩:=aq.open qB;obtain ⟨np,nc,rfl,_,_⟩:=aq.open qD;have oz:=(bH gU (w.heap.size+1) (by have:=eW.out.size;rw [dM.out] at this;omega)).trans af9.out;have nV:w4.cell? ⟨w.heap.size+1,0,none⟩=some (.slice none 0 0):=by simp [World.cell?,oz]
 have hr1:w4.cell? ⟨w.heap.size+1,1,none⟩=some (.slice none 0 0):=by simp [World.cell?,oz]
 have Ch:w4.frozen? ⟨w.heap.size+1,0,none⟩=false:=by simp [World.frozen?,oz]
 have sQ:w4.frozen? ⟨w.heap.size+1,1,none⟩=false:=by simp [World.frozen?,oz]
 have Mv:=aa qB;have X5:=aa qD;have k7:=aa gU;have ajh:=aa oz;clear qB qD gU oz wD af9;go_wp2_with fail;have cA:∀b,b≠w.heap.size+1->((w4.setCell ⟨w.heap.size+1,0,none⟩ (.slice pp (kC (pF t) (dI t) 0).ps.length pc)).setCell ⟨w.heap.size+1,1,none⟩ (.slice np (kC (pF t) (dI t) 0).ns.length nc)).heap[b]? = w4.heap[b]?:=fun b hb=>by rw [blk_setCell_other _ _ _ _ hb,blk_setCell_other _ _ _ _ hb]
 have hheap:((w4.setCell ⟨w.heap.size+1,0,none⟩ (.slice pp (kC (pF t) (dI t) 0).ps.length pc)).setCell ⟨w.heap.size+1,1,none⟩ (.slice np (kC (pF t) (dI t) 0).ns.length nc)).heap[w.heap.size+1]? = some (Obj.cells #[.slice pp (kC (pF t) (dI t) 0).ps.length pc,.slice np (kC (pF t) (dI t) 0).ns.length nc] 39 (0,0)):=by simp [World.setCell,Array.getElem?_modify,ajh.out]
 have gU:=HU.out.trans (eW.out.trans k7.out);have gJ:Up w ((w4.setCell ⟨w.heap.size+1,0,none⟩ (.slice pp (kC (pF t) (dI t) 0).ps.length pc)).setCell ⟨w.heap.size+1,1,none⟩ (.slice np (kC (pF t) (dI t) 0).ns.length nc)) :=
  ⟨gU.os,gU.tape,gU.output,by simp [World.size_setCell];exact gU.size,fun b hb=>(cA b (by omega)).trans (gU.block b hb)⟩
 have hs3:w.heap.size+2<=w3.heap.size:=by have:=eW.out.size;rw [dM.out] at this;exact this
 generalize (w4.setCell ⟨w.heap.size+1,0,none⟩ (.slice pp (kC (pF t) (dI t) 0).ps.length pc)).setCell ⟨w.heap.size+1,1,none⟩ (.slice np (kC (pF t) (dI t) 0).ns.length nc)=w5 at *;have nV:w5.cell? ⟨w.heap.size+1,0,none⟩=some (.slice pp (kC (pF t) (dI t) 0).ps.length pc):=by simp [World.cell?,hheap]
 have hr1:w5.cell? ⟨w.heap.size+1,1,none⟩=some (.slice np (kC (pF t) (dI t) 0).ns.length nc):=by simp [World.cell?,hheap]
 refine ⟨rfl,.agg #[.slice pp (kC (pF t) (dI t) 0).ps.length pc,.slice np (kC (pF t) (dI t) 0).ns.length nc],by simp [results,Tryz.results129,go_sem,nV,hr1],?_⟩;exact ⟨gJ,_,rfl,_,_,rfl,(af.keep Mv.out fun b hb _=>cA b (by omega)).sub fun b hb _=>by omega,(aj.keep X5.out fun b hb _=>cA b (by omega)).sub fun b hb _=>by omega⟩
def aga (w:World) (t:ax) (e:Ending) (w':World):Prop :=
 Up w w'/\((aA t≠0/\e=.returned (.tuple #[.agg #[.slice none 0 0,.slice none 0 0],.int .i64 1]))\/(aA t=0/\∃v,e=.returned (.tuple #[v,.int .i64 0])/\aG (fun b=>w.heap.size<=b) w' v (kW t)))
theorem gz {w w4:World} {B:Nat} {x y p q:Value} {T:TypeId} (hb:w4.heap[B]? = some (Obj.cells #[x,y] T (0,0))) (hB:w.heap.size<=B) (hu:Up w w4) :
  Up w ((w4.setCell ⟨B,0,none⟩ p).setCell ⟨B,1,none⟩ q)/\((w4.setCell ⟨B,0,none⟩ p).setCell ⟨B,1,none⟩ q).cell? ⟨B,0,none⟩=some p/\((w4.setCell ⟨B,0,none⟩ p).setCell ⟨B,1,none⟩ q).cell? ⟨B,1,none⟩=some q /\
   ∀b,b≠B->((w4.setCell ⟨B,0,none⟩ p).setCell ⟨B,1,none⟩ q).heap[b]? = w4.heap[b]?:=by
 have cA:∀b,b≠B->((w4.setCell ⟨B,0,none⟩ p).setCell ⟨B,1,none⟩ q).heap[b]? = w4.heap[b]?:=fun b hb=>by rw [blk_setCell_other _ _ _ _ hb,blk_setCell_other _ _ _ _ hb]
 have hheap:((w4.setCell ⟨B,0,none⟩ p).setCell ⟨B,1,none⟩ q).heap[B]? = some (Obj.cells #[p,q] T (0,0)):=by simp [World.setCell,Array.getElem?_modify,hb]
 exact ⟨⟨hu.os,hu.tape,hu.output,by simp [World.size_setCell];exact hu.size,fun b hb=>(cA b (by omega)).trans (hu.block b hb)⟩,by simp [World.cell?,hheap],by simp [World.cell?,hheap],cA⟩
theorem y5 (S:Nat->Prop) (w:World) (v:Value) (t:ax) (hT:aG S w v t) (hp:t.ps.length<=1000000) (hn:t.ns.length<=1000000) (hz:∀k,(gs t.ns k).size<=70000):Calls Tryz.prog 75 #[v] w (aga w t):=by
 obtain ⟨P,N,rfl,hP,hN⟩:=hT;have hu:=(Up.alloc w (.cells #[P,N] 39)).trans (Up.alloc _ (.cells #[.slice none 0 0,.slice none 0 0] 39));have nt:aG S ((w.alloc (.cells #[P,N] 39)).alloc (.cells #[.slice none 0 0,.slice none 0 0] 39)) (.agg #[P,N]) t:=aG.keep ⟨P,N,rfl,hP,hN⟩ (hu.kept _);have gw:=aa (yj S _ _ t nt hp hn hz);have HT:=aa nt;have HU:=aa hu;have lV:=aa ((Up.alloc _ (.cells #[.slice none 0 0,.slice none 0 0] 39)).cell (iq w P N 39));have gA:=aa ((Up.alloc _ (.cells #[.slice none 0 0,.slice none 0 0] 39)).cell (jg w P N 39));have hc0:=lV.out;have hc1:=gA.out;have hrb:=iN (w:=w.alloc (.cells #[P,N] 39)) (P:=.slice none 0 0) (N:=.slice none 0 0) (T:=39);have hsz:((w.alloc (.cells #[P,N] 39)).alloc (.cells #[.slice none 0 0,.slice none 0 0] 39)).heap.size=w.heap.size+2:=by simp
 rw [aQ] at hrb;have gY:=aa hrb;have dM:=aa hsz;clear hu nt hP hN hrb hsz;go_in;go_wp2_with fail;generalize (w.alloc (.cells #[P,N] 39)).alloc (.cells #[.slice none 0 0,.slice none 0 0] 39)=w1 at *;refine gw.out.mono ?_;rintro e w2 ⟨rfl,hb2⟩;have aI:Up w1 w2:=hb2;have hc0:=aI.cell lV.out;have hc1:=aI.cell gA.out;have wE:=aa (HT.out.keep (aI.kept S));have lG:=(bH aI (w.heap.size+1) (by rw [dM.out];omega)).trans gY.out;have b7:=aa (HU.out.trans aI);have sg:Hid (w.heap.size+2<=w2.heap.size):=by unfold Hid;have:=aI.size;rw [dM.out] at this;exact this
 clear hb2 aI gw HT HU lV gA gY;by_cases he:aA t=0
 ·have HE:=aa he
  rw [he];have vu:=aa lG;have jD:=aa (S5 S w2 _ t wE.out he hz);clear lG he;go_wp2_with fail;refine jD.out.mono ?_;rintro e w4 ⟨gU,_,rfl,P4,N4,rfl,qB,qD⟩;obtain ⟨pp,pc,rfl,_,_⟩:=aq.open qB;obtain ⟨np,nc,rfl,_,_⟩:=aq.open qD;have oz:=(bH gU (w.heap.size+1) (by have:=sg.out;omega)).trans vu.out;have nV:w4.cell? ⟨w.heap.size+1,0,none⟩=some (.slice none 0 0):=by simp [World.cell?,oz]
  have hr1:w4.cell? ⟨w.heap.size+1,1,none⟩=some (.slice none 0 0):=by simp [World.cell?,oz]
  have Ch:w4.frozen? ⟨w.heap.size+1,0,none⟩=false:=by simp [World.frozen?,oz]
  have sQ:w4.frozen? ⟨w.heap.size+1,1,none⟩=false:=by simp [World.frozen?,oz]
  have Mv:=aa qB;have X5:=aa qD;have HST:=aa (gz (w:=w) (p:=.slice pp (kW t).ps.length pc) (q:=.slice np (kW t).ns.length nc) oz (by omega) (b7.out.trans gU));clear qB qD gU oz jD vu hc0 hc1;go_wp2_with fail;obtain ⟨s1,s2,s3,s4⟩:=HST.out;have hs2:=sg.out;refine ⟨rfl,.tuple #[.agg #[.slice pp (kW t).ps.length pc,.slice np (kW t).ns.length nc],.int .i64 0],by simp [results,Tryz.results75,go_sem,s2,s3],?_⟩;exact ⟨s1,.inr ⟨HE.out,_,rfl,_,_,rfl,(af.keep Mv.out fun b hb _=>s4 b (by omega)).sub fun b hb _=>by omega,(aj.keep X5.out fun b hb _=>s4 b (by omega)).sub fun b hb _=>by omega⟩⟩
 ·have Mz:(aA t != 0)=true:=by simpa using he
  have nV:w2.cell? ⟨w.heap.size+1,0,none⟩=some (.slice none 0 0):=by simp [World.cell?,lG]
  have hr1:w2.cell? ⟨w.heap.size+1,1,none⟩=some (.slice none 0 0):=by simp [World.cell?,lG]
  have Ch:w2.frozen? ⟨w.heap.size+1,0,none⟩=false:=by simp [World.frozen?,lG]
  have sQ:w2.frozen? ⟨w.heap.size+1,1,none⟩=false:=by simp [World.frozen?,lG]
  have HST:=aa (gz (w:=w) (p:=.slice none 0 0) (q:=.slice none 0 0) lG (by omega) b7.out);have HE:=aa he;clear he lG hc0 hc1;generalize aA t=te at Mz ⊢;go_wp2_with fail;obtain ⟨s1,s2,s3,s4⟩:=HST.out;refine ⟨rfl,.tuple #[.agg #[.slice none 0 0,.slice none 0 0],.int .i64 1],by simp [results,Tryz.results75,go_sem,s2,s3],?_⟩;exact ⟨s1,.inl ⟨HE.out,rfl⟩⟩
end
section
deriving instance DecidableEq for ax
def EU (f:Nat->ByteArray) (a:Nat):List Nat->List Nat
 | []=>[a]
 | b::l=>if tL f a b then a::b::l else b::EU f a l
def Bw (f:Nat->ByteArray):List Nat->List Nat
 | []=>[]
 | a::l=>EU f a (Bw f l)
theorem JD (f:Nat->ByteArray) (a:Nat) (l₂:List Nat) (h2:∀b∈l₂,tL f a b=true):∀l₁:List Nat,(∀b∈l₁,tL f a b=false)->EU f a (l₁++l₂)=l₁++a::l₂
 | [],_=>by
  cases l₂ with
  | nil=>rfl
  | cons b l=>simp only [di,EU];rw [if_pos (h2 b (by simp))]
 | b::l₁,h1=>by
  simp only [cm,EU]
  rw [if_neg (by rw [h1 b (by simp)];decide),JD f a l₂ h2 l₁ fun c hc=>h1 c (by simp [hc])]
theorem Ie (f:Nat->ByteArray):∀l,eU f l=Bw f l
 | []=>by unfold eU;simp [Bw]
 | a::l=>by
  have ih:=Ie f l
  obtain ⟨l₁,l₂,h1,h2,h3⟩:=List.mergeSort_cons (Mj f) (Mk f) a l
  have hs:=yO f (a::l)
  unfold eU at hs ih ⊢
  rw [h1] at hs ⊢
  show _=EU f a (Bw f l)
  rw [<- ih,h2]
  refine (JD f a l₂ (fun b hb=>?_) l₁ fun b hb=>by simpa using h3 b hb).symm
  have h4:=(List.pairwise_append.1 hs).2.1
  exact (iB.1 h4).1 b hb
end
section
inductive RT where
 | node (nm:ByteArray) (kids:List RT)
namespace RT
def nm:RT->ByteArray | .node n _=>n
def kids:RT->List RT | .node _ k=>k
end RT
mutual
def aP:RT->Nat
 | .node _ ks=>1+aK ks
def aK:List RT->Nat
 | []=>0
 | r::rs=>aP r+aK rs
end
mutual
def kT:RT->Nat->Int->List Int
 | .node _ ks,n,p=>p::fU ks n (n+1)
def fU:List RT->Nat->Nat->List Int
 | [],_,_=>[]
 | r::rs,own,n=>kT r n (own:Int)++fU rs own (n+aP r)
end
mutual
def eo:RT->List ByteArray
 | .node nm ks=>nm::eu ks
def eu:List RT->List ByteArray
 | []=>[]
 | r::rs=>eo r++eu rs
end
def flat (r:RT):ax:=⟨kT r 0 (-1),eo r⟩
mutual
theorem rV:∀(r:RT) (n:Nat) (p:Int),(kT r n p).length=aP r
 | .node _ ks,n,p=>by simp only [kT,aP,aW];rw [ri ks n (n+1)];omega
theorem ri:∀(rs:List RT) (own n:Nat),(fU rs own n).length=aK rs
 | [],_,_=>rfl
 | r::rs,own,n=>by simp only [fU,aK,bg];rw [rV r n own,ri rs own (n+aP r)]
end
mutual
theorem F8:∀(r:RT),(eo r).length=aP r
 | .node _ ks=>by simp only [eo,aP,aW];rw [y6 ks];omega
theorem y6:∀(rs:List RT),(eu rs).length=aK rs
 | []=>rfl
 | r::rs=>by simp only [eu,aK,bg];rw [F8 r,y6 rs]
end
def wV (F:bW):Nat->Nat->RT
 | 0,i=>.node (F.nm i) []
 | d+1,i=>.node (F.nm i) ((F.kids i).map (wV F d))
def bE (F:bW) (rk:Nat->Nat) (i:Nat):RT:=wV F (rk i) i
section
variable {F:bW} {n:Nat} {rk:Nat->Nat}
theorem MA (h:Wf F n rk):∀ {d e i:Nat},i<n->rk i<=d->rk i<=e->wV F d i=wV F e i:=by
 intro d
 induction d with
 | zero =>
  intro e i hi hd he;have hk:F.kids i=[]:=by
   cases hk:F.kids i with
   | nil=>rfl
   | cons k l=>have:=(h.kid i hi k (by rw [hk];simp)).2;omega
  cases e with
  | zero=>rfl
  | succ e=>simp [wV,hk]
 | succ d ih =>
  intro e i hi hd he;cases e with
  | zero =>
   have hk:F.kids i=[]:=by
    cases hk:F.kids i with
    | nil=>rfl
    | cons k l=>have:=(h.kid i hi k (by rw [hk];simp)).2;omega
   simp [wV,hk]
  | succ e =>
   simp only [wV];congr 1;refine lz fun k hk=>?_;have:=h.kid i hi k hk;exact ih this.1 (by omega) (by omega)
theorem fh (h:Wf F n rk) {i:Nat} (hi:i<n):bE F rk i=.node (F.nm i) ((F.kids i).map (bE F rk)):=by
 have h1:bE F rk i=wV F (rk i+1) i:=MA h hi (ah _) (oh _);rw [h1];simp only [wV];congr 1;refine lz fun k hk=>?_;have:=h.kid i hi k hk;exact MA h this.1 (by omega) (ah _)
theorem gq {l:List (Option Nat×Int)} {k j:Option Nat} (v:Int) (h:j≠k):(qY l k v).lookup j=l.lookup j:=by
 have hne:(j==k)=false:=by simpa using h
 unfold qY;split
 ·induction l with
  | nil=>simp [List.lookup,hne]
  | cons x l ih =>
   rename_i hl;obtain ⟨x1,x2⟩:=x;rw [cm,gm,gm];cases hx:(j==x1)
   ·refine ih ?_
    rw [gm] at hl;cases hx2:(k==x1)
    ·rw [hx2] at hl;exact hl
    ·rw [hx2] at hl;cases hl
   ·rfl
 ·have key:∀q:List (Option Nat×Int),List.lookup j (q.map (fun x=>if x.1=k then (k,v) else x))=List.lookup j q:=by
   intro q
   induction q with
   | nil=>rfl
   | cons x l ih =>
    obtain ⟨x1,x2⟩:=x
    rw [dV,gm]
    by_cases e:x1=k
    ·subst e
     simp only [if_true]
     rw [gm,hne];exact ih
    ·rw [if_neg e,gm]
     cases (j==x1)
     ·exact ih
     ·rfl
  exact key l
theorem Am {l:List (Option Nat×Int)} {k:Option Nat} (v:Int) (h:l.lookup k=none):(qY l k v).lookup k=some v:=by
 unfold qY;rw [h];simp only [Option.isNone_none,if_true]
 induction l with
 | nil=>simp
 | cons x l ih =>
  obtain ⟨x1,x2⟩:=x;rw [gm] at h;rw [cm,gm];cases hx:(k==x1)
  ·rw [hx] at h;exact ih h
  ·rw [hx] at h;cases h
structure Ov (s s':DR) (ps:List Int) (ns:List ByteArray) (nd:List Nat):Prop where
 ps:s'.ps=s.ps++ps
 ns:s'.ns=s.ns++ns
 old:∀k:Option Nat,(∀j∈nd,k≠some j)->s'.mp.lookup k=s.mp.lookup k
theorem aet (h:yZ F n rk) {R:Nat} (hR:∀i,i<n->rk i<=R):∀ {d i:Nat} (p:Option Nat) (np:Int) (s:DR),i<n->rk i<=d->p≠some i->s.mp.lookup p=some np->(∀j∈cI F rk i,s.mp.lookup (some j)=none) ->
  Ov s ((gT F rk i p).foldl (uo F) s) (kT (bE F rk i) s.ps.length np) (eo (bE F rk i)) (cI F rk i):=by
 intro d
 induction d with
 | zero =>
  intro i p np s hi hd hp hl hn;have hk:F.kids i=[]:=by
   cases hk:F.kids i with
   | nil=>rfl
   | cons k l=>have:=(h.wf.kid i hi k (by rw [hk];simp)).2;omega
  rw [kS h.wf hi,fh h.wf hi,dQ h.wf hi,hk];have hni:=hn i (by rw [dQ h.wf hi];simp);refine ⟨?_,?_,fun k hk2=>gq _ (hk2 i (by simp))⟩
  ·show s.ps++[((qY s.mp (some i) _).lookup p).getD 0]=_
   rw [gq _ hp,hl];rfl
  ·rfl
 | succ d ih =>
  intro i p np s hi hd hp hl hn;rw [kS h.wf hi,fh h.wf hi,dQ h.wf hi];have hni:=hn i (by rw [dQ h.wf hi];simp);have iF:=oy h hR hi (ah (rk i));rw [dQ h.wf hi,qu] at iF;have key:∀(l:List Nat),(∀k∈l,k∈F.kids i)->(l.flatMap fun k=>cI F rk k).Nodup->(∀k∈l,i∉cI F rk k)->∀(s2:DR) (own:Nat),s2.mp.lookup (some i)=some (own:Int)->(∀k∈l,∀j∈cI F rk k,s2.mp.lookup (some j)=none) ->
    Ov s2 ((l.flatMap fun k=>gT F rk k (some i)).foldl (uo F) s2) (fU (l.map (bE F rk)) own s2.ps.length) (eu (l.map (bE F rk))) (l.flatMap fun k=>cI F rk k):=by
   intro l
   induction l with
   | nil=>intro _ _ _ s2 own _ _;exact ⟨by simp [fU],by simp [eu],fun _ _=>rfl⟩
   | cons c l ihl =>
    intro hin hdl hil s2 own ho hno
    have hcc:=h.wf.kid i hi c (hin c (by simp))
    rw [gj,List.foldl_append,gj]
    rw [gj,ua] at hdl
    have h1:=ih (some i) (own:Int) s2 hcc.1 (by omega) (fun e=>by
     injection e with e
     have:=hcc.2;rw [e] at this;omega) ho (hno c (by simp))
    have h2:=ihl (fun k hk=>hin k (by simp [hk])) hdl.2.1 (fun k hk=>hil k (by simp [hk])) ((gT F rk c (some i)).foldl (uo F) s2) own
     ((h1.old (some i) (fun j hj e=>by injection e with e;subst e;exact hil c (by simp) hj)).trans ho)
     (fun k hk j hj=>(h1.old (some j) (fun j2 hj2 e=>by
      injection e with e;subst e
      exact hdl.2.2 j hj2 j (iA.2 ⟨k,hk,hj⟩) rfl)).trans (hno k (by simp [hk]) j hj))
    refine ⟨?_,?_,fun k hk=>?_⟩
    ·rw [h2.ps,h1.ps,dV,fU,dS,bg,rV]
    ·rw [h2.ns,h1.ns,dV,eu,dS]
    ·rw [h2.old k (fun j hj=>hk j (by simp [hj])),h1.old k (fun j hj=>hk j (by simp [hj]))]
  have hin:∀k∈F.kids i,i∉cI F rk k:=fun k hk hm=>iF.1 (iA.2 ⟨k,hk,hm⟩)
  have h3:=key (F.kids i) (fun k hk=>hk) iF.2 hin (uo F s (i,p)) s.ps.length (Am _ hni) (fun k hk j hj=>by
   show (qY s.mp (some i) _).lookup (some j)=none;rw [gq _ (fun e=>by injection e with e;subst e;exact hin k hk hj)]
   exact hn j (by rw [dQ h.wf hi];exact mX _ (iA.2 ⟨k,hk,hj⟩)))
  have hps:(uo F s (i,p)).ps=s.ps++[np]:=by show s.ps++[((qY s.mp (some i) _).lookup p).getD 0]=_;rw [gq _ hp,hl];rfl
  rw [List.foldl_cons];refine ⟨?_,?_,fun k hk=>?_⟩
  ·rw [h3.ps,hps,kT,dS,bg];rfl
  ·rw [h3.ns]
   show (s.ns++[F.nm i])++_=_;rw [eo,dS];rfl
  ·rw [h3.old k (fun j hj=>hk j (by simp [hj]))]
   exact gq _ (hk i (by simp))
theorem VR (h:yZ F n rk) {R:Nat} (hR:∀i,i<n->rk i<=R) {i:Nat} (hi:i<n):kC F rk i=flat (bE F rk i):=by
 have h1:=aet h hR (d:=rk i) none (-1) K1 hi (ah _) (fun e=>by cases e) rfl (fun j _=>rfl);unfold kC flat eV;rw [h1.ps,h1.ns];rfl
end
end
section
def aU:RT->ByteArray
 | .node nm []=>nm
 | .node _ (k::_)=>aU k
def gD (a:RT):List RT->List RT
 | []=>[a]
 | b::l=>if eB (aU a) (aU b)<=0 then a::b::l else b::gD a l
mutual
def bJ:RT->RT
 | .node nm ks=>.node nm (fM ks)
def fM:List RT->List RT
 | []=>[]
 | r::rs=>gD (bJ r) (fM rs)
end
theorem Pz {f:Nat->ByteArray} {g:Nat->RT} {a:Nat} (ha:aU (g a)=f a):∀l:List Nat,(∀k∈l,aU (g k)=f k)->gD (g a) (l.map g)=(EU f a l).map g
 | [],_=>rfl
 | b::l,h=>by
  have hb:=h b (by simp)
  rw [dV,gD,EU,ha,hb]
  unfold tL
  by_cases e:eB (f a) (f b)<=0
  ·rw [if_pos e,if_pos (by simpa using e)];rfl
  ·rw [if_neg e,if_neg (by simpa using e),Pz ha l (fun k hk=>h k (by simp [hk]))];rfl
theorem Ig {f:Nat->ByteArray} {l:List Nat} {k:Nat}:k∈Bw f l↔k∈l:=by rw [<- Ie];exact (ic f l).mem_iff
theorem JE {f:Nat->ByteArray} {h:Nat->RT}:∀l:List Nat,(∀k∈l,aU (bJ (h k))=f k)->fM (l.map h)=(Bw f l).map fun k=>bJ (h k)
 | [],_=>rfl
 | a::l,hf=>by
  rw [dV,fM,Bw,JE l (fun k hk=>hf k (by simp [hk]))]
  exact Pz (g:=fun k=>bJ (h k)) (hf a (by simp)) (Bw f l) (fun k hk=>hf k (by simp [Ig.1 hk]))
section
variable {F:bW} {n:Nat} {rk:Nat->Nat}
theorem Wf.mQ (h:Wf F n rk) (p:Nat->Bool):Wf (F.mQ rk p) n rk:=⟨fun i hi k hk=>h.kid i hi k ((F.mB rk p i).mem_iff.1 hk)⟩
theorem aa0 (h:Wf F n rk) (p:Nat->Bool):∀ {d i:Nat},i<n->rk i<=d->(∀j,dz F rk i j=true->p j=true)->bE (F.mQ rk p) rk i=bJ (bE F rk i)/\aU (bJ (bE F rk i))=j9 F rk i:=by
 intro d;have adJ:∀i,p i=true->(F.mQ rk p).kids i=eU (j9 F rk) (F.kids i):=fun i hp=>by show (if p i then _ else _:List Nat)=_;rw [if_pos hp]
 induction d with
 | zero =>
  intro i hi hd hp;have hk:F.kids i=[]:=by
   cases hk:F.kids i with
   | nil=>rfl
   | cons k l=>have:=(h.kid i hi k (by rw [hk];simp)).2;omega
  have hk2:(F.mQ rk p).kids i=[]:=by rw [adJ i (hp i (nw h hi)),hk];simp [eU]
  rw [fh (h.mQ p) hi,fh h hi,yP h hi,hk,hk2];refine ⟨rfl,?_⟩;simp [eU,bJ,fM,aU]
 | succ d ih =>
  intro i hi hd hp;have hk2:=adJ i (hp i (nw h hi));have key:∀k∈F.kids i,bE (F.mQ rk p) rk k=bJ (bE F rk k)/\aU (bJ (bE F rk k))=j9 F rk k:=fun k hk=>by have hkk:=h.kid i hi k hk;exact ih hkk.1 (by omega) (fun j hj=>hp j (tC h hi hk hj))
  have hs:fM ((F.kids i).map (bE F rk))=(Bw (j9 F rk) (F.kids i)).map fun k=>bJ (bE F rk k):=JE _ (fun k hk=>(key k hk).2);rw [fh (h.mQ p) hi,fh h hi,yP h hi,hk2,Ie,bJ,hs];refine ⟨?_,?_⟩
  ·show RT.node (F.nm i) _=_
   congr 1;exact lz fun k hk=>(key k (Ig.1 hk)).1
  ·cases hc:Bw (j9 F rk) (F.kids i) with
   | nil=>rfl
   | cons k l =>
    rw [dV,aU];exact (key k (Ig.1 (by rw [hc];simp))).2
end
def jE (t:ax):RT:=bE (fA t) (dI t) 0
theorem oQ {t:ax} (h:aA t=0):kW t=flat (bJ (jE t)):=by
 obtain ⟨hp,_⟩:=aH h;unfold kW;rw [VR (Py h) (R:=t.ps.length) (fun i _=>Ci t i) hp];congr 1;exact (aa0 (ew h).wf _ hp (ah _) (fun j hj=>by simpa using hj)).1
def kf (own:Nat):List Int->Nat->List Nat
 | [],_=>[]
 | p::ps,b=>if p=(own:Int) then b::kf own ps (b+1) else kf own ps (b+1)
theorem y7 (own:Nat):∀(a c:List Int) (b:Nat),kf own (a++c) b=kf own a b++kf own c (b+a.length)
 | [],c,b=>rfl
 | x::a,c,b=>by
  rw [cm,kf,kf,y7 own a c (b+1),aW,show b+1+a.length=b+(a.length+1) by omega]
  split<;>rfl
theorem yq (own:Nat):∀(a:List Int) (b:Nat),(∀x∈a,x≠(own:Int))->kf own a b=[]
 | [],_,_=>rfl
 | x::a,b,h=>by rw [kf,if_neg (h x (by simp)),yq own a (b+1) (fun y hy=>h y (by simp [hy]))]
theorem PA {ps:List Int} {n:Nat} (h:∀i,i<ps.length->gi ps i=n->n<i):bL ps n=kf n ps 0:=by
 have key:∀k,k<=ps.length->cZ ps n k=kf n (ps.take k) 0:=by
  intro k
  induction k with
  | zero=>intro _;rfl
  | succ k ih =>
   intro hk;rw [lB,ih (by omega),jQ (show k<ps.length by omega),y7,jl,Nat.min_eq_left (by omega)];(have hg:gi ps k=ps[k]:=by simp [gi,show k<ps.length by omega]);congr 1;by_cases e:gi ps k=n
   ·rw [if_pos ⟨h k (by omega) e,e⟩,kf,if_pos (by rw [<- hg];exact e)]
    simp [kf]
   ·rw [if_neg (fun q=>e q.2),kf,if_neg (by rw [<- hg];exact e)];rfl
 unfold bL;rw [key _ (ah _),fT]
mutual
theorem PB:∀(r:RT) (n:Nat) (p x:Int),x∈kT r n p->x=p\/((n:Int)<=x/\x<((n+aP r:Nat):Int))
 | .node _ ks,n,p,x,h=>by
  rw [kT,bA] at h
  rcases h with h | h
  ·exact .inl h
  ·right
   rw [aP]
   rcases Ck ks n (n+1) x h with h1 | ⟨h1,h2⟩
   ·subst h1;exact ⟨by omega,by omega⟩
   ·exact ⟨by omega,by omega⟩
theorem Ck:∀(rs:List RT) (own n:Nat) (x:Int),x∈fU rs own n->x=(own:Int)\/((n:Int)<=x/\x<((n+aK rs:Nat):Int))
 | [],_,_,_,h=>by simp [fU] at h
 | r::rs,own,n,x,h=>by
  rw [fU,ey] at h
  rw [aK]
  rcases h with h | h
  ·rcases PB r n own x h with h1 | ⟨h1,h2⟩
   ·exact .inl h1
   ·exact .inr ⟨h1,by omega⟩
  ·rcases Ck rs own (n+aP r) x h with h1 | ⟨h1,h2⟩
   ·exact .inl h1
   ·exact .inr ⟨by omega,by omega⟩
end
def EW:List RT->Nat->List Nat
 | [],_=>[]
 | r::rs,n=>n::EW rs (n+aP r)
theorem K4 (own:Nat):∀(rs:List RT) (n:Nat),own<n->kf own (fU rs own n) n=EW rs n
 | [],_,_=>rfl
 | .node nm ks::rs,n,h=>by
  rw [fU,EW,y7,rV,K4 own rs _ (by omega),kT,kf,if_pos rfl]
  rw [yq own _ _ (fun x hx e=>by
   rcases Ck ks n (n+1) x hx with h1 | ⟨h1,_⟩<;>omega)]
  rfl
theorem oT (r:RT):0<aP r:=by cases r;rw [aP];omega
theorem y8 (a b:List Int) (k:Nat):gi (a++b) (a.length+k)=gi b k:=by simp [gi,List.getElem?_append_right]
theorem aa1 (a b:List ByteArray) (k:Nat):gs (a++b) (a.length+k)=gs b k:=by simp [gs,List.getElem?_append_right]
theorem Dc {a:List Int} (b:List Int) {k:Nat} (h:k<a.length):gi (a++b) k=gi a k:=by simp [gi,List.getElem?_append_left h]
theorem aeu:∀(d:Nat) (r:RT) (n:Nat) (p:Int) (t:ax) (pre post:List Int) (TM K5:List ByteArray),aP r<=d->t.ps=pre++(kT r n p++post)->t.ns=TM++(eo r++K5)->pre.length=n->TM.length=n->p<n->(∀x∈pre,x<(n:Int))->(∀x∈post,x<(n:Int)\/((n+aP r:Nat):Int)<=x)->wV (fA t) d n=r:=by
 intro d
 induction d with
 | zero=>intro r n p t pre post TM K5 hd;have:=oT r;omega
 | succ d ih =>
  intro r n p t pre post TM K5 hd hps B7 hpl hnl hp hpre hpost;obtain ⟨nm,ks⟩:=r;rw [aP] at hd hpost;rw [kT,cm] at hps;rw [eo,cm] at B7;have hk:(fA t).kids n=EW ks (n+1):=by
   rw [jW,PA]
   ·rw [hps,y7,yq n pre 0 (fun x hx e=>by have:=hpre x hx;omega),di,kf,if_neg (by omega),y7,hpl,je,K4 n ks (n+1) (by omega),ri]
    rw [yq n post _ (fun x hx e=>by rcases hpost x hx with h1 | h1<;>omega),eG]
   ·intro i hi e
    rw [hps] at e;rcases oo i n with h1 | h1 | h1
    ·rw [Dc _ (by omega)] at e
     have:=hpre _ (sL (l:=pre) (k:=i) (by omega));omega
    ·subst h1
     have h2:=y8 pre (p::(fU ks i (i+1)++post)) 0;rw [hpl] at h2;have h2:gi (pre++p::(fU ks i (i+1)++post)) i=p:=h2;rw [h2] at e;have e:p=i:=e;omega
    ·exact h1
  have hnm:(fA t).nm n=nm:=by show gs t.ns n=nm;rw [B7,<- hnl];exact aa1 TM (nm::(eu ks++K5)) 0
  rw [wV,hk,hnm];congr 1;have key:∀(rs:List RT) (m:Nat) (pr:List Int) (nr:List ByteArray),aK rs<=d->t.ps=pr++(fU rs n m++post)->t.ns=nr++(eu rs++K5)->pr.length=m->nr.length=m->n<m->(∀x∈pr,x<(m:Int))->(∀x∈post,x<(n:Int)\/((m+aK rs:Nat):Int)<=x)->(EW rs m).map (wV (fA t) d)=rs:=by
   intro rs
   induction rs with
   | nil=>intros;rfl
   | cons r rs ihr =>
    intro m pr nr hd2 aa2 aa3 VP Bz hm JF hpo;rw [aK] at hd2 hpo;rw [fU,dS] at aa2;rw [eu,dS] at aa3;rw [EW,dV]
    have h1:=ih r m n t pr (fU rs n (m+aP r)++post) nr (eu rs++K5) (by omega) aa2 aa3 VP Bz (by omega) JF (fun x hx=>by
     rcases ey.1 hx with hx | hx
     ·rcases Ck rs n (m+aP r) x hx with h2 | ⟨h2,_⟩
      ·exact .inl (by omega)
      ·exact .inr h2
     ·rcases hpo x hx with h2 | h2
      ·exact .inl (by omega)
      ·exact .inr (by omega))
    have h2:=ihr (m+aP r) (pr++kT r m n) (nr++eo r) (by omega) (by rw [aa2,dS]) (by rw [aa3,dS])
     (by rw [bg,rV,VP]) (by rw [bg,F8,Bz]) (by omega) (fun x hx=>by
      rcases ey.1 hx with hx | hx
      ·have:=JF x hx;omega
      ·rcases PB r m n x hx with h3 | ⟨_,h3⟩<;>omega) (fun x hx=>by
      rcases hpo x hx with h3 | h3
      ·exact .inl h3
      ·exact .inr (by omega))
    rw [h1,h2]
  exact key ks (n+1) (pre++[p]) (TM++[nm]) (by omega) (by rw [hps,dS];rfl) (by rw [B7,dS];rfl) (by simp [hpl]) (by simp [hnl]) (by omega) (fun x hx=>by
   rcases ey.1 hx with hx | hx
   ·have:=hpre x hx;omega
   ·have:x=p:=by simpa using hx
    omega) (fun x hx=>by
   rcases hpost x hx with h3 | h3
   ·exact .inl h3
   ·exact .inr (by omega))
theorem vv (r:RT):(flat r).ps.length=aP r:=rV r 0 (-1)
theorem Cl (r:RT):(flat r).ns.length=aP r:=F8 r
theorem vw (r:RT):jE (flat r)=r:=by
 unfold jE bE;have h:dI (flat r) 0=aP r:=by unfold dI;rw [vv,Nat.sub_zero]
 rw [h];exact aeu (aP r) r 0 (-1) (flat r) [] [] [] [] (ah _) (by simp [flat]) (by simp [flat]) rfl rfl (by omega) (fun x hx=>by simp at hx) (fun x hx=>by simp at hx)
end
end Go.Proofs.YthgabkgmkolobaaGreat
