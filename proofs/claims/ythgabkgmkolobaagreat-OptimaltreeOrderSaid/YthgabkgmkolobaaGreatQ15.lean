/- The plain law of forests in which no node has two parents and no two leaves one name: .. -/
import Derived.Test.YthgabkgmkolobaaGreatQ14
set_option maxRecDepth 100000
set_option maxHeartbeats 2000000
namespace Go.Proofs.YthgabkgmkolobaaGreat
section
theorem jt {F:aX} {n:Nat} {rk:Nat->Nat} (h:Wf F n rk) {i:Nat} (hi:i<n):b8 F rk i i=true:=by rw [iJ h hi];simp
theorem nI {F:aX} {n:Nat} {rk:Nat->Nat} (h:Wf F n rk) {i k j:Nat} (hi:i<n) (hk:k∈F.kids i) (hj:b8 F rk k j=true):b8 F rk i j=true:=by
 rw [iJ h hi,wu];exact .inr (eF.2 ⟨k,hk,hj⟩)
theorem rN {F:aX} {n:Nat} {rk:Nat->Nat} (h:Wf F n rk) {i j:Nat} (hi:i<n) (hj:b8 F rk i j=true):j=i\/∃k∈F.kids i,b8 F rk k j=true:=by
 rw [iJ h hi,wu] at hj;rcases hj with h1 | h1
 ·exact .inl (by simpa using h1)
 ·obtain ⟨k,hk,h2⟩:=eF.1 h1
  exact .inr ⟨k,hk,h2⟩
theorem pR {F:aX} {n:Nat} {rk:Nat->Nat} (h:Wf F n rk):∀ {d i j:Nat},i<n->rk i<=d->b8 F rk i j=true->j<n:=by
 intro d
 induction d with
 | zero =>
  intro i j hi hd hj;rcases rN h hi hj with rfl | ⟨k,hk,h1⟩
  ·exact hi
  ·have:=(h.kid i hi k hk).2;omega
 | succ d ih =>
  intro i j hi hd hj;rcases rN h hi hj with rfl | ⟨k,hk,h1⟩
  ·exact hi
  ·have:=h.kid i hi k hk
   exact ih this.1 (by omega) h1
structure uj (F:aX) (n:Nat) (rk:Nat->Nat):Prop where
 wf:Wf F n rk
 one:∀p q k,p<n->q<n->k∈F.kids p->k∈F.kids q->p=q
 nodup:∀i,i<n->(F.kids i).Nodup
 acw:∀a b,a<n->b<n->F.kids a=[]->F.kids b=[]->F.nm a=F.nm b->a=b
section
variable {F:aX} {n:Nat} {rk:Nat->Nat}
theorem rO (h:Wf F n rk):∀ {d x j:Nat},x<n->rk x<=d->b8 F rk x j=true->j≠x->∃p,p<n/\j∈F.kids p/\b8 F rk x p=true:=by
 intro d
 induction d with
 | zero =>
  intro x j hx hd hj hne;rcases rN h hx hj with e | ⟨k,hk,h1⟩
  ·exact absurd e hne
  ·have:=(h.kid x hx k hk).2;omega
 | succ d ih =>
  intro x j hx hd hj hne;rcases rN h hx hj with e | ⟨k,hk,h1⟩
  ·exact absurd e hne
  ·have hkk:=h.kid x hx k hk
   by_cases e:j=k
   ·exact ⟨x,hx,by rw [e];exact hk,jt h hx⟩
   ·obtain ⟨p,hp,h2,h3⟩:=ih hkk.1 (by omega) h1 e
    exact ⟨p,hp,h2,nI h hx hk h3⟩
theorem NI (h:uj F n rk) {R:Nat} (hR:∀i,i<n->rk i<=R):∀ {m j x y:Nat},R - rk j<=m->j<n->x<n->y<n->b8 F rk x j=true->b8 F rk y j=true->b8 F rk x y=true\/b8 F rk y x=true:=by
 intro m
 induction m with
 | zero =>
  intro j x y hm hj hx hy h1 h2;by_cases e1:j=x
  ·subst e1;exact .inr h2
  ·obtain ⟨p,hp,hk,_⟩:=rO h.wf hx (ah _) h1 e1
   have:=(h.wf.kid p hp j hk).2;have:=hR p hp;omega
 | succ m ih =>
  intro j x y hm hj hx hy h1 h2;by_cases e1:j=x
  ·subst e1;exact .inr h2
  ·by_cases e2:j=y
   ·subst e2;exact .inl h1
   ·obtain ⟨p,hp,hk,h3⟩:=rO h.wf hx (ah _) h1 e1
    obtain ⟨q,hq,hk2,h4⟩:=rO h.wf hy (ah _) h2 e2;obtain rfl:=h.one p q j hp hq hk hk2;have h5:=(h.wf.kid p hp j hk).2;have h6:=hR p hp;exact ih (by omega) hp hx hy h3 h4
theorem A2 (h:uj F n rk) {R:Nat} (hR:∀i,i<n->rk i<=R) {i x y j:Nat} (hi:i<n) (hx:x∈F.kids i) (hy:y∈F.kids i) (h1:b8 F rk x j=true) (h2:b8 F rk y j=true):x=y:=by
 have qF:=h.wf.kid i hi x hx;have NJ:=h.wf.kid i hi y hy;have hj:=pR h.wf qF.1 (ah _) h1;have key:∀ {a b:Nat},a∈F.kids i->b∈F.kids i->a<n->rk a<rk i->b8 F rk a b=true->a=b:=fun {a b} ha hb NK har hab=>by
  by_cases e:b=a
  ·exact e.symm
  ·obtain ⟨p,hp,hk,h3⟩:=rO h.wf NK (ah _) hab e
   obtain rfl:=h.one p i b hp hi hk hb;have:=nQ h.wf NK h3;omega
 rcases NI h hR (ah _) hj qF.1 NJ.1 h1 h2 with h3 | h3
 ·exact key hx hy qF.1 qF.2 h3
 ·exact (key hy hx NJ.1 NJ.2 h3).symm
theorem Ki (h:Wf F n rk):∀ {d i:Nat},i<n->rk i<=d->∃j,j<n/\b8 F rk i j=true/\F.kids j=[]/\gq F rk i=F.nm j:=by
 intro d
 induction d with
 | zero =>
  intro i hi hd;have hk:F.kids i=[]:=by
   cases hk:F.kids i with
   | nil=>rfl
   | cons k l=>have:=(h.kid i hi k (by rw [hk];simp)).2;omega
  exact ⟨i,hi,jt h hi,hk,by rw [sL h hi,hk];simp [cW]⟩
 | succ d ih =>
  intro i hi hd;by_cases hk:F.kids i=[]
  ·exact ⟨i,hi,jt h hi,hk,by rw [sL h hi,hk];simp [cW]⟩
  ·obtain ⟨k,l,hs⟩:∃k l,cW (gq F rk) (F.kids i)=k::l:=by
    cases hs:cW (gq F rk) (F.kids i) with
    | nil=>have h1:=(eH (gq F rk) (F.kids i)).length_eq;rw [hs] at h1;exact absurd (List.length_eq_zero_iff.1 h1.symm) hk
    | cons k l=>exact ⟨k,l,rfl⟩
   have hki:k∈F.kids i:=(eH (gq F rk) _).mem_iff.1 (by rw [hs];simp)
   have hkk:=h.kid i hi k hki
   obtain ⟨j,hj,h1,h2,h3⟩:=ih hkk.1 (by omega)
   exact ⟨j,hj,nI h hi hki h1,h2,by rw [sL h hi,hs];exact h3⟩
theorem uj.QI (h:uj F n rk) (hl:∀i,i<n->(F.kids i).length<=1000) {R:Nat} (hR:∀i,i<n->rk i<=R):AV F n rk:=by
 refine ⟨h.wf,fun i hi x hx y hy e=>?_,h.nodup,hl⟩;have qF:=h.wf.kid i hi x hx;have NJ:=h.wf.kid i hi y hy;obtain ⟨a,ha,h1,h2,h3⟩:=Ki h.wf qF.1 (ah _);obtain ⟨b,hb,h4,h5,h6⟩:=Ki h.wf NJ.1 (ah _);rw [h3,h6] at e;obtain rfl:=h.acw a b ha hb h2 h5 e;exact A2 h hR hi hx hy h1 h4
def b5 (F:aX) (rk:Nat->Nat) (i:Nat):List Nat:=(eD F rk i none).map (·.1)
theorem Kj (h:Wf F n rk):∀ {d i:Nat} (p q:Option Nat),i<n->rk i<=d->(eD F rk i p).map (·.1)=(eD F rk i q).map (·.1):=by
 intro d;cases d with
 | zero=>intro i p q hi hd;rw [gW h hi,gW h hi];rfl
 | succ d=>intro i p q hi hd;rw [gW h hi,gW h hi];rfl
theorem cD (h:Wf F n rk) {i:Nat} (hi:i<n):b5 F rk i=i::(F.kids i).flatMap fun k=>b5 F rk k:=by
 unfold b5;rw [gW h hi,bI,tX];congr 1;exact iK fun k hk=>Kj h _ _ (h.kid i hi k hk).1 (ah _)
theorem eL (h:Wf F n rk):∀ {d i j:Nat},i<n->rk i<=d->(j∈b5 F rk i↔b8 F rk i j=true):=by
 intro d
 induction d with
 | zero =>
  intro i j hi hd;rw [cD h hi,iJ h hi];have hk:F.kids i=[]:=by
   cases hk:F.kids i with
   | nil=>rfl
   | cons k l=>have:=(h.kid i hi k (by rw [hk];simp)).2;omega
  simp [hk]
 | succ d ih =>
  intro i j hi hd;rw [cD h hi,iJ h hi];simp only [bX,gh,wu,beq_iff_eq,eF];constructor
  ·rintro (e | ⟨k,hk,h1⟩)
   ·exact .inl e
   ·have:=h.kid i hi k hk
    exact .inr ⟨k,hk,(ih this.1 (by omega)).1 h1⟩
  ·rintro (e | ⟨k,hk,h1⟩)
   ·exact .inl e
   ·have:=h.kid i hi k hk
    exact .inr ⟨k,hk,(ih this.1 (by omega)).2 h1⟩
theorem j9 (h:uj F n rk) {R:Nat} (hR:∀i,i<n->rk i<=R):∀ {d i:Nat},i<n->rk i<=d->(b5 F rk i).Nodup:=by
 intro d
 induction d with
 | zero =>
  intro i hi hd;rw [cD h.wf hi];have hk:F.kids i=[]:=by
   cases hk:F.kids i with
   | nil=>rfl
   | cons k l=>have:=(h.wf.kid i hi k (by rw [hk];simp)).2;omega
  simp [hk]
 | succ d ih =>
  intro i hi hd;rw [cD h.wf hi,gz];refine ⟨fun hm=>?_,?_⟩
  ·obtain ⟨k,hk,h1⟩:=gh.1 hm
   have hkk:=h.wf.kid i hi k hk;have:=nQ h.wf hkk.1 ((eL h.wf hkk.1 (ah _)).1 h1);omega
  ·have hsub:∀l:List Nat,l.Nodup->(∀k∈l,k∈F.kids i)->(l.flatMap fun k=>b5 F rk k).Nodup:=by
    intro l
    induction l with
    | nil=>intro _ _;simp
    | cons x l ihl =>
     intro hn hin
     obtain ⟨hx,hl⟩:=gz.1 hn
     have hxx:=h.wf.kid i hi x (hin x (by simp))
     rw [fZ,gy]
     refine ⟨ih hxx.1 (by omega),ihl hl (fun k hk=>hin k (by simp [hk])),fun a ha b hb e=>?_⟩
     subst e
     obtain ⟨y,hy,h2⟩:=gh.1 hb
     have hyy:=h.wf.kid i hi y (hin y (by simp [hy]))
     have:=A2 h hR hi (hin x (by simp)) (hin y (by simp [hy])) ((eL h.wf hxx.1 (ah _)).1 ha) ((eL h.wf hyy.1 (ah _)).1 h2)
     subst this;exact hx hy
   exact hsub _ (h.nodup i hi) (fun k hk=>hk)
theorem pU {l:List Nat} {n:Nat} (h:l.Nodup) (hl:∀x∈l,x<n):l.length<=n:=by
 have h1:l ⊆ List.range n:=fun x hx=>cU.2 (hl x hx);have:=h.length_le_of_subset h1;simpa using this
theorem T7 (h:uj F n rk) {R:Nat} (hR:∀i,i<n->rk i<=R) {i:Nat} (hi:i<n) (p:Option Nat):(eD F rk i p).length<=n:=by
 have h1:(eD F rk i p).length=(b5 F rk i).length:=by have:=congrArg List.length (Kj h.wf p none hi (ah _));simpa [b5] using this
 rw [h1];exact pU (j9 h hR hi (ah _)) (fun x hx=>pR h.wf hi (ah _) ((eL h.wf hi (ah _)).1 hx))
theorem uj.jh (h:uj F n rk) (p:Nat->Bool):uj (F.jh rk p) n rk :=
 ⟨⟨fun i hi k hk=>h.wf.kid i hi k ((F.iQ rk p i).mem_iff.1 hk)⟩,fun a b k ha hb h1 h2=>h.one a b k ha hb ((F.iQ rk p a).mem_iff.1 h1) ((F.iQ rk p b).mem_iff.1 h2),fun i hi=>(F.iQ rk p i).symm.nodup_iff.1 (h.nodup i hi),
  fun a b ha hb h1 h2 e=>h.acw a b ha hb (List.perm_nil.1 (by rw [<- h1];exact (F.iQ rk p a).symm)) (List.perm_nil.1 (by rw [<- h2];exact (F.iQ rk p b).symm)) e⟩
end
def dx (t:aF) (i:Nat):Nat:=t.ps.length - i
theorem kM (t:aF) (i:Nat):(fU t).kids i=b7 t.ps i:=rfl
theorem eM {t:aF} (h:aB t=0):uj (fU t) t.ps.length (dx t):=by
 obtain ⟨hp,_,hn,hok,he⟩:=aM h;refine ⟨⟨fun i hi k hk=>?_⟩,fun p q k _ _ h1 h2=>?_,fun i _=>?_,fun a b ha hb h1 h2 e=>?_⟩
 ·obtain ⟨h1,h2,_⟩:=fI.1 hk
  exact ⟨h1,by unfold dx;omega⟩
 ·obtain ⟨_,_,h3⟩:=fI.1 h1
  obtain ⟨_,_,h4⟩:=fI.1 h2;omega
 ·exact List.Pairwise.filter _ List.nodup_range
 ·have leaf:∀i,i<t.ps.length->b7 t.ps i=[]->isIn t.ps i=false:=fun i hi hk=>by
   cases hin:isIn t.ps i with
   | false=>rfl
   | true=>exact absurd hk ((lV hok i).2 hin)
  have e:gs t.ns a=gs t.ns b:=e
  rcases vk a b with hab | hab | hab
  ·have h3:=(wL h hb (leaf b hb h2)).2
   have:=any_false h3 hab
   simp [e] at this
  ·exact hab
  ·have h3:=(wL h ha (leaf a ha h1)).2
   have:=any_false h3 hab
   simp [e] at this
theorem vH (t:aF) (i:Nat):dx t i<=t.ps.length:=Nat.sub_le _ _
end
section
open Go.RowKit Go.Deep
def kN (t:aF):aX:=(fU t).jh (dx t) fun j=>false || b8 (fU t) (dx t) 0 j
def qX (t:aF):aF:=gG (kN t) (dx t) 0
theorem oM (t:aF) (i:Nat):((fU t).kids i).length<=t.ps.length:=by rw [kM];exact qD _ _ _
theorem Gl {t:aF} (h:aB t=0):uj (kN t) t.ps.length (dx t):=(eM h).jh _
theorem Fk (t:aF) (i:Nat):((kN t).kids i).length<=t.ps.length:=by
 have h:=((fU t).iQ (dx t) (fun j=>false || b8 (fU t) (dx t) 0 j) i).length_eq;have h2:=oM t i;unfold kN;omega
theorem jv {w:World} {P N:Value} {T:TypeId}:(w.alloc (.cells #[P,N] T)).heap[w.heap.size]? = some (.cells #[P,N] T (0,0)):=qB _ _
theorem JD (S:Nat->Prop) (w:World) (v:Value) (t:aF) (hT:aC S w v t) (he:aB t=0) (hz:∀k,(gs t.ns k).size<=70000):Calls Tryz.prog 129 #[v] w (NA w (qX t)):=by
 obtain ⟨oB,C8,hnl,hok,_⟩:=aM he;obtain ⟨P,N,rfl,hP,hN⟩:=hT;have hu:=(Up.alloc w (.cells #[P,N] 39)).trans (Up.alloc _ (.cells #[.slice none 0 0,.slice none 0 0] 39));have kY:aC S ((w.alloc (.cells #[P,N] 39)).alloc (.cells #[.slice none 0 0,.slice none 0 0] 39)) (.agg #[P,N]) t:=aC.keep ⟨P,N,rfl,hP,hN⟩ (hu.kept _);have HN:=aa (TY S _ _ t kY (by omega) hnl hok hz);have HU:=aa hu;have hc0:=(Up.alloc _ (.cells #[.slice none 0 0,.slice none 0 0] 39)).cell (fO w P N 39)
 have hc1:=(Up.alloc _ (.cells #[.slice none 0 0,.slice none 0 0] 39)).cell (fP w P N 39);have hrb:=jv (w:=w.alloc (.cells #[P,N] 39)) (P:=.slice none 0 0) (N:=.slice none 0 0) (T:=39);have hsz:((w.alloc (.cells #[P,N] 39)).alloc (.cells #[.slice none 0 0,.slice none 0 0] 39)).heap.size=w.heap.size+2:=by simp
 rw [aL] at hrb;have mI:=aa hrb;have dm:=aa hsz;have Nd:=aa (eM he);have Ef:=aa (Gl he);clear hu kY hP hN hrb hsz hnl hok
 go_enter Tryz.func129,Tryz.ntmps129
 go_wp2_with fail;generalize (w.alloc (.cells #[P,N] 39)).alloc (.cells #[.slice none 0 0,.slice none 0 0] 39)=w1 at *;refine HN.out.mono ?_;rintro e w2 ⟨aJ,g,A,kv,rfl,hF,hrow⟩;have jL:=hrow.cell (i:=0) oB;have Gm:=aa hF;have bY:=aa aJ;have ki:=aa ((bH aJ (w.heap.size+1) (by rw [dm.out];omega)).trans mI.out);have hs2:=aJ.size;simp only [bD] at jL;have hpos:(0:Int)<(t.ps.length:Int):=by omega
 clear aJ hF hrow hc0 hc1 HN;go_wp2_with fail;have V1:bB w1.heap.size t.ps.length A kv ((fU t).jh (dx t) fun _=>false) w2:=Gm.out.congr fun j _=>⟨rfl,rfl,rfl⟩;have yF:=aa (Qy (Nd.out.QI (fun i _=>by have:=oM t i;omega) (fun i _=>vH t i)) (dx t 0) 0 (fun _=>false) w2 oB (ah _) V1);clear jL;refine yF.out.mono ?_;rintro e w3 ⟨rfl,Kb,hfu⟩;have hb3:Below w1.heap.size w2 w3:=hfu.below V1 hs2;have V2:=aa ((hb3.block (w.heap.size+1) (by rw [dm.out];omega)).trans ki.out);have ek:Hid (Up w1 w3):=fc bY.out hb3
 have Eg:=aa (NB (F:=kN t) (rk:=dx t) Ef.out.wf (fun i _=>by have:=Fk t i;omega) w3 0 oB Kb (by have:=T7 Ef.out (fun i _=>vH t i) oB none;omega));clear Kb hfu hb3 yF Gm V1 ki bY;go_wp2_with fail;refine Eg.out.mono ?_;rintro e w4 ⟨dQ,_,rfl,P4,N4,rfl,fD,fE⟩;obtain ⟨pp,pc,rfl,_,_⟩:=aA.open fD;obtain ⟨np,nc,rfl,_,_⟩:=aA.open fE;have kj:=(bH dQ (w.heap.size+1) (by have:=ek.out.size;rw [dm.out] at this;omega)).trans V2.out;have lG:w4.cell? ⟨w.heap.size+1,0,none⟩=some (.slice none 0 0):=by simp [World.cell?,kj]
 have hr1:w4.cell? ⟨w.heap.size+1,1,none⟩=some (.slice none 0 0):=by simp [World.cell?,kj]
 have Kh:w4.frozen? ⟨w.heap.size+1,0,none⟩=false:=by simp [World.frozen?,kj]
 have vG:w4.frozen? ⟨w.heap.size+1,1,none⟩=false:=by simp [World.frozen?,kj]
 have Ed:=aa fD;have NL:=aa fE;have kX:=aa dQ;have aar:=aa kj;clear fD fE dQ kj Eg V2;go_wp2_with fail;have dw:∀b,b≠w.heap.size+1->((w4.setCell ⟨w.heap.size+1,0,none⟩ (.slice pp (gG (kN t) (dx t) 0).ps.length pc)).setCell ⟨w.heap.size+1,1,none⟩ (.slice np (gG (kN t) (dx t) 0).ns.length nc)).heap[b]? = w4.heap[b]?:=fun b hb=>by rw [blk_setCell_other _ _ _ _ hb,blk_setCell_other _ _ _ _ hb]
 have hheap:((w4.setCell ⟨w.heap.size+1,0,none⟩ (.slice pp (gG (kN t) (dx t) 0).ps.length pc)).setCell ⟨w.heap.size+1,1,none⟩ (.slice np (gG (kN t) (dx t) 0).ns.length nc)).heap[w.heap.size+1]? = some (Obj.cells #[.slice pp (gG (kN t) (dx t) 0).ps.length pc,.slice np (gG (kN t) (dx t) 0).ns.length nc] 39 (0,0)):=by simp [World.setCell,Array.getElem?_modify,aar.out]
 have dQ:=HU.out.trans (ek.out.trans kX.out);have mL:Up w ((w4.setCell ⟨w.heap.size+1,0,none⟩ (.slice pp (gG (kN t) (dx t) 0).ps.length pc)).setCell ⟨w.heap.size+1,1,none⟩ (.slice np (gG (kN t) (dx t) 0).ns.length nc)) :=
  ⟨dQ.os,dQ.tape,dQ.output,by simp [World.size_setCell];exact dQ.size,fun b hb=>(dw b (by omega)).trans (dQ.block b hb)⟩
 have hs3:w.heap.size+2<=w3.heap.size:=by have:=ek.out.size;rw [dm.out] at this;exact this
 generalize (w4.setCell ⟨w.heap.size+1,0,none⟩ (.slice pp (gG (kN t) (dx t) 0).ps.length pc)).setCell ⟨w.heap.size+1,1,none⟩ (.slice np (gG (kN t) (dx t) 0).ns.length nc)=w5 at *;have lG:w5.cell? ⟨w.heap.size+1,0,none⟩=some (.slice pp (gG (kN t) (dx t) 0).ps.length pc):=by simp [World.cell?,hheap]
 have hr1:w5.cell? ⟨w.heap.size+1,1,none⟩=some (.slice np (gG (kN t) (dx t) 0).ns.length nc):=by simp [World.cell?,hheap]
 refine ⟨rfl,.agg #[.slice pp (gG (kN t) (dx t) 0).ps.length pc,.slice np (gG (kN t) (dx t) 0).ns.length nc],by simp [results,Tryz.results129,go_sem,lG,hr1],?_⟩;exact ⟨mL,_,rfl,_,_,rfl,(ay.keep Ed.out fun b hb _=>dw b (by omega)).sub fun b hb _=>by omega,(av.keep NL.out fun b hb _=>dw b (by omega)).sub fun b hb _=>by omega⟩
def V3 (w:World) (t:aF) (e:Ending) (w':World):Prop :=
 Up w w'/\((aB t≠0/\e=.returned (.tuple #[.agg #[.slice none 0 0,.slice none 0 0],.int .i64 1]))\/(aB t=0/\∃v,e=.returned (.tuple #[v,.int .i64 0])/\aC (fun b=>w.heap.size<=b) w' v (qX t)))
theorem eW {w w4:World} {B:Nat} {x y p q:Value} {T:TypeId} (hb:w4.heap[B]? = some (Obj.cells #[x,y] T (0,0))) (hB:w.heap.size<=B) (hu:Up w w4) :
  Up w ((w4.setCell ⟨B,0,none⟩ p).setCell ⟨B,1,none⟩ q)/\((w4.setCell ⟨B,0,none⟩ p).setCell ⟨B,1,none⟩ q).cell? ⟨B,0,none⟩=some p/\((w4.setCell ⟨B,0,none⟩ p).setCell ⟨B,1,none⟩ q).cell? ⟨B,1,none⟩=some q /\
   ∀b,b≠B->((w4.setCell ⟨B,0,none⟩ p).setCell ⟨B,1,none⟩ q).heap[b]? = w4.heap[b]?:=by
 have dw:∀b,b≠B->((w4.setCell ⟨B,0,none⟩ p).setCell ⟨B,1,none⟩ q).heap[b]? = w4.heap[b]?:=fun b hb=>by rw [blk_setCell_other _ _ _ _ hb,blk_setCell_other _ _ _ _ hb]
 have hheap:((w4.setCell ⟨B,0,none⟩ p).setCell ⟨B,1,none⟩ q).heap[B]? = some (Obj.cells #[p,q] T (0,0)):=by simp [World.setCell,Array.getElem?_modify,hb]
 exact ⟨⟨hu.os,hu.tape,hu.output,by simp [World.size_setCell];exact hu.size,fun b hb=>(dw b (by omega)).trans (hu.block b hb)⟩,by simp [World.cell?,hheap],by simp [World.cell?,hheap],dw⟩
theorem Gn (S:Nat->Prop) (w:World) (v:Value) (t:aF) (hT:aC S w v t) (hp:t.ps.length<=1000000) (hn:t.ns.length<=1000000) (hz:∀k,(gs t.ns k).size<=70000):Calls Tryz.prog 75 #[v] w (V3 w t):=by
 obtain ⟨P,N,rfl,hP,hN⟩:=hT;have hu:=(Up.alloc w (.cells #[P,N] 39)).trans (Up.alloc _ (.cells #[.slice none 0 0,.slice none 0 0] 39));have kY:aC S ((w.alloc (.cells #[P,N] 39)).alloc (.cells #[.slice none 0 0,.slice none 0 0] 39)) (.agg #[P,N]) t:=aC.keep ⟨P,N,rfl,hP,hN⟩ (hu.kept _);have ir:=aa (vq S _ _ t kY hp hn hz);have HT:=aa kY;have HU:=aa hu;have gj:=aa ((Up.alloc _ (.cells #[.slice none 0 0,.slice none 0 0] 39)).cell (fO w P N 39));have kr:=aa ((Up.alloc _ (.cells #[.slice none 0 0,.slice none 0 0] 39)).cell (fP w P N 39))
 have hc0:=gj.out;have hc1:=kr.out;have hrb:=jv (w:=w.alloc (.cells #[P,N] 39)) (P:=.slice none 0 0) (N:=.slice none 0 0) (T:=39);have hsz:((w.alloc (.cells #[P,N] 39)).alloc (.cells #[.slice none 0 0,.slice none 0 0] 39)).heap.size=w.heap.size+2:=by simp
 rw [aL] at hrb;have mI:=aa hrb;have dm:=aa hsz;clear hu kY hP hN hrb hsz
 go_enter Tryz.func75,Tryz.ntmps75
 go_wp2_with fail;generalize (w.alloc (.cells #[P,N] 39)).alloc (.cells #[.slice none 0 0,.slice none 0 0] 39)=w1 at *;refine ir.out.mono ?_;rintro e w2 ⟨rfl,hb2⟩;have aJ:Up w1 w2:=hb2;have hc0:=aJ.cell gj.out;have hc1:=aJ.cell kr.out;have uk:=aa (HT.out.keep (aJ.kept S));have lY:=(bH aJ (w.heap.size+1) (by rw [dm.out];omega)).trans mI.out;have bY:=aa (HU.out.trans aJ);have mM:Hid (w.heap.size+2<=w2.heap.size):=by unfold Hid;have:=aJ.size;rw [dm.out] at this;exact this
 clear hb2 aJ ir HT HU gj kr mI;by_cases he:aB t=0
 ·have HE:=aa he
  rw [he];have ki:=aa lY;have nO:=aa (JD S w2 _ t uk.out he hz);clear lY he;go_wp2_with fail;refine nO.out.mono ?_;rintro e w4 ⟨dQ,_,rfl,P4,N4,rfl,fD,fE⟩;obtain ⟨pp,pc,rfl,_,_⟩:=aA.open fD;obtain ⟨np,nc,rfl,_,_⟩:=aA.open fE;have kj:=(bH dQ (w.heap.size+1) (by have:=mM.out;omega)).trans ki.out;have lG:w4.cell? ⟨w.heap.size+1,0,none⟩=some (.slice none 0 0):=by simp [World.cell?,kj]
  have hr1:w4.cell? ⟨w.heap.size+1,1,none⟩=some (.slice none 0 0):=by simp [World.cell?,kj]
  have Kh:w4.frozen? ⟨w.heap.size+1,0,none⟩=false:=by simp [World.frozen?,kj]
  have vG:w4.frozen? ⟨w.heap.size+1,1,none⟩=false:=by simp [World.frozen?,kj]
  have Ed:=aa fD;have NL:=aa fE;have HST:=aa (eW (w:=w) (p:=.slice pp (qX t).ps.length pc) (q:=.slice np (qX t).ns.length nc) kj (by omega) (bY.out.trans dQ));clear fD fE dQ kj nO ki hc0 hc1;go_wp2_with fail;obtain ⟨s1,s2,s3,s4⟩:=HST.out;have hs2:=mM.out;refine ⟨rfl,.tuple #[.agg #[.slice pp (qX t).ps.length pc,.slice np (qX t).ns.length nc],.int .i64 0],by simp [results,Tryz.results75,go_sem,s2,s3],?_⟩
  exact ⟨s1,.inr ⟨HE.out,_,rfl,_,_,rfl,(ay.keep Ed.out fun b hb _=>s4 b (by omega)).sub fun b hb _=>by omega,(av.keep NL.out fun b hb _=>s4 b (by omega)).sub fun b hb _=>by omega⟩⟩
 ·have B5:(aB t != 0)=true:=by simpa using he
  have lG:w2.cell? ⟨w.heap.size+1,0,none⟩=some (.slice none 0 0):=by simp [World.cell?,lY]
  have hr1:w2.cell? ⟨w.heap.size+1,1,none⟩=some (.slice none 0 0):=by simp [World.cell?,lY]
  have Kh:w2.frozen? ⟨w.heap.size+1,0,none⟩=false:=by simp [World.frozen?,lY]
  have vG:w2.frozen? ⟨w.heap.size+1,1,none⟩=false:=by simp [World.frozen?,lY]
  have HST:=aa (eW (w:=w) (p:=.slice none 0 0) (q:=.slice none 0 0) lY (by omega) bY.out);have HE:=aa he;clear he lY hc0 hc1;generalize aB t=te at B5 ⊢;go_wp2_with fail;obtain ⟨s1,s2,s3,s4⟩:=HST.out;refine ⟨rfl,.tuple #[.agg #[.slice none 0 0,.slice none 0 0],.int .i64 1],by simp [results,Tryz.results75,go_sem,s2,s3],?_⟩;exact ⟨s1,.inl ⟨HE.out,rfl⟩⟩
end
section
deriving instance DecidableEq for aF
def yG (f:Nat->ByteArray) (a:Nat):List Nat->List Nat
 | []=>[a]
 | b::l=>if nP f a b then a::b::l else b::yG f a l
def uU (f:Nat->ByteArray):List Nat->List Nat
 | []=>[]
 | a::l=>yG f a (uU f l)
theorem B6 (f:Nat->ByteArray) (a:Nat) (l₂:List Nat) (h2:∀b∈l₂,nP f a b=true):∀l₁:List Nat,(∀b∈l₁,nP f a b=false)->yG f a (l₁++l₂)=l₁++a::l₂
 | [],_=>by
  cases l₂ with
  | nil=>rfl
  | cons b l=>simp only [cw,yG];rw [if_pos (h2 b (by simp))]
 | b::l₁,h1=>by
  simp only [bz,yG]
  rw [if_neg (by rw [h1 b (by simp)];decide),B6 f a l₂ h2 l₁ fun c hc=>h1 c (by simp [hc])]
theorem A3 (f:Nat->ByteArray):∀l,cW f l=uU f l
 | []=>by unfold cW;simp [uU]
 | a::l=>by
  have ih:=A3 f l
  obtain ⟨l₁,l₂,h1,h2,h3⟩:=List.mergeSort_cons (D2 f) (D3 f) a l
  have hs:=sK f (a::l)
  unfold cW at hs ih ⊢
  rw [h1] at hs ⊢
  show _=yG f a (uU f l)
  rw [<- ih,h2]
  refine (B6 f a l₂ (fun b hb=>?_) l₁ fun b hb=>by simpa using h3 b hb).symm
  have h4:=(List.pairwise_append.1 hs).2.1
  exact (wH.1 h4).1 b hb
end
end Go.Proofs.YthgabkgmkolobaaGreat
