/- The plain law of forests in which no node has two parents and no two leaves one name: .. -/
import Derived.Test.YtfomhlbhcifgbaaGreatDoorQ23
set_option maxRecDepth 100000
set_option maxHeartbeats 2000000
namespace Go.Proofs.YtfomhlbhcifgbaaGreatDoor
section
theorem iU {F:aW} {n:Nat} {rk:Nat->Nat} (h:Wf F n rk) {i:Nat} (hi:i<n):bY F rk i i=true:=by rw [gV h hi];simp
theorem ng {F:aW} {n:Nat} {rk:Nat->Nat} (h:Wf F n rk) {i k j:Nat} (hi:i<n) (hk:k∈F.kids i) (hj:bY F rk k j=true):bY F rk i j=true:=by
 rw [gV h hi,vg];exact .inr (cR.2 ⟨k,hk,hj⟩)
theorem qU {F:aW} {n:Nat} {rk:Nat->Nat} (h:Wf F n rk) {i j:Nat} (hi:i<n) (hj:bY F rk i j=true):j=i\/∃k∈F.kids i,bY F rk k j=true:=by
 rw [gV h hi,vg] at hj;rcases hj with h1 | h1
 ·exact .inl (by simpa using h1)
 ·obtain ⟨k,hk,h2⟩:=cR.1 h1
  exact .inr ⟨k,hk,h2⟩
theorem oT {F:aW} {n:Nat} {rk:Nat->Nat} (h:Wf F n rk):∀ {d i j:Nat},i<n->rk i<=d->bY F rk i j=true->j<n:=by
 intro d
 induction d with
 | zero =>
  intro i j hi hd hj;rcases qU h hi hj with rfl | ⟨k,hk,h1⟩
  ·exact hi
  ·have:=(h.kid i hi k hk).2;omega
 | succ d ih =>
  intro i j hi hd hj;rcases qU h hi hj with rfl | ⟨k,hk,h1⟩
  ·exact hi
  ·have:=h.kid i hi k hk
   exact ih this.1 (by omega) h1
structure tA (F:aW) (n:Nat) (rk:Nat->Nat):Prop where
 wf:Wf F n rk
 one:∀p q k,p<n->q<n->k∈F.kids p->k∈F.kids q->p=q
 nodup:∀i,i<n->(F.kids i).Nodup
 acF:∀a b,a<n->b<n->F.kids a=[]->F.kids b=[]->F.nm a=F.nm b->a=b
section
variable {F:aW} {n:Nat} {rk:Nat->Nat}
theorem qV (h:Wf F n rk):∀ {d x j:Nat},x<n->rk x<=d->bY F rk x j=true->j≠x->∃p,p<n/\j∈F.kids p/\bY F rk x p=true:=by
 intro d
 induction d with
 | zero =>
  intro x j hx hd hj hne;rcases qU h hx hj with e | ⟨k,hk,h1⟩
  ·exact absurd e hne
  ·have:=(h.kid x hx k hk).2;omega
 | succ d ih =>
  intro x j hx hd hj hne;rcases qU h hx hj with e | ⟨k,hk,h1⟩
  ·exact absurd e hne
  ·have hkk:=h.kid x hx k hk
   by_cases e:j=k
   ·exact ⟨x,hx,by rw [e];exact hk,iU h hx⟩
   ·obtain ⟨p,hp,h2,h3⟩:=ih hkk.1 (by omega) h1 e
    exact ⟨p,hp,h2,ng h hx hk h3⟩
theorem NF (h:tA F n rk) {R:Nat} (hR:∀i,i<n->rk i<=R):∀ {m j x y:Nat},R - rk j<=m->j<n->x<n->y<n->bY F rk x j=true->bY F rk y j=true->bY F rk x y=true\/bY F rk y x=true:=by
 intro m
 induction m with
 | zero =>
  intro j x y hm hj hx hy h1 h2;by_cases e1:j=x
  ·subst e1;exact .inr h2
  ·obtain ⟨p,hp,hk,_⟩:=qV h.wf hx (aj _) h1 e1
   have:=(h.wf.kid p hp j hk).2;have:=hR p hp;omega
 | succ m ih =>
  intro j x y hm hj hx hy h1 h2;by_cases e1:j=x
  ·subst e1;exact .inr h2
  ·by_cases e2:j=y
   ·subst e2;exact .inl h1
   ·obtain ⟨p,hp,hk,h3⟩:=qV h.wf hx (aj _) h1 e1
    obtain ⟨q,hq,hk2,h4⟩:=qV h.wf hy (aj _) h2 e2;obtain rfl:=h.one p q j hp hq hk hk2;have h5:=(h.wf.kid p hp j hk).2;have h6:=hR p hp;exact ih (by omega) hp hx hy h3 h4
theorem AD (h:tA F n rk) {R:Nat} (hR:∀i,i<n->rk i<=R) {i x y j:Nat} (hi:i<n) (hx:x∈F.kids i) (hy:y∈F.kids i) (h1:bY F rk x j=true) (h2:bY F rk y j=true):x=y:=by
 have nV:=h.wf.kid i hi x hx;have NG:=h.wf.kid i hi y hy;have hj:=oT h.wf nV.1 (aj _) h1;have key:∀ {a b:Nat},a∈F.kids i->b∈F.kids i->a<n->rk a<rk i->bY F rk a b=true->a=b:=fun {a b} ha hb NH har hab=>by
  by_cases e:b=a
  ·exact e.symm
  ·obtain ⟨p,hp,hk,h3⟩:=qV h.wf NH (aj _) hab e
   obtain rfl:=h.one p i b hp hi hk hb;have:=nA h.wf NH h3;omega
 rcases NF h hR (aj _) hj nV.1 NG.1 h1 h2 with h3 | h3
 ·exact key hx hy nV.1 nV.2 h3
 ·exact (key hy hx NG.1 NG.2 h3).symm
theorem J4 (h:Wf F n rk):∀ {d i:Nat},i<n->rk i<=d->∃j,j<n/\bY F rk i j=true/\F.kids j=[]/\fL F rk i=F.nm j:=by
 intro d
 induction d with
 | zero =>
  intro i hi hd;have hk:F.kids i=[]:=by
   cases hk:F.kids i with
   | nil=>rfl
   | cons k l=>have:=(h.kid i hi k (by rw [hk];simp)).2;omega
  exact ⟨i,hi,iU h hi,hk,by rw [rS h hi,hk];simp [cF]⟩
 | succ d ih =>
  intro i hi hd;by_cases hk:F.kids i=[]
  ·exact ⟨i,hi,iU h hi,hk,by rw [rS h hi,hk];simp [cF]⟩
  ·obtain ⟨k,l,hs⟩:∃k l,cF (fL F rk) (F.kids i)=k::l:=by
    cases hs:cF (fL F rk) (F.kids i) with
    | nil=>have h1:=(eu (fL F rk) (F.kids i)).length_eq;rw [hs] at h1;exact absurd (A3.1 h1.symm) hk
    | cons k l=>exact ⟨k,l,rfl⟩
   have hki:k∈F.kids i:=(eu (fL F rk) _).mem_iff.1 (by rw [hs];simp)
   have hkk:=h.kid i hi k hki
   obtain ⟨j,hj,h1,h2,h3⟩:=ih hkk.1 (by omega)
   exact ⟨j,hj,ng h hi hki h1,h2,by rw [rS h hi,hs];exact h3⟩
theorem tA.QT (h:tA F n rk) (hl:∀i,i<n->(F.kids i).length<=1000) {R:Nat} (hR:∀i,i<n->rk i<=R):Aw F n rk:=by
 refine ⟨h.wf,fun i hi x hx y hy e=>?_,h.nodup,hl⟩;have nV:=h.wf.kid i hi x hx;have NG:=h.wf.kid i hi y hy;obtain ⟨a,ha,h1,h2,h3⟩:=J4 h.wf nV.1 (aj _);obtain ⟨b,hb,h4,h5,h6⟩:=J4 h.wf NG.1 (aj _);rw [h3,h6] at e;obtain rfl:=h.acF a b ha hb h2 h5 e;exact AD h hR hi hx hy h1 h4
def bW (F:aW) (rk:Nat->Nat) (i:Nat):List Nat:=(dW F rk i none).map (·.1)
theorem J5 (h:Wf F n rk):∀ {d i:Nat} (p q:Option Nat),i<n->rk i<=d->(dW F rk i p).map (·.1)=(dW F rk i q).map (·.1):=by
 intro d;cases d with
 | zero=>intro i p q hi hd;rw [gw h hi,gw h hi];rfl
 | succ d=>intro i p q hi hd;rw [gw h hi,gw h hi];rfl
theorem cu (h:Wf F n rk) {i:Nat} (hi:i<n):bW F rk i=i::(F.kids i).flatMap fun k=>bW F rk k:=by
 unfold bW;rw [gw h hi,cV,vu];congr 1;exact gW fun k hk=>J5 h _ _ (h.kid i hi k hk).1 (aj _)
theorem ew (h:Wf F n rk):∀ {d i j:Nat},i<n->rk i<=d->(j∈bW F rk i↔bY F rk i j=true):=by
 intro d
 induction d with
 | zero =>
  intro i j hi hd;rw [cu h hi,gV h hi];have hk:F.kids i=[]:=by
   cases hk:F.kids i with
   | nil=>rfl
   | cons k l=>have:=(h.kid i hi k (by rw [hk];simp)).2;omega
  simp [hk]
 | succ d ih =>
  intro i j hi hd;rw [cu h hi,gV h hi];simp only [bQ,jo,vg,beq_iff_eq,cR];constructor
  ·rintro (e | ⟨k,hk,h1⟩)
   ·exact .inl e
   ·have:=h.kid i hi k hk
    exact .inr ⟨k,hk,(ih this.1 (by omega)).1 h1⟩
  ·rintro (e | ⟨k,hk,h1⟩)
   ·exact .inl e
   ·have:=h.kid i hi k hk
    exact .inr ⟨k,hk,(ih this.1 (by omega)).2 h1⟩
theorem lB (h:tA F n rk) {R:Nat} (hR:∀i,i<n->rk i<=R):∀ {d i:Nat},i<n->rk i<=d->(bW F rk i).Nodup:=by
 intro d
 induction d with
 | zero =>
  intro i hi hd;rw [cu h.wf hi];have hk:F.kids i=[]:=by
   cases hk:F.kids i with
   | nil=>rfl
   | cons k l=>have:=(h.wf.kid i hi k (by rw [hk];simp)).2;omega
  simp [hk]
 | succ d ih =>
  intro i hi hd;rw [cu h.wf hi,sK];refine ⟨fun hm=>?_,?_⟩
  ·obtain ⟨k,hk,h1⟩:=jo.1 hm
   have hkk:=h.wf.kid i hi k hk;have:=nA h.wf hkk.1 ((ew h.wf hkk.1 (aj _)).1 h1);omega
  ·have hsub:∀l:List Nat,l.Nodup->(∀k∈l,k∈F.kids i)->(l.flatMap fun k=>bW F rk k).Nodup:=by
    intro l
    induction l with
    | nil=>intro _ _;simp
    | cons x l ihl =>
     intro hn hin
     obtain ⟨hx,hl⟩:=sK.1 hn
     have hxx:=h.wf.kid i hi x (hin x (by simp))
     rw [iI,sJ]
     refine ⟨ih hxx.1 (by omega),ihl hl (fun k hk=>hin k (by simp [hk])),fun a ha b hb e=>?_⟩
     subst e
     obtain ⟨y,hy,h2⟩:=jo.1 hb
     have hyy:=h.wf.kid i hi y (hin y (by simp [hy]))
     have:=AD h hR hi (hin x (by simp)) (hin y (by simp [hy])) ((ew h.wf hxx.1 (aj _)).1 ha) ((ew h.wf hyy.1 (aj _)).1 h2)
     subst this;exact hx hy
   exact hsub _ (h.nodup i hi) (fun k hk=>hk)
theorem r6 {l:List Nat} {n:Nat} (h:l.Nodup) (hl:∀x∈l,x<n):l.length<=n:=by
 have h1:l ⊆ List.range n:=fun x hx=>bX.2 (hl x hx);have:=h.length_le_of_subset h1;simpa using this
theorem Ux (h:tA F n rk) {R:Nat} (hR:∀i,i<n->rk i<=R) {i:Nat} (hi:i<n) (p:Option Nat):(dW F rk i p).length<=n:=by
 have h1:(dW F rk i p).length=(bW F rk i).length:=by have:=congrArg List.length (J5 h.wf p none hi (aj _));simpa [bW] using this
 rw [h1];exact r6 (lB h hR hi (aj _)) (fun x hx=>oT h.wf hi (aj _) ((ew h.wf hi (aj _)).1 hx))
theorem tA.iA (h:tA F n rk) (p:Nat->Bool):tA (F.iA rk p) n rk :=
 ⟨⟨fun i hi k hk=>h.wf.kid i hi k ((F.ir rk p i).mem_iff.1 hk)⟩,fun a b k ha hb h1 h2=>h.one a b k ha hb ((F.ir rk p a).mem_iff.1 h1) ((F.ir rk p b).mem_iff.1 h2),fun i hi=>(F.ir rk p i).symm.nodup_iff.1 (h.nodup i hi),
  fun a b ha hb h1 h2 e=>h.acF a b ha hb (List.perm_nil.1 (by rw [<- h1];exact (F.ir rk p a).symm)) (List.perm_nil.1 (by rw [<- h2];exact (F.ir rk p b).symm)) e⟩
end
def fF (t:aA) (i:Nat):Nat:=t.ps.length - i
theorem oU (t:aA) (i:Nat):(k9 t).kids i=eX t.ps i:=rfl
theorem fB {t:aA} (h:aF t=0):tA (k9 t) t.ps.length (fF t):=by
 obtain ⟨hp,_,hn,hok,he⟩:=aG h;refine ⟨⟨fun i hi k hk=>?_⟩,fun p q k _ _ h1 h2=>?_,fun i _=>?_,fun a b ha hb h1 h2 e=>?_⟩
 ·obtain ⟨h1,h2,_⟩:=gP.1 hk
  exact ⟨h1,by unfold fF;omega⟩
 ·obtain ⟨_,_,h3⟩:=gP.1 h1
  obtain ⟨_,_,h4⟩:=gP.1 h2;omega
 ·exact List.Pairwise.filter _ List.nodup_range
 ·have leaf:∀i,i<t.ps.length->eX t.ps i=[]->isIn t.ps i=false:=fun i hi hk=>by
   cases hin:isIn t.ps i with
   | false=>rfl
   | true=>exact absurd hk ((pR hok i).2 hin)
  have e:gs t.ns a=gs t.ns b:=e
  rcases Nat.lt_trichotomy a b with hab | hab | hab
  ·have h3:=(Bd h hb (leaf b hb h2)).2
   have:=any_false h3 hab
   simp [e] at this
  ·exact hab
  ·have h3:=(Bd h ha (leaf a ha h1)).2
   have:=any_false h3 hab
   simp [e] at this
theorem yq (t:aA) (i:Nat):fF t i<=t.ps.length:=Nat.sub_le _ _
end
section
open Go.RowKit Go.Deep
def jY (t:aA):aW:=(k9 t).iA (fF t) fun j=>false || bY (k9 t) (fF t) 0 j
def r7 (t:aA):aA:=fR (jY t) (fF t) 0
theorem r8 (t:aA) (i:Nat):((k9 t).kids i).length<=t.ps.length:=by rw [oU];exact xw _ _ _
theorem GS {t:aA} (h:aF t=0):tA (jY t) t.ps.length (fF t):=(fB h).iA _
theorem EU (t:aA) (i:Nat):((jY t).kids i).length<=t.ps.length:=by
 have h:=((k9 t).ir (fF t) (fun j=>false || bY (k9 t) (fF t) 0 j) i).length_eq;have h2:=r8 t i;unfold jY;omega
theorem uK {w:World} {P N:Value} {T:TypeId}:(w.alloc (.cells #[P,N] T)).heap[w.heap.size]? = some (.cells #[P,N] T (0,0)):=nP _ _
theorem Jm (S:Nat->Prop) (w:World) (v:Value) (t:aA) (hT:aJ S w v t) (he:aF t=0) (hz:∀k,(gs t.ns k).size<=70000):Calls Tryz.prog 71 #[v] w (NA w (r7 t)):=by
 obtain ⟨j9,CD,hnl,hok,_⟩:=aG he;obtain ⟨P,N,rfl,hP,hN⟩:=hT;have hu:=(Up.alloc w (.cells #[P,N] 33)).trans (Up.alloc _ (.cells #[.slice none 0 0,.slice none 0 0] 33));have p6:aJ S ((w.alloc (.cells #[P,N] 33)).alloc (.cells #[.slice none 0 0,.slice none 0 0] 33)) (.agg #[P,N]) t:=aJ.keep ⟨P,N,rfl,hP,hN⟩ (hu.kept _);have HN:=aa (Uo S _ _ t p6 (by omega) hnl hok hz);have HU:=aa hu;have hc0:=(Up.alloc _ (.cells #[.slice none 0 0,.slice none 0 0] 33)).cell (mC w P N 33)
 have hc1:=(Up.alloc _ (.cells #[.slice none 0 0,.slice none 0 0] 33)).cell (mD w P N 33);have hrb:=uK (w:=w.alloc (.cells #[P,N] 33)) (P:=.slice none 0 0) (N:=.slice none 0 0) (T:=33);have hsz:((w.alloc (.cells #[P,N] 33)).alloc (.cells #[.slice none 0 0,.slice none 0 0] 33)).heap.size=w.heap.size+2:=by simp
 rw [aN] at hrb;have wK:=aa hrb;have fW:=aa hsz;have ML:=aa (fB he);have GU:=aa (GS he);clear hu p6 hP hN hrb hsz hnl hok;go_in;go_wp2_with fail;generalize (w.alloc (.cells #[P,N] 33)).alloc (.cells #[.slice none 0 0,.slice none 0 0] 33)=w1 at *;refine HN.out.mono ?_;rintro e w2 ⟨aK,g,A,kv,rfl,hF,hrow⟩;have gT:=hrow.cell (i:=0) j9;have oD:=aa hF;have bF:=aa aK;have GV:=aa ((aO aK (w.heap.size+1) (by rw [fW.out];omega)).trans wK.out);have hs2:=aK.size;simp only [bL] at gT
 have hpos:(0:Int)<(t.ps.length:Int):=by omega
 clear aK hF hrow hc0 hc1 HN;go_wp2_with fail;have XE:bz w1.heap.size t.ps.length A kv ((k9 t).iA (fF t) fun _=>false) w2:=oD.out.congr fun j _=>⟨rfl,rfl,rfl⟩;have NI:=aa (QG (ML.out.QT (fun i _=>by have:=r8 t i;omega) (fun i _=>yq t i)) (fF t 0) 0 (fun _=>false) w2 j9 (aj _) XE);clear gT;refine NI.out.mono ?_;rintro e w3 ⟨rfl,JQ,hfu⟩;have hb3:Below w1.heap.size w2 w3:=hfu.below XE hs2;have XF:=aa ((hb3.block (w.heap.size+1) (by rw [fW.out];omega)).trans GV.out);have jA:Hid (Up w1 w3):=dI bF.out hb3
 have J6:=aa (NB (F:=jY t) (rk:=fF t) GU.out.wf (fun i _=>by have:=EU t i;omega) w3 0 j9 JQ (by have:=Ux GU.out (fun i _=>yq t i) j9 none;omega));clear JQ hfu hb3 NI oD XE GV bF;go_wp2_with fail;refine J6.out.mono ?_;rintro e w4 ⟨eB,_,rfl,P4,N4,rfl,nC,kL⟩;obtain ⟨pp,pc,rfl,_,_⟩:=aB.open nC;obtain ⟨np,nc,rfl,_,_⟩:=aB.open kL;have oV:=(aO eB (w.heap.size+1) (by have:=jA.out.size;rw [fW.out] at this;omega)).trans XF.out;have k6:w4.cell? ⟨w.heap.size+1,0,none⟩=some (.slice none 0 0):=by simp [World.cell?,oV]
 have hr1:w4.cell? ⟨w.heap.size+1,1,none⟩=some (.slice none 0 0):=by simp [World.cell?,oV]
 have XB:w4.frozen? ⟨w.heap.size+1,0,none⟩=false:=by simp [World.frozen?,oV]
 have zM:w4.frozen? ⟨w.heap.size+1,1,none⟩=false:=by simp [World.frozen?,oV]
 have J1:=aa nC;have XG:=aa kL;have gF:=aa eB;have aaB:=aa oV;clear nC kL eB oV J6 XF;go_wp2_with fail;have cZ:∀b,b≠w.heap.size+1->((w4.setCell ⟨w.heap.size+1,0,none⟩ (.slice pp (fR (jY t) (fF t) 0).ps.length pc)).setCell ⟨w.heap.size+1,1,none⟩ (.slice np (fR (jY t) (fF t) 0).ns.length nc)).heap[b]? = w4.heap[b]?:=fun b hb=>by rw [blk_setCell_other _ _ _ _ hb,blk_setCell_other _ _ _ _ hb]
 have hheap:((w4.setCell ⟨w.heap.size+1,0,none⟩ (.slice pp (fR (jY t) (fF t) 0).ps.length pc)).setCell ⟨w.heap.size+1,1,none⟩ (.slice np (fR (jY t) (fF t) 0).ns.length nc)).heap[w.heap.size+1]? = some (Obj.cells #[.slice pp (fR (jY t) (fF t) 0).ps.length pc,.slice np (fR (jY t) (fF t) 0).ns.length nc] 33 (0,0)):=by simp [World.setCell,Array.getElem?_modify,aaB.out]
 have eB:=HU.out.trans (jA.out.trans gF.out);have mG:Up w ((w4.setCell ⟨w.heap.size+1,0,none⟩ (.slice pp (fR (jY t) (fF t) 0).ps.length pc)).setCell ⟨w.heap.size+1,1,none⟩ (.slice np (fR (jY t) (fF t) 0).ns.length nc)) :=
  ⟨eB.os,eB.tape,eB.output,by simp [World.size_setCell];exact eB.size,fun b hb=>(cZ b (by omega)).trans (eB.block b hb)⟩
 have hs3:w.heap.size+2<=w3.heap.size:=by have:=jA.out.size;rw [fW.out] at this;exact this
 generalize (w4.setCell ⟨w.heap.size+1,0,none⟩ (.slice pp (fR (jY t) (fF t) 0).ps.length pc)).setCell ⟨w.heap.size+1,1,none⟩ (.slice np (fR (jY t) (fF t) 0).ns.length nc)=w5 at *;have k6:w5.cell? ⟨w.heap.size+1,0,none⟩=some (.slice pp (fR (jY t) (fF t) 0).ps.length pc):=by simp [World.cell?,hheap]
 have hr1:w5.cell? ⟨w.heap.size+1,1,none⟩=some (.slice np (fR (jY t) (fF t) 0).ns.length nc):=by simp [World.cell?,hheap]
 refine ⟨rfl,.agg #[.slice pp (fR (jY t) (fF t) 0).ps.length pc,.slice np (fR (jY t) (fF t) 0).ns.length nc],by simp [results,Tryz.results71,go_sem,k6,hr1],?_⟩;exact ⟨mG,_,rfl,_,_,rfl,(af.keep J1.out fun b hb _=>cZ b (by omega)).sub fun b hb _=>by omega,(aC.keep XG.out fun b hb _=>cZ b (by omega)).sub fun b hb _=>by omega⟩
def XH (w:World) (t:aA) (e:Ending) (w':World):Prop :=
 Up w w'/\((aF t≠0/\e=.returned (.tuple #[.agg #[.slice none 0 0,.slice none 0 0],.int .i64 1]))\/(aF t=0/\∃v,e=.returned (.tuple #[v,.int .i64 0])/\aJ (fun b=>w.heap.size<=b) w' v (r7 t)))
theorem nD {w w4:World} {B:Nat} {x y p q:Value} {T:TypeId} (hb:w4.heap[B]? = some (Obj.cells #[x,y] T (0,0))) (hB:w.heap.size<=B) (hu:Up w w4) :
  Up w ((w4.setCell ⟨B,0,none⟩ p).setCell ⟨B,1,none⟩ q)/\((w4.setCell ⟨B,0,none⟩ p).setCell ⟨B,1,none⟩ q).cell? ⟨B,0,none⟩=some p/\((w4.setCell ⟨B,0,none⟩ p).setCell ⟨B,1,none⟩ q).cell? ⟨B,1,none⟩=some q /\
   ∀b,b≠B->((w4.setCell ⟨B,0,none⟩ p).setCell ⟨B,1,none⟩ q).heap[b]? = w4.heap[b]?:=by
 have cZ:∀b,b≠B->((w4.setCell ⟨B,0,none⟩ p).setCell ⟨B,1,none⟩ q).heap[b]? = w4.heap[b]?:=fun b hb=>by rw [blk_setCell_other _ _ _ _ hb,blk_setCell_other _ _ _ _ hb]
 have hheap:((w4.setCell ⟨B,0,none⟩ p).setCell ⟨B,1,none⟩ q).heap[B]? = some (Obj.cells #[p,q] T (0,0)):=by simp [World.setCell,Array.getElem?_modify,hb]
 exact ⟨⟨hu.os,hu.tape,hu.output,by simp [World.size_setCell];exact hu.size,fun b hb=>(cZ b (by omega)).trans (hu.block b hb)⟩,by simp [World.cell?,hheap],by simp [World.cell?,hheap],cZ⟩
theorem GW (S:Nat->Prop) (w:World) (v:Value) (t:aA) (hT:aJ S w v t) (hp:t.ps.length<=1000000) (hn:t.ns.length<=1000000) (hz:∀k,(gs t.ns k).size<=70000):Calls Tryz.prog 43 #[v] w (XH w t):=by
 obtain ⟨P,N,rfl,hP,hN⟩:=hT;have hu:=(Up.alloc w (.cells #[P,N] 33)).trans (Up.alloc _ (.cells #[.slice none 0 0,.slice none 0 0] 33));have p6:aJ S ((w.alloc (.cells #[P,N] 33)).alloc (.cells #[.slice none 0 0,.slice none 0 0] 33)) (.agg #[P,N]) t:=aJ.keep ⟨P,N,rfl,hP,hN⟩ (hu.kept _);have fo:=aa (qY S _ _ t p6 hp hn hz);have HT:=aa p6;have HU:=aa hu;have zy:=aa ((Up.alloc _ (.cells #[.slice none 0 0,.slice none 0 0] 33)).cell (mC w P N 33));have oo:=aa ((Up.alloc _ (.cells #[.slice none 0 0,.slice none 0 0] 33)).cell (mD w P N 33))
 have hc0:=zy.out;have hc1:=oo.out;have hrb:=uK (w:=w.alloc (.cells #[P,N] 33)) (P:=.slice none 0 0) (N:=.slice none 0 0) (T:=33);have hsz:((w.alloc (.cells #[P,N] 33)).alloc (.cells #[.slice none 0 0,.slice none 0 0] 33)).heap.size=w.heap.size+2:=by simp
 rw [aN] at hrb;have wK:=aa hrb;have fW:=aa hsz;clear hu p6 hP hN hrb hsz;go_in;go_wp2_with fail;generalize (w.alloc (.cells #[P,N] 33)).alloc (.cells #[.slice none 0 0,.slice none 0 0] 33)=w1 at *;refine fo.out.mono ?_;rintro e w2 ⟨rfl,hb2⟩;have aK:Up w1 w2:=hb2;have hc0:=aK.cell zy.out;have hc1:=aK.cell oo.out;have zC:=aa (HT.out.keep (aK.kept S));have yt:=(aO aK (w.heap.size+1) (by rw [fW.out];omega)).trans wK.out;have bF:=aa (HU.out.trans aK)
 have td:Hid (w.heap.size+2<=w2.heap.size):=by unfold Hid;have:=aK.size;rw [fW.out] at this;exact this
 clear hb2 aK fo HT HU zy oo wK;by_cases he:aF t=0
 ·have HE:=aa he
  rw [he];have GV:=aa yt;have k7:=aa (Jm S w2 _ t zC.out he hz);clear yt he;go_wp2_with fail;refine k7.out.mono ?_;rintro e w4 ⟨eB,_,rfl,P4,N4,rfl,nC,kL⟩;obtain ⟨pp,pc,rfl,_,_⟩:=aB.open nC;obtain ⟨np,nc,rfl,_,_⟩:=aB.open kL;have oV:=(aO eB (w.heap.size+1) (by have:=td.out;omega)).trans GV.out;have k6:w4.cell? ⟨w.heap.size+1,0,none⟩=some (.slice none 0 0):=by simp [World.cell?,oV]
  have hr1:w4.cell? ⟨w.heap.size+1,1,none⟩=some (.slice none 0 0):=by simp [World.cell?,oV]
  have XB:w4.frozen? ⟨w.heap.size+1,0,none⟩=false:=by simp [World.frozen?,oV]
  have zM:w4.frozen? ⟨w.heap.size+1,1,none⟩=false:=by simp [World.frozen?,oV]
  have J1:=aa nC;have XG:=aa kL;have HST:=aa (nD (w:=w) (p:=.slice pp (r7 t).ps.length pc) (q:=.slice np (r7 t).ns.length nc) oV (by omega) (bF.out.trans eB));clear nC kL eB oV k7 GV hc0 hc1;go_wp2_with fail;obtain ⟨s1,s2,s3,s4⟩:=HST.out;have hs2:=td.out;refine ⟨rfl,.tuple #[.agg #[.slice pp (r7 t).ps.length pc,.slice np (r7 t).ns.length nc],.int .i64 0],by simp [results,Tryz.results43,go_sem,s2,s3],?_⟩
  exact ⟨s1,.inr ⟨HE.out,_,rfl,_,_,rfl,(af.keep J1.out fun b hb _=>s4 b (by omega)).sub fun b hb _=>by omega,(aC.keep XG.out fun b hb _=>s4 b (by omega)).sub fun b hb _=>by omega⟩⟩
 ·have S4:(aF t != 0)=true:=by simpa using he
  have k6:w2.cell? ⟨w.heap.size+1,0,none⟩=some (.slice none 0 0):=by simp [World.cell?,yt]
  have hr1:w2.cell? ⟨w.heap.size+1,1,none⟩=some (.slice none 0 0):=by simp [World.cell?,yt]
  have XB:w2.frozen? ⟨w.heap.size+1,0,none⟩=false:=by simp [World.frozen?,yt]
  have zM:w2.frozen? ⟨w.heap.size+1,1,none⟩=false:=by simp [World.frozen?,yt]
  have HST:=aa (nD (w:=w) (p:=.slice none 0 0) (q:=.slice none 0 0) yt (by omega) bF.out);have HE:=aa he;clear he yt hc0 hc1;generalize aF t=te at S4 ⊢;go_wp2_with fail;obtain ⟨s1,s2,s3,s4⟩:=HST.out;refine ⟨rfl,.tuple #[.agg #[.slice none 0 0,.slice none 0 0],.int .i64 1],by simp [results,Tryz.results43,go_sem,s2,s3],?_⟩;exact ⟨s1,.inl ⟨HE.out,rfl⟩⟩
theorem GX (W:World):aJ Any W (.agg #[.slice none 0 0,.slice none 0 0]) ⟨[],[]⟩ :=
 ⟨_,_,rfl,⟨none,0,rfl,aj _,.inl rfl⟩,⟨none,0,rfl,aj _,.inl rfl⟩⟩
theorem boxed {W:World} {B:Nat} {P N:Value} (hb:W.heap[B]? = some (Obj.cells #[P,N] 33 (0,0))):W.cell? ⟨B,0,none⟩=some P/\W.cell? ⟨B,1,none⟩=some N/\W.frozen? ⟨B,0,none⟩=false/\W.frozen? ⟨B,1,none⟩=false:=by
 refine ⟨?_,?_,?_,?_⟩<;>simp [World.cell?,World.frozen?,hb]
theorem NJ {S:Nat->Prop} {w:World} {b off n cap:Nat} {xs:List ByteArray} (h:aC S w (.slice (some ⟨b,off,none⟩) n cap) xs) {k:Nat} (hk:k<=xs.length):aB S w (.slice (some ⟨b,off,none⟩) k cap) k (fun j=>.string (gs xs j)):=by
 obtain ⟨q,c,e,hn,h⟩:=h;injection e with e1 e2 e3;subst e1;subst e2;subst e3;refine ⟨_,cap,rfl,by omega,?_⟩;rcases h with h | ⟨b',o',e,hS,h⟩
 ·exact .inl (by omega)
 ·exact .inr ⟨b',o',e,hS,fun j hj=>h j (by omega)⟩
end
section
deriving instance DecidableEq for aA
def yu (f:Nat->ByteArray) (a:Nat):List Nat->List Nat
 | []=>[a]
 | b::l=>if nv f a b then a::b::l else b::yu f a l
def ue (f:Nat->ByteArray):List Nat->List Nat
 | []=>[]
 | a::l=>yu f a (ue f l)
theorem BL (f:Nat->ByteArray) (a:Nat) (l₂:List Nat) (h2:∀b∈l₂,nv f a b=true):∀l₁:List Nat,(∀b∈l₁,nv f a b=false)->yu f a (l₁++l₂)=l₁++a::l₂
 | [],_=>by
  cases l₂ with
  | nil=>rfl
  | cons b l=>simp only [dz,yu];rw [if_pos (h2 b (by simp))]
 | b::l₁,h1=>by
  simp only [cw,yu]
  rw [if_neg (by rw [h1 b (by simp)];decide),BL f a l₂ h2 l₁ fun c hc=>h1 c (by simp [hc])]
theorem AE (f:Nat->ByteArray):∀l,cF f l=ue f l
 | []=>by unfold cF;simp [ue]
 | a::l=>by
  have ih:=AE f l
  obtain ⟨l₁,l₂,h1,h2,h3⟩:=List.mergeSort_cons (DN f) (DO f) a l
  have hs:=rR f (a::l)
  unfold cF at hs ih ⊢
  rw [h1] at hs ⊢
  show _=yu f a (ue f l)
  rw [<- ih,h2]
  refine (BL f a l₂ (fun b hb=>?_) l₁ fun b hb=>by simpa using h3 b hb).symm
  have h4:=(List.pairwise_append.1 hs).2.1
  exact (yS.1 h4).1 b hb
end
section
open Go.RowKit Go.Deep
deriving instance DecidableEq for SY
end
end Go.Proofs.YtfomhlbhcifgbaaGreatDoor
