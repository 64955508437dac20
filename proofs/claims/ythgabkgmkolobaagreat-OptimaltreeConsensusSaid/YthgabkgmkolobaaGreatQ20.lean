/- Valid trees and their texts, plain: .. -/
import Derived.Test.YthgabkgmkolobaaGreatQ19
set_option maxRecDepth 100000
set_option maxHeartbeats 2000000
namespace Go.Proofs.YthgabkgmkolobaaGreat
section
theorem agC {c:UInt8} (h:xe c=true):c∉eY:=fun hm=>by
 simp only [eY,bA,List.not_mem_nil,or_false] at hm
 rcases hm with rfl | rfl | rfl | rfl<;>exact absurd h (by decide)
theorem abG {s:ByteArray} (h:bq s.data.toList=true):s.data.toList≠[]/\∀c∈s.data.toList,c∉eY:=by
 generalize s.data.toList=l at h ⊢;unfold bq at h;have key:∀l:List UInt8,gN l=true->l≠[]/\∀c∈l,c∉eY:=fun l h=>by unfold gN at h;simp only [eF,decide_eq_true_eq,s8] at h;exact ⟨fun e=>by rw [e] at h;simp at h,fun c hc=>agC (h.2 c hc)⟩
 by_cases e:l.getLast? = some 42
 ·rw [if_pos e] at h
  simp only [eF] at h;obtain ⟨h1,h2⟩:=key _ h.1;have hl:l≠[]:=fun e2=>by subst e2;cases e
  refine ⟨hl,fun c hc=>?_⟩;rw [<- List.dropLast_concat_getLast hl,ey,cN] at hc;rcases hc with hc | hc
  ·exact h2 c hc
  ·rw [List.getLast?_eq_some_getLast hl] at e
   have e:=Option.some.inj e;rw [hc,e];decide
 ·rw [if_neg e] at h;exact key l h
theorem jm.oJ {r:RT} (h:jm r):uz r:=fun s hs=>⟨h.y9 s hs,fun hk=>abG (h.lf s hs hk)⟩
section
variable {t:ax}
theorem agD (h:aA t=0):M8 t=gL (jE t)++[59]:=by unfold M8;rw [if_neg (by simp [h])]
theorem Iw (h:aA t=0):∀(d j:Nat),j<=d->j<t.ps.length->fJ t.ps 0 j=true
 | d,j,hd,hj=>by
  by_cases h0:j=0
  ·subst h0;exact Dj 0
  ·obtain ⟨_,_,_,hok,_⟩:=aH h
   have hp:=rA hok hj (by omega)
   rw [tE hok hj (by omega)]
   cases d with
   | zero=>omega
   | succ d=>exact Iw h d _ (by omega) (by omega)
theorem uC (h:aA t=0):(cI (fA t) (dI t) 0).Perm (List.range t.ps.length):=by
 have h0:=(aH h).1;refine (Eo (oy (ew h) (fun i _=>Ci t i) h0 (ah _)) List.nodup_range).2 fun j=>?_;rw [bu];constructor
 ·exact iO h
 ·intro hj
  refine (fB (ew h).wf h0 (ah _)).2 ?_;rw [yu h _ 0 j (ah _) h0 hj];exact Iw h j j (ah _) hj
theorem aeF (h:aA t=0):(eo (jE t)).Perm t.ns:=by
 rw [TQ h];have hl:=(aH h).2.2.1;have h1:=(uC h).map (gs t.ns);rw [<- hl,abm] at h1;exact h1
theorem x9 (h:aA t=0):(bM (jE t)).Perm (sF t.ns):=(aeF h).filter _
theorem YJ (h:aA t=0):(sF (kW t).ns).Perm (sF t.ns):=by
 rw [oQ h];exact (rW (jE t)).trans (x9 h)
theorem J1 {nm:ByteArray} (h:nm.size≠0):bM (.node nm [])=[nm]:=by
 unfold bM;rw [eo,eu];exact List.filter_eq_self.2 fun x hx=>decide_eq_true (by rw [cN.1 hx];exact h)
theorem Na:∀(r:RT),(∀s∈bh r,s.kids≠[]->s.nm.size=0)->(∀s∈bh r,s.kids=[]->s.nm.size≠0)->∃l,bM r=aU r::l
 | .node nm [],_,h2=>⟨[],by
  have h:=h2 (.node nm []) (by rw [bh];exact tZ) rfl
  rw [J1 (nm:=nm) h,aU]⟩
 | .node nm (k::ks),h1,h2=>by
  have h0:nm.size=0:=h1 (.node nm (k::ks)) (by rw [bh];exact tZ) (by simp [RT.kids])
  have hk:∀s∈bh k,s∈bh (.node nm (k::ks)):=fun s hs=>by rw [bh,dO];simp [hs]
  obtain ⟨l,hl⟩:=Na k (fun s hs=>h1 s (hk s hs)) (fun s hs=>h2 s (hk s hs))
  rw [iX h0,gj,hl,aU]
  exact ⟨_,rfl⟩
theorem jm.head {r:RT} (h:jm r):∃l,bM r=aU r::l:=Na r h.y9 fun s hs hk=>gK (h.lf s hs hk)
theorem Ue:∀a b:List UInt8,Lib.compareBytes a b<=0↔a<=b
 | [],b=>by
  cases b with
  | nil=>simp [Lib.compareBytes]
  | cons y b=>simp [Lib.compareBytes]
 | x::a,[]=>by simp [Lib.compareBytes]
 | x::a,y::b=>by
  rw [Lib.compareBytes,List.cons_le_cons_iff]
  have ih:=Ue a b
  by_cases h1:x<y
  ·simp [h1]
  ·by_cases h2:y<x
   ·have:x≠y:=by rintro rfl;exact h1 h2
    simp [h1,h2,this]
   ·have:x=y:=by
     apply UInt8.toNat.inj
     rw [yC] at h1 h2;omega
    subst this
    simp [ih]
end
end
section
section
variable {t:ax} {leaf:Nat}
theorem abH (h:eN t leaf) {z:Nat} (hz:z<t.ps.length+1) (hk:(AE t leaf).kids z≠[]):((AE t leaf).nm z).size=0:=by
 by_cases e:z=t.ps.length
 ·subst e
  show (upd (gs t.ns) _ _ _).size=0;rw [upd_same];rfl
 ·show (upd (gs t.ns) _ _ z).size=0
  rw [upd_ne _ _ e];by_cases c:bL t.ps z=[]
  ·exfalso
   refine hk ?_;show JX t leaf z=[];unfold JX;rw [if_neg e,c,if_neg];rintro ⟨h1,h2⟩;obtain ⟨k,h3,h4,h5,_⟩:=h.YG h1 h2;have:k∈bL t.ps z:=cK.2 ⟨h3,h4,h5⟩;rw [c] at this;cases this
  ·obtain ⟨k,hk⟩:=CP _ c
   obtain ⟨h3,h4,h5⟩:=cK.1 hk;exact vS h.te h3 h4 h5
theorem abI (h:eN t leaf):∀a b,a<t.ps.length+1->b<t.ps.length+1->((AE t leaf).nm a).size≠0->(AE t leaf).nm a=(AE t leaf).nm b->a=b:=fun a b ha hb h0 e=>by
 have key:∀c,c<t.ps.length+1->((AE t leaf).nm c).size≠0->(AE t leaf).kids c=[]:=fun c hc hn=>by
  by_cases x:(AE t leaf).kids c=[]
  ·exact x
  ·exact absurd (abH h hc x) hn
 exact (agB h).amd a b ha hb (key a ha h0) (key b hb (by rw [<- e];exact h0)) e
end
end
section
def QF (r:RT) (X:ByteArray->Prop):Prop:=∃s∈bh r,∀x,X x↔x∈bM s
theorem V9 {F:bW} {n:Nat} {rk:Nat->Nat} (h:Wf F n rk) {z:Nat} (hz:z<n) {x:ByteArray}:x∈bM (bE F rk z)↔∃j,j<n/\dz F rk z j=true/\(F.nm j).size≠0/\x=F.nm j:=by
 unfold bM;rw [QE h hz,gP,bI];constructor
 ·rintro ⟨⟨j,hj,rfl⟩,h0⟩
  have hs:=(fB h hz (ah _)).1 hj;exact ⟨j,tO h hz (ah _) hs,hs,of_decide_eq_true h0,rfl⟩
 ·rintro ⟨j,_,hs,h0,rfl⟩
  exact ⟨⟨j,(fB h hz (ah _)).2 hs,rfl⟩,decide_eq_true h0⟩
section
variable {t:ax} {leaf:Nat}
theorem aeG (h:aA t=0) {z:Nat} (hz:z<t.ps.length) {x:ByteArray}:x∈bM (bE (fA t) (dI t) z)↔∃j,j<t.ps.length/\fJ t.ps z j=true/\(gs t.ns j).size≠0/\x=gs t.ns j:=by
 rw [V9 (ew h).wf hz];constructor
 ·rintro ⟨j,hj,hs,h0,e⟩
  exact ⟨j,hj,by rw [<- yu h _ z j (ah _) hz hj];exact hs,h0,e⟩
 ·rintro ⟨j,hj,hs,h0,e⟩
  exact ⟨j,hj,by rw [yu h _ z j (ah _) hz hj];exact hs,h0,e⟩
theorem eN.inj (h:eN t leaf) {a b:Nat} (ha:a<t.ps.length) (hb:b<t.ps.length) (h0:(gs t.ns a).size≠0) (e:gs t.ns a=gs t.ns b):a=b:=by
 have ea:(AE t leaf).nm a=gs t.ns a:=upd_ne _ _ (by omega);have eb:(AE t leaf).nm b=gs t.ns b:=upd_ne _ _ (by omega);exact abI h a b (by omega) (by omega) (by rw [ea];exact h0) (by rw [ea,eb];exact e)
end
end
section
open Go.RowKit Go.Deep
theorem QG (S T:Nat->Prop) (w:World) (v u:Value) (t:ax) (h:aG S w v t) (h2:aG T w u t) (hp:t.ps.length<=1000000) (hn:t.ns.length<=1000000) :
  Calls Tryz.prog 37 #[v,u] w fun e w'=>e=.returned (.bool true)/\Up w w':=by
 obtain ⟨P,N,rfl,hP,hN⟩:=h;obtain ⟨P2,N2,rfl,uD,wH⟩:=h2;obtain ⟨pp,pc,rfl,_,_⟩:=aq.open hP;obtain ⟨np,nc,rfl,_,_⟩:=aq.open hN;obtain ⟨xB,xC,rfl,_,_⟩:=aq.open uD;obtain ⟨zo,zq,rfl,_,_⟩:=aq.open wH;have hP:af S w (.slice pp t.ps.length pc) t.ps:=hP;have hN:aj S w (.slice np t.ns.length nc) t.ns:=hN;have uD:af T w (.slice xB t.ps.length xC) t.ps:=uD;have wH:aj T w (.slice zo t.ns.length zq) t.ns:=wH;have bK:=Up.alloc w (.cells #[.slice pp t.ps.length pc,.slice np t.ns.length nc] 39);have aI:=Up.alloc (w.alloc (.cells #[.slice pp t.ps.length pc,.slice np t.ns.length nc] 39)) (.cells #[.slice xB t.ps.length xC,.slice zo t.ns.length zq] 39);have hu:=bK.trans aI;have a0:=aI.cell (iq w (.slice pp t.ps.length pc) (.slice np t.ns.length nc) 39);have a1:=aI.cell (jg w (.slice pp t.ps.length pc) (.slice np t.ns.length nc) 39);have b0:=iq (w.alloc (.cells #[.slice pp t.ps.length pc,.slice np t.ns.length nc] 39)) (.slice xB t.ps.length xC) (.slice zo t.ns.length zq) 39;have b1:=jg (w.alloc (.cells #[.slice pp t.ps.length pc,.slice np t.ns.length nc] 39)) (.slice xB t.ps.length xC) (.slice zo t.ns.length zq) 39;rw [aQ] at b0 b1;have HP:=aa (af.keep hP (hu.kept S));have HN:=aa (aj.keep hN (hu.kept S));have HP2:=aa (af.keep uD (hu.kept T));have oB:=aa (aj.keep wH (hu.kept T));have HU:=aa hu;have A0:=aa a0;have A1:=aa a1;have B0':=aa b0;have B1':=aa b1;have d0:((t.ps.length:Int) != (t.ps.length:Int))=false:=by simp
 have d1:((t.ns.length:Int) != (t.ns.length:Int))=false:=by simp
 clear hP hN uD wH hu bK aI;go_in;go_wp2_with fail;clear a0 a1 b0 b1;generalize (w.alloc (.cells #[.slice pp t.ps.length pc,.slice np t.ns.length nc] 39)).alloc (.cells #[.slice xB t.ps.length xC,.slice zo t.ns.length zq] 39)=w1 at *
 go_loopw [5] (fun i wr=>∃k:Nat,k<=t.ps.length/\i=.int .i64 k/\Hid (QD w1 wr)) (fun i _=>t.ps.length - (intOf i).toNat)
 case atStart=>exact ⟨0,aF _,rfl,QD.refl _⟩
 case round =>
  obtain ⟨k,hk,rfl,hQ⟩:=hrel;have a0:=hQ.out.up.cell A0.out;have b0:=hQ.out.up.cell B0'.out;by_cases hlt:k<t.ps.length
  ·obtain ⟨b,off,rfl,hc⟩:=bU (af.keep HP.out (hQ.out.kept S)) hlt
   obtain ⟨b2,off2,rfl,hc2⟩:=bU (af.keep HP2.out (hQ.out.kept T)) hlt;(have i1:(0:Int)<=(k:Int):=by omega);(have i2:(k:Int)<(t.ps.length:Int):=by omega);generalize gi t.ps k=x at *;(have j1:(x != x)=false:=by simp);go_wp2;(go_quiet (fail));go_wp2
   go_roundw
   case rel=>exact ⟨k+1,by omega,by go_num,hQ.out.drewN nq⟩
   case measure=>simp [intOf];omega
  ·obtain rfl:k=t.ps.length:=by omega
   have HQ0:=aa hQ.out;clear hlt hk;go_wp2
   go_loopw [6] (fun i wr=>∃k:Nat,k<=t.ns.length/\i=.int .i64 k/\Hid (QD w1 wr)) (fun i _=>t.ns.length - (intOf i).toNat)
   case atStart=>exact ⟨0,aF _,rfl,HQ0.out⟩
   case round =>
    obtain ⟨k,hk,rfl,hQ⟩:=hrel;have a1:=hQ.out.up.cell A1.out;have b1:=hQ.out.up.cell B1'.out;by_cases hlt:k<t.ns.length
    ·obtain ⟨b,off,rfl,hc⟩:=cH (aj.keep HN.out (hQ.out.kept S)) hlt
     obtain ⟨b2,off2,rfl,hc2⟩:=cH (aj.keep oB.out (hQ.out.kept T)) hlt;(have i1:(0:Int)<=(k:Int):=by omega);(have i2:(k:Int)<(t.ns.length:Int):=by omega);generalize gs t.ns k=x at *;(have j1:(x.toList==x.toList)=true:=by simp);go_wp2;(go_quiet (fail));go_wp2
     go_roundw
     case rel=>exact ⟨k+1,by omega,by go_num,hQ.out.drewN nq⟩
     case measure=>simp [intOf];omega
    ·obtain rfl:k=t.ns.length:=by omega
     clear hlt hk;go_wp2;go_ret;exact ⟨rfl,HU.out.trans hQ.out.up⟩
theorem zu (w:World) (cs:Array Value) (T:TypeId) (xs:List Int) (hcs:cs.toList=xs.map (Value.int .i64)) (n:Nat) (hn:n=xs.length):af Any (w.alloc (.cells cs T)) (.slice (some ⟨w.heap.size,0,none⟩) n n) xs:=by
 subst hn;refine ⟨_,_,rfl,ah _,.inr ⟨_,0,rfl,trivial,fun k hk=>?_⟩⟩;rw [je,aS,<- o7,hcs];simp [gi,hk]
theorem QH (w:World) (cs:Array Value) (T:TypeId) (xs:List ByteArray) (hcs:cs.toList=xs.map Value.string) (n:Nat) (hn:n=xs.length):aj Any (w.alloc (.cells cs T)) (.slice (some ⟨w.heap.size,0,none⟩) n n) xs:=by
 subst hn;refine ⟨_,_,rfl,ah _,.inr ⟨_,0,rfl,trivial,fun k hk=>?_⟩⟩;rw [je,aS,<- o7,hcs];simp [gs,hk]
deriving instance DecidableEq for TA
theorem Wa {t:ax} (h:aA t=0):∀k,(gs t.ns k).size<=70000:=fun k=>by
 obtain ⟨_,_,hl,_,hne⟩:=aH h
 by_cases hk:k<t.ps.length
 ·have h1:=hne k hk
  unfold mg at h1
  split at h1
  ·split at h1
   ·omega
   ·cases h1
  ·split at h1
   ·rename_i hn
    have hsz:(gs t.ns k).data.toList.length=(gs t.ns k).size:=by simp
    rw [<- hsz]
    unfold bq at hn
    split at hn
    ·simp only [eF,decide_eq_true_eq] at hn
     omega
    ·unfold gN at hn
     simp only [eF,decide_eq_true_eq] at hn
     omega
   ·cases h1
 ·have:gs t.ns k=ByteArray.empty:=by unfold gs;rw [rP,xM (by omega)];rfl
  rw [this];exact aF _
end
section
theorem S9 (ns:List ByteArray):(ay ns).Pairwise (· < ·):=by
 unfold ay;rw [sI];exact (Jb _ List.pairwise_lt_range).imp fun h=>tX.2 h
end
section
open Go.RowKit Go.Deep
section
variable {P:Program} {ops:Array Oper} {rest:List Oper} {o:Oper} {a:Act} {Q:Exit->Act->World->Prop}
theorem Fe (W:World) (hgd:o.guard=none) (s x:Operand) (t:TypeId) (ho:o.op=.call { callee:=.builtin .append,args:=#[s,x],argTypes:=#[t,t] })
  (base:Nat) (e:TypeId) (z:Value) (bytes:Nat) (ht:P.underlying t=some (.slice e)) (hinfo:(P.info? e).map (fun i=>(i.zero,i.size,i.bytes))=some (some z,1,bytes))
  (hz1:z.cells.size=1) (lN:bytes<=64) {v:Value} {vs:List Value} (hown:au base e W v vs) (hs:a.eval s=v) (u:Value) (m:Nat) (hm:W.heap.size=m)
  (hx:a.eval x=.slice (some ⟨m,0,none⟩) 1 1) (h1:u.oneCell'=true) (k:Nat) (tJ:vs.length=k) (hn:k<=1000000) (hbase:base<=W.heap.size)
  (h:∀g cap w',au base e w' (.slice (some ⟨g,0,none⟩) (k+1) cap) (vs++[u])->W.grownBy w' v.ownBlock->(v.ownBlock=some g\/W.heap.size<=g)->wpList P ops Q rest (a.put o.dst (.slice (some ⟨g,0,none⟩) (k+1) cap)) w') :
  wpList P ops Q (o::rest) a (W.alloc (.cells #[u] e)):=by
 subst hm;exact vU W hgd s x t ho base e z bytes ht hinfo hz1 lN hown hs u hx h1 k tJ hn hbase h
end
end
section
theorem jm.sub {r s:RT} (h:jm r) (hs:s∈bh r):jm s :=
 ⟨fun q hq=>h.y9 q (kD r hs hq),fun q hq=>h.lf q (kD r hs hq),(dR hs).nodup h.nd⟩
theorem agE {r1 r2:RT} (o1:mR r1) (o2:mR r2) (h:∀X,QF r1 X↔QF r2 X):bJ r1=bJ r2 :=
 E7 _ r1 r2 (ah _) o1 o2 (fun s hs=>by
  obtain ⟨u,hu,e⟩:=(h _).1 ⟨s,hs,fun _=>Iff.rfl⟩
  exact ⟨u,hu,e⟩) (fun s hs=>by
  obtain ⟨u,hu,e⟩:=(h _).2 ⟨s,hs,fun _=>Iff.rfl⟩
  exact ⟨u,hu,e⟩)
theorem jm.meet {r s:RT} (h:jm r) (hs:s∈bh r):∃x,x∈bM s:=by
 obtain ⟨l,hl⟩:=(h.sub hs).head;exact ⟨aU s,by rw [hl];simp⟩
end
section
def nC:BT ByteArray->RT
 | .leaf x=>.node x []
 | .node a b=>.node ByteArray.empty [nC a,nC b]
theorem Gd:∀r:BT ByteArray,aP (nC r)+1=2*r.lR.length
 | .leaf x=>by simp [nC,BT.lR,aP,aK]
 | .node a b=>by
  have h1:=Gd a
  have h2:=Gd b
  simp only [nC,BT.lR,aP,aK,bg]
  omega
theorem Lg:∀r:BT ByteArray,(∀x∈r.lR,x.size≠0)->bM (nC r)=r.lR
 | .leaf x,h=>J1 (h x (by simp [BT.lR]))
 | .node a b,h=>by
  rw [nC,iX rfl,gj,gj,List.flatMap_nil,eG,BT.lR]
  rw [Lg a fun x hx=>h x (by rw [BT.lR];exact Je _ hx),Lg b fun x hx=>h x (by rw [BT.lR];exact Jf _ hx)]
theorem Lh:∀r:BT ByteArray,(∀x∈r.lR,bq x.data.toList=true)->∀s∈bh (nC r),rz s
 | .leaf x,h,s,hs=>by
  rw [nC,bh,dO,cN] at hs
  subst hs
  exact ⟨fun e=>absurd rfl e,fun _=>h x (by simp [BT.lR]),by simp [RT.kids]⟩
 | .node a b,h,s,hs=>by
  rw [nC,bh,dO,dO,dO,eG,bA,ey] at hs
  rcases hs with rfl | hs | hs
  ·exact ⟨fun _=>rfl,(fun e=>by cases e),by simp [RT.kids]⟩
  ·exact Lh a (fun x hx=>h x (by rw [BT.lR];exact Je _ hx)) s hs
  ·exact Lh b (fun x hx=>h x (by rw [BT.lR];exact Jf _ hx)) s hs
structure Iy (r:BT ByteArray):Prop where
 nd:r.lR.Nodup
 nm:∀x∈r.lR,bq x.data.toList=true
theorem Iy.sz {r:BT ByteArray} (h:Iy r):∀x∈r.lR,x.size≠0:=fun x hx=>gK (h.nm x hx)
theorem Iy.leaf {r:BT ByteArray} (h:Iy r):bM (nC r)=r.lR:=Lg r h.sz
theorem Iy.QI {r:BT ByteArray} (h:Iy r):mR (nC r):=⟨by rw [h.leaf];exact h.nd,Lh r h.nm⟩
theorem adP (a b:BT ByteArray):gL (nC (.node a b))=40::(gL (nC a)++(44::gL (nC b))++[41]):=by
 rw [nC,gL,iR,iR,eG]
def fu (r:RT):List UInt8:=gL r++[59]
def Iz (a:RT):List RT->List RT
 | []=>[a]
 | b::l=>if Lib.compareBytes (fu b) (fu a)<=0 then b::Iz a l else a::b::l
def Wb:List RT->List RT
 | []=>[]
 | a::l=>Iz a (Wb l)
theorem Ff (a:RT):∀l,(Iz a l).Perm (a::l)
 | []=>mM _
 | b::l=>by
  rw [Iz]
  split
  ·exact ((Ff a l).cons b).trans (List.Perm.swap a b l)
  ·exact mM _
theorem wI:∀l,(Wb l).Perm l
 | []=>mM _
 | a::l=>(Ff a _).trans ((wI l).cons a)
def si (a b:RT):Prop:=Lib.compareBytes (fu a) (fu b)<=0
theorem si.trans {a b c:RT} (h1:si a b) (h2:si b c):si a c:=by
 unfold si at *;rw [Ue] at *;exact Std.le_trans h1 h2
theorem si.total {a b:RT} (h:¬si a b):si b a:=by
 unfold si at *;rw [tB];omega
theorem GR (a:RT):∀l:List RT,l.Pairwise si->(Iz a l).Pairwise si
 | [],_=>by simp [Iz]
 | b::l,h=>by
  rw [Iz]
  obtain ⟨h1,h2⟩:=iB.1 h
  split
  ·rename_i hb
   refine iB.2 ⟨fun c hc=>?_,GR a l h2⟩
   rcases bA.1 ((Ff a l).mem_iff.1 hc) with rfl | hc
   ·exact hb
   ·exact h1 c hc
  ·rename_i hb
   have hab:si a b:=si.total hb
   refine iB.2 ⟨fun c hc=>?_,h⟩
   rcases bA.1 hc with rfl | hc
   ·exact hab
   ·exact hab.trans (h1 c hc)
theorem GU:∀l:List RT,(Wb l).Pairwise si
 | []=>List.Pairwise.nil
 | a::l=>GR a _ (GU l)
theorem si.anti {a b:RT} (ha:uz a) (hb:uz b) (h1:si a b) (h2:si b a):a=b:=by
 unfold si at *;have h3:=tB (fu a) (fu b);have h4:fu a=fu b:=yN (by omega);exact Yw ha hb (List.append_cancel_right h4)
theorem J2:∀ {l m:List RT},l.Perm m->l.Pairwise si->m.Pairwise si->(∀r∈l,uz r)->l=m
 | [],m,h,_,_,_=>(List.nil_perm.1 h).symm
 | a::l,[],h,_,_,_=>absurd (List.perm_nil.1 h) (by simp)
 | a::l,b::m,h,h1,h2,ho=>by
  obtain ⟨a1,a2⟩:=iB.1 h1
  obtain ⟨b1,b2⟩:=iB.1 h2
  have e:a=b:=by
   have hb:b∈a::l:=h.mem_iff.2 (by simp)
   have ha:a∈b::m:=h.mem_iff.1 (by simp)
   rcases bA.1 hb with hb' | hb'
   ·exact hb'.symm
   rcases bA.1 ha with ha' | ha'
   ·exact ha'
   exact si.anti (ho a (by simp)) (ho b hb) (a1 b hb') (b1 a ha')
  subst e
  rw [J2 ((List.perm_cons a).1 h) a2 b2 fun r hr=>ho r (by simp [hr])]
def uB (amd:List ByteArray) (r:BT ByteArray):BT ByteArray:=.node (.leaf (gs amd 0)) r
def uR (amd:List ByteArray) (r:BT ByteArray):RT:=bJ (nC (uB amd r))
def gV (amd:List ByteArray):List RT:=Wb ((rt amd.length amd.tail).map (uR amd))
def allT (amd:List ByteArray):List ax:=(gV amd).map flat
structure nQ (amd:List ByteArray):Prop where
 lo:2<=amd.length
 hi:amd.length<=5
 nm:∀x∈amd,bq x.data.toList=true
 nd:amd.Nodup
theorem nQ.cons {amd:List ByteArray} (h:nQ amd):gs amd 0::amd.tail=amd:=by
 have:=h.lo;cases amd with
 | nil=>simp at this
 | cons a l=>rfl
theorem Cx {amd:List ByteArray} (h:nQ amd) {r:BT ByteArray} (hr:r.lR.Perm amd.tail):(uB amd r).lR.Perm amd:=by
 have h1:(uB amd r).lR=gs amd 0::r.lR:=rfl;rw [h1];exact (hr.cons _).trans (List.Perm.of_eq h.cons)
theorem adQ {amd:List ByteArray} (h:nQ amd) {r:BT ByteArray} (hr:r.lR.Perm amd.tail):Iy (uB amd r) :=
 ⟨(Cx h hr).symm.nodup h.nd,fun x hx=>h.nm x ((Cx h hr).mem_iff.1 hx)⟩
theorem QJ {amd:List ByteArray} {q:RT}:q∈gV amd↔∃r∈rt amd.length amd.tail,uR amd r=q:=by
 unfold gV;rw [(wI _).mem_iff,bI]
theorem abJ (amd:List ByteArray):(gV amd).length=(rt amd.length amd.tail).length:=by
 unfold gV;rw [(wI _).length_eq,aD]
theorem rY {amd:List ByteArray} (h:nQ amd) {q:RT} (hq:q∈gV amd):mR q/\(bM q).Perm amd/\aP q+1=2*amd.length/\bJ q=q/\aA (flat q)=0/\kW (flat q)=flat q:=by
 obtain ⟨r,hr,rfl⟩:=QJ.1 hq;have hl:=EJ _ _ _ hr;have ho:=adQ h hl;have hs:=Gd (uB amd r);have hpl:=(Cx h hl).length_eq;have hhi:=h.hi;have hz:aP (uR amd r)+1=2*amd.length:=by unfold uR;rw [JH];omega
 have hg:jm (uR amd r):=ho.QI.good.sort;have h2:bJ (uR amd r)=uR amd r:=De _;have ht:=uv hg (by omega);refine ⟨⟨(rW _).symm.nodup ho.QI.nd,fun s hs=>?_⟩,?_,hz,h2,ht,by rw [oQ ht,vw,h2]⟩
 ·obtain ⟨u,hu,rfl⟩:=bI.1 ((ny _).mem_iff.1 hs)
  obtain ⟨p1,p2,p3⟩:=ho.QI.pt u hu;rw [rz,xU,za,(sR _).length_eq,aD];exact ⟨fun hk=>p1 fun e=>hk (uw.2 e),fun hk=>p2 (uw.1 hk),p3⟩
 ·refine (rW _).trans ?_
  rw [ho.leaf];exact Cx h hl
theorem Wc {amd:List ByteArray} (h:nQ amd):(gV amd).length=if amd.length=2 then 1 else if amd.length=3 then 1 else if amd.length=4 then 3 else 15:=by
 rw [abJ];have hlo:=h.lo;have hhi:=h.hi;have e:amd.tail=((List.range' 1 (amd.length - 1)).map fun i=>gs amd i):=by
  apply tY
  ·simp
  ·intro i h1 h2
   simp at h1;simp [gs];rw [kQ (by omega)];simp [Nat.add_comm]
 rw [e,Jz,aD];generalize amd.length=n at *;obtain rfl | rfl | rfl | rfl:n=2\/n=3\/n=4\/n=5:=by omega
 ·decide +kernel
 ·decide +kernel
 ·decide +kernel
 ·decide +kernel
end
section
theorem vZ {α β:Type} {f g:α->List β}:∀ {l:List α},(∀a∈l,f a=g a)->l.flatMap f=l.flatMap g
 | [],_=>rfl
 | a::l,h=>by
  rw [gj,gj,h a (by simp),vZ fun b hb=>h b (by simp [hb])]
theorem Nb {α:Type} [Inhabited α] (L:List α) {bits:Nat} (h1:1<=bits) (h2:bits<2 ^ L.length):1<=(dW (fun i=>bits.testBit i) L L.length).length/\(dW (fun i=>bits.testBit i) L L.length).length+(dW (fun i=>!bits.testBit i) L L.length).length=L.length:=by
 have h3:=(Br (fun i=>bits.testBit i) L (n:=L.length) (ah _)).length_eq;rw [bg,jl] at h3;refine ⟨?_,by omega⟩;rcases BZ (dW (fun i=>bits.testBit i) L L.length).length with e | e
 ·exfalso
  have h5:dW (fun i=>bits.testBit i) L L.length=[]:=od e;have hz:bits=0:=Nat.eq_of_testBit_eq fun i=>by
   rw [Nat.zero_testBit];by_cases hi:i<L.length
   ·cases hb:bits.testBit i
    ·rfl
    ·have:L.getD i default∈dW (fun i=>bits.testBit i) L L.length:=Mh.2 ⟨i,hi,hb,rfl⟩
     rw [h5] at this;cases this
   ·exact Nat.testBit_lt_two_pow (iI h2 (Nat.pow_le_pow_right (by decide) (by omega)))
  omega
 ·exact e
theorem yw {α:Type} [Inhabited α]:∀(d e:Nat) (L:List α),L.length<=d->L.length<=e->rt d L=rt e L
 | 0,e,L,h,_=>by
  have:L=[]:=od (by omega)
  subst this
  cases e<;>rfl
 | d+1,0,L,_,h=>by
  have:L=[]:=od (by omega)
  subst this;rfl
 | _+1,_+1,[],_,_=>rfl
 | _+1,_+1,[x],_,_=>rfl
 | d+1,e+1,x::y::L,h1,h2=>by
  rw [rt,rt]
  refine vZ fun bits hb=>?_
  rw [List.mem_range'_1] at hb
  obtain ⟨p1,p2⟩:=Nb (y::L) (bits:=bits) hb.1 (by omega)
  have hl:(y::L).length=L.length+1:=rfl
  rw [aW,hl] at h1 h2
  rw [yw d e (x::_) (by rw [aW];omega) (by rw [aW];omega),yw d e (dW _ _ _) (by omega) (by omega)]
def dA (L:List ByteArray) (bits:Nat):List ByteArray:=gs L 0::dW (fun i=>!bits.testBit i) L.tail (L.length - 1)
def dB (L:List ByteArray) (bits:Nat):List ByteArray:=dW (fun i=>bits.testBit i) L.tail (L.length - 1)
def sj (L:List ByteArray):List (BT ByteArray):=rt L.length L
def uV (r:BT ByteArray):ByteArray:=⟨(gL (nC r)).toArray⟩
def cV (L:List ByteArray):List ByteArray:=(sj L).map uV
def pairT (s t:ByteArray):ByteArray:=⟨#[40]⟩++s++⟨#[44]⟩++t++⟨#[41]⟩
def J3 (L:List ByteArray) (bits:Nat):List ByteArray:=(cV (dA L bits)).flatMap fun s=>(cV (dB L bits)).map fun t=>pairT s t
theorem QK (x:ByteArray):uV (.leaf x)=x:=by
 unfold uV;rw [nC,Iu]
theorem QL (a b:BT ByteArray):uV (.node a b)=pairT (uV a) (uV b):=by
 unfold pairT;apply yD;unfold uV;rw [adP];simp
theorem adR {L:List ByteArray} (h:2<=L.length) {bits:Nat} (h1:1<=bits) (h2:bits<2 ^ (L.length - 1)):(dA L bits).length<L.length/\1<=(dA L bits).length/\(dB L bits).length<L.length/\1<=(dB L bits).length:=by
 have hl:L.tail.length=L.length - 1:=by simp
 obtain ⟨p1,p2⟩:=Nb L.tail (bits:=bits) h1 (by rw [hl];exact h2);unfold dA dB;rw [aW,<- hl];omega
theorem aeH (x:ByteArray):cV [x]=[x]:=by
 unfold cV sj;rw [z8,rt,List.map_singleton,QK]
theorem agF {L:List ByteArray} (h:2<=L.length):cV L=(List.range' 1 (2 ^ (L.length - 1) - 1)).flatMap (J3 L):=by
 obtain ⟨x,y,L,rfl⟩:∃x y L',L=x::y::L':=by
  cases L with
  | nil=>simp at h
  | cons x L =>
   cases L with
   | nil=>simp at h
   | cons y L=>exact ⟨x,y,L,rfl⟩
 unfold cV sj;have e1:(x::y::L).length=(y::L).length+1:=rfl;rw [e1,rt,CS,wm];refine vZ fun bits hb=>?_;rw [List.mem_range'_1] at hb;have hd:=adR (L:=x::y::L) h (bits:=bits) hb.1 (by have:(x::y::L).length - 1=(y::L).length:=rfl;rw [this];omega);unfold J3 cV;rw [CS,CQ];have ea:dA (x::y::L) bits=x::dW (fun i=>!bits.testBit i) (y::L) (y::L).length:=rfl;have eb:dB (x::y::L) bits=dW (fun i=>bits.testBit i) (y::L) (y::L).length:=rfl;rw [<- ea,<- eb];have f1:rt (y::L).length (dA (x::y::L) bits)=sj (dA (x::y::L) bits):=yw _ _ _ (by simp only [aW] at hd ⊢;omega) (ah _);have f2:rt (y::L).length (dB (x::y::L) bits)=sj (dB (x::y::L) bits):=yw _ _ _ (by simp only [aW] at hd ⊢;omega) (ah _);rw [f1,f2];refine vZ fun a _=>?_;rw [jA,jA];refine lz fun b _=>?_;exact QL a b
theorem QM {L:List ByteArray}:∀ {n:Nat},L.length=n->n<=4->(sj L).length=if n=0 then 0 else if n=1 then 1 else if n=2 then 1 else if n=3 then 3 else 15:=by
 intro n hn h4;have e:L=((List.range n).map fun i=>gs L i):=by
  apply tY
  ·simp [hn]
  ·intro i h1 h2
   simp [gs,h1]
 unfold sj;rw [hn];have e2:rt n L=(rt n (List.range n)).map (BT.map fun i=>gs L i):=by rw [<- Jz];exact congrArg (rt n) e
 rw [e2,aD];obtain rfl | rfl | rfl | rfl | rfl:n=0\/n=1\/n=2\/n=3\/n=4:=by omega
 ·decide +kernel
 ·decide +kernel
 ·decide +kernel
 ·decide +kernel
 ·decide +kernel
theorem Cy {L:List ByteArray} (h:L.length<=4):(cV L).length<=15:=by
 unfold cV;rw [aD,QM rfl h];split<;>(try split)<;>(try split)<;>(try split)<;>omega
theorem aeI {L:List ByteArray} (h:L.length<=4) (h1:1<=L.length):1<=(cV L).length:=by
 unfold cV;rw [aD,QM rfl h];split<;>(try split)<;>(try split)<;>(try split)<;>omega
theorem Dk {α β:Type} {f:α->List β} {K:Nat}:∀l:List α,(∀a∈l,(f a).length<=K)->(l.flatMap f).length<=l.length*K
 | [],_=>by simp
 | a::l,h=>by
  rw [gj,bg,aW,Nat.succ_mul]
  have h1:=h a (by simp)
  have h2:=Dk l fun b hb=>h b (by simp [hb])
  omega
theorem aeJ {L:List ByteArray} {bits:Nat} (ha:(dA L bits).length<=4) (hb:(dB L bits).length<=4):(J3 L bits).length<=225:=by
 unfold J3;have h1:=Cy ha;have h2:=Cy hb;have h3:=Dk (f:=fun s=>(cV (dB L bits)).map fun t=>pairT s t) (K:=15) (cV (dA L bits)) fun s _=>by rw [aD];exact h2
 have h4:(cV (dA L bits)).length*15<=15*15:=Nat.mul_le_mul_right _ h1;omega
theorem adS {L:List ByteArray} {bits:Nat} (h:1<=L.length):(∀x∈dA L bits,x∈L)/\∀x∈dB L bits,x∈L:=by
 have hp:∀p:Nat->Bool,∀x∈dW p L.tail (L.length - 1),x∈L:=fun p x hx=>by
  obtain ⟨i,hi,_,rfl⟩:=Mh.1 hx;have hl:i<L.tail.length:=by simp;omega
  rw [rP,kQ hl];exact List.mem_of_mem_tail (jy hl)
 refine ⟨fun x hx=>?_,hp _⟩;rcases bA.1 hx with rfl | hx
 ·cases L with
  | nil=>simp at h
  | cons a l=>simp [gs]
 ·exact hp _ x hx
theorem Wh (s t:ByteArray):(pairT s t).size=s.size+t.size+3:=by
 unfold pairT;simp only [ByteArray.size_append];show 1+s.size+1+t.size+1=_;omega
theorem Dl:∀r:BT ByteArray,(∀x∈r.lR,x.size<=20)->(uV r).size+3<=23*r.lR.length
 | .leaf x,h=>by
  rw [QK]
  have:=h x (by simp [BT.lR])
  simp only [BT.lR,z8]
  omega
 | .node a b,h=>by
  have h1:=Dl a fun x hx=>h x (Je _ hx)
  have h2:=Dl b fun x hx=>h x (Jf _ hx)
  rw [QL,Wh]
  simp only [BT.lR,bg]
  omega
theorem IA {L:List ByteArray} (h:L.length<=4) (hz:∀x∈L,x.size<=20) {s:ByteArray} (hs:s∈cV L):s.size<=100:=by
 obtain ⟨r,hr,rfl⟩:=bI.1 hs;have hp:=EJ _ _ _ hr;have h1:=Dl r fun x hx=>hz x (hp.mem_iff.1 hx);have h2:=hp.length_eq;omega
theorem vE {L:List ByteArray} {M:Nat} (hz:∀x∈L,x.size<=M) (k:Nat):(gs L k).size<=M:=by
 by_cases hk:k<L.length
 ·have:gs L k=L[k]:=by simp [gs,hk]
  rw [this];exact hz _ (jy hk)
 ·have:gs L k=ByteArray.empty:=by simp [gs,hk]
  rw [this];exact aF _
end
section
open Go Go.RowKit Go.Deep
structure aeK (L L':Nat->Prop) (W W':World):Prop where
 os:W'.os=W.os
 tape:W'.tape=W.tape
 output:W'.output=W.output
 size:W.heap.size<=W'.heap.size
 block:∀b,b<W.heap.size->¬L b->W'.heap[b]? = W.heap[b]?
 more:∀b,L' b->(L b/\b<W.heap.size)\/(W.heap.size<=b/\b<W'.heap.size)
def QN {α:Type} (J:List α->(Nat->Prop)->World->Prop):Prop:=∀s L L' W W',J s L W->aeK L L' W W'->J s L' W'
def abK {α:Type} (F:Fence) (n:Nat) (P:Program) (g:Nat) (lb:Array Value) (encs:α->Array Value) (Gv:α->(Nat->Prop)->World->Prop) (Gb:α->Nat->Prop) (S:List α->Prop) (N:Nat) (w w9:World) (L0:Nat->Prop):Prop :=
 ∀(l:Nat) (J:List α->(Nat->Prop)->World->Prop) (W:World),Below w.heap.size w W->(∀b,L0 b->b<w9.heap.size/\W.heap[b]? = w9.heap[b]?)->w9.heap.size<=W.heap.size->QN J ->
  (∀pre x L W1,J pre L W1->Gv x L W1->Below w.heap.size w W1->(∀b,L b->w.heap.size<=b/\b<W1.heap.size)->pre.length<N->YieldAt F (n - 1) P l (encs x) W1 fun e W' =>
   e=.returned (.bool true)/\J (pre++[x]) L W'/\Below w.heap.size w W'/\W1.heap.size<=W'.heap.size/\∀b,(L b\/Gb x b)->W'.heap[b]? = W1.heap[b]?) ->
  J [] L0 W ->
  CallsIn F n P g (#[.func (.yield l) #[] #[]]++lb) W fun e W'=>(∃v,e=.returned v)/\∃xs L,S xs/\J xs L W'
def abL {α:Type} (B:Nat) (w0:World) (I:List α->(Nat->Prop)->World->Prop) (xs:List α) (L Lk:Nat->Prop) (W:World):Exit->Act->World->Prop
 | .normal,_,W'=>KeepsFrom B W W'/\Below w0.heap.size w0 W'/\(∀b,Lk b->W'.heap[b]? = W.heap[b]?)/\I xs L W'
 | _,_,_=>False
theorem GV {α:Type} {F:Fence} {n:Nat} {P:Program} {w:World} {g:Operand} {ps:Array Tmp} {assign body:Code} {Q:Exit->Act->World->Prop} {a:Act}
  (hro:F.round=none) (h1:1<=n) {gf:Nat} {lb:Array Value} (hg:a.eval g=.func (.func gf) #[] lb) (hFg:F.fn gf) (eg:∀args w,(callFunc gf args).run P w=.ok (.enter gf args) w)
  {encs:α->Array Value} {Gv:α->(Nat->Prop)->World->Prop} {Gb:α->Nat->Prop} {S:List α->Prop} {N:Nat} {w0:World} {L0:Nat->Prop} (hseq:abK F (n - 1) P gf lb encs Gv Gb S N w0 w L0) (Mo:∀b,L0 b->b<w.heap.size) (hGb:∀x L W b,Gv x L W->Gb x b->∃o,W.heap[b]? = some o/\o.isCells=true) (hb0:Below w0.heap.size w0 w) (hps:∀x,(encs x).size=ps.size)
  (hGv:∀x L,OwnFrom w.heap.size (fun (_:Unit) W=>Gv x L W))
  (I:List α->(Nat->Prop)->World->Prop) (hA:QN I) (hI:∀L,OwnFrom w.heap.size (fun s W=>I s L W)) (h0:I [] L0 w) (a₁:α->Act)
  (hassign:∀(l:Nat) (x:α) (W:World) (K:Act->World->Prop),K (a₁ x) W ->
   assign.wpIn (F.inRound l) (n - 1 - 1) P (Exit.then K (fun _ _ _=>False)) { tmps:=(ps.zip (encs x)).foldl (fun t (p,v)=>t.setIfInBounds p v) a.tmps,defers:=[] } W)
  (hbody:∀(l:Nat) (pre:List α) (x:α) (L:Nat->Prop) (W:World),I pre L W->Gv x L W->Below w0.heap.size w0 W->(∀b,L b->w0.heap.size<=b/\b<W.heap.size)->pre.length<N->body.wpIn (F.inRound l) (n - 1 - 1) P (abL w.heap.size w0 I (pre++[x]) L (fun b=>L b\/Gb x b) W) (a₁ x) W)
  (hdone:∀(D:Nat) (xs:List α) (L:Nat->Prop) (W:World),w.heap.size<=D->S xs->I xs L W->W.heap[D]? = some (.deferred (some []))->Q .normal { a with defers:={ target:=.collected D,args:=#[] }::a.defers } W) :
  (Code.rangeFunc g ps assign body).wpIn F n P Q a w:=by
 refine wpIn_rangeFunc ?_;intro fn hfn;rw [hro];obtain ⟨rec,Fg⟩:∃rec:LoopState->Option Code->Loop,rec=fun st pe=>{ state:=st,pending:=pe,fn,tmps:=a.tmps,params:=ps,assign,body,defers:=w.heap.size }:=⟨_,rfl⟩;obtain ⟨D,hD⟩:∃D,D=w.heap.size:=⟨_,rfl⟩;obtain ⟨W1,hW1⟩:∃W1,(w.alloc (.deferred (some []))).alloc (.loop (rec .ready none))=W1:=⟨_,rfl⟩;have hsz:W1.heap.size=D+2:=by rw [<- hW1,hD];simp
 have hL1:W1.heap[D+1]? = some (.loop (rec .ready none)):=by rw [<- hW1,hD];have:=ng (w.alloc (.deferred (some []))) (.loop (rec .ready none));rwa [aQ] at this
 have DU:W1.heap[D]? = some (.deferred (some [])):=by rw [<- hW1,hD];exact (En _ _ _ (by simp)).trans (ng w _)
 have hI1:I [] L0 W1:=by rw [<- hW1];exact (hI _).alloc _ ((hI _).alloc _ h0)
 have hb1:Below w0.heap.size w0 W1:=by rw [<- hW1];exact hb0.trans ((((cM _ w).alloc (ah _) _).alloc (by simp) _).mono hb0.size)
 have alW:=hb0.size;have agG:∀ {W:World} (l:Nat) (o:Obj),D<=l->Below w0.heap.size w0 W->Below w0.heap.size w0 (W.putObj l o):=fun {W} l o hl hb =>
  ⟨hb.os,hb.tape,hb.output,by have:=hb.size;simpa using this,fun b hbb=>(l9 (by omega)).trans (hb.block b hbb)⟩
 refine ⟨D+1,[{ target:=.collected D,args:=#[] }],W1,{ target:=.fn (.func gf) lb,args:=#[.func (.yield (D+1)) #[] #[]] },W1,gf,
  #[.func (.yield (D+1)) #[] #[]]++lb,W1,?_,?_,?_,?_,fun _=>h1,?_⟩
 ·rw [<- hW1,Fg,hD];exact run_enterLoop_outer _ _ _ _ _
 ·simp only [resolve,hg]
  simp [go_sem]
 ·intro f' hf';simp [Target.leads] at hf';subst hf';exact hFg
 ·simp [invoke,go_sem,eg]
 ·refine (hseq (D+1) (fun pre L W=>I pre L W/\W.heap[D+1]? = some (.loop (rec .ready none))/\W.heap[D]? = some (.deferred (some []))/\∀b,L b->b≠D/\b≠D+1) W1 hb1 (fun b hb=>⟨Mo b hb,by rw [<- hW1];exact (En _ _ _ (by have:=Mo b hb;simp;omega)).trans (En _ _ _ (Mo b hb))⟩) (by rw [hsz,<- hD];omega) ?_ ?_ ⟨hI1,hL1,DU,fun b h=>by have:=Mo b h;omega⟩).mono ?_
  ·rintro s L L' A B ⟨h1,h2,h3,h4⟩ hs
   have hlt:=(fq.1 h2).1;refine ⟨hA s L L' A B h1 hs,(hs.block _ hlt fun e=>?_).trans h2,(hs.block _ (by omega) fun e=>?_).trans h3,fun b hb=>?_⟩
   ·have:=h4 _ e;omega
   ·have:=h4 _ e;omega
   ·rcases hs.more b hb with e | e
    ·exact h4 b e.1
    ·omega
  ·rintro pre x L W ⟨hi,hl,hk,J4⟩ Fh iE hLw hlen
   have hlt:D+1<W.heap.size:=(fq.1 hl).1;have hy:=run_yield (P:=P) (args:=encs x) hl (by rw [Fg];exact hps x);rw [Fg] at hy;refine ⟨fn,_,assign,body,hy,roundIn_of_wpIn hfn (hassign _ x W _ ⟨_,run_beginRound hl (by rw [Fg]),?_⟩)⟩;obtain ⟨W2,hW2⟩:∃W2,W.putObj (D+1) (.loop { rec .ready none with state:=.busy })=W2:=⟨_,rfl⟩;(have hl2:W2.heap[D+1]? = some (.loop { rec .ready none with state:=.busy }):=by rw [<- hW2];exact World.putObj_heap_same hlt);(have hk2:W2.heap[D]? = some (.deferred (some [])):=by rw [<- hW2];exact (l9 (by omega)).trans hk);(have hi2:I pre L W2:=by rw [<- hW2];exact (hI L).putObj _ hi (by omega) hl rfl);(have hg2:Gv x L W2:=by rw [<- hW2];exact (hGv x L).putObj (s:=()) _ Fh (by omega) hl rfl);(have hs2:W2.heap.size=W.heap.size:=by rw [<- hW2];simp);(have GX:∀b,b≠D+1->W2.heap[b]? = W.heap[b]?:=fun b hb=>by rw [<- hW2];exact l9 (by omega));(have P9:Below w0.heap.size w0 W2:=by rw [<- hW2];exact agG _ _ (by omega) iE);rw [hW2];refine wpIn_mono (hbody _ pre x L W2 hi2 hg2 P9 (fun b hb=>by rw [hs2];exact hLw b hb) hlen) ?_;rintro e a3 W3 hp;cases e with
   | normal =>
    obtain ⟨hk3,hb3,hL3,PV⟩:=hp;have JK:=hk3.same _ _ (by omega) hl2 rfl;have hk4:=hk3.same _ _ (by omega) hk2 rfl;have hend:=run_endRound (P:=P) none JK;rw [Fg] at hend;refine ⟨_,_,hend,rfl,⟨?_,?_,?_,J4⟩,agG _ _ (by omega) hb3,?_,fun b hb=>?_⟩
    ·exact (hI L).putObj _ PV (by omega) JK rfl
    ·rw [Fg];exact World.putObj_heap_same (fq.1 JK).1
    ·exact (l9 (by omega)).trans hk4
    ·have:=hk3.size;simp;omega
    ·have hne:b≠D+1:=by
      rcases hb with hb | hb
      ·have:=J4 b hb;omega
      ·rintro rfl
       obtain ⟨o,h1,h2⟩:=hGb _ _ _ _ Fh hb
       rw [hl] at h1;injection h1 with h1;subst h1;cases h2
     exact (l9 (by omega)).trans ((hL3 b hb).trans (GX b (by omega)))
   | ret=>exact hp.elim
   | exit id=>exact hp.elim
   | goto t=>exact hp.elim
   | panic ch=>exact hp.elim
   | outgrown=>exact hp.elim
  ·rintro e W2 ⟨⟨v,rfl⟩,xs,L,hS,hi,hl,hk,J4⟩
   exact ⟨none,_,by have:=run_endLoop (P:=P) hl (by rw [Fg];simp);rw [Fg] at this;exact this,hdone D xs L _ (by omega) hS ((hI L).putObj _ hi (by omega) hl rfl) ((l9 (by omega)).trans hk)⟩
end
end Go.Proofs.YthgabkgmkolobaaGreat
