/- What the functions of layers 1 and 31 compute, as plain functions on lists. Plain: the .. -/
import Derived.Test.YthgabkgmkolobaaGreatQ39
import Derived.Test.YthgabkgmkolobaaGreatQ41
set_option maxRecDepth 100000
namespace Go.Proofs.YthgabkgmkolobaaGreat
section
end
section
end
section
end
section
end
section
end
section
end
section
end
section
end
section
end
section
def Gs (t:az) (st:List Int) (cs:List (List Int)) (l:List Int) (k:Nat):Int :=
 (cN (if k=0 then fun _=>0 else gi (gl cs (gi l (gi t.ps k).toNat).toNat)) (gi (bK t st cs k)) cs.length).2
def rV (t:az) (st:List Int) (cs:List (List Int)):Nat->List Int
 | 0=>[]
 | k+1=>rV t st cs k++[Gs t st cs (rV t st cs k) k]
def jy (t:az) (st:List Int) (cs:List (List Int)):List Int:=rV t st cs t.ps.length
theorem Gt (t:az) (st:List Int) (cs:List (List Int)):∀k,(rV t st cs k).length=k
 | 0=>rfl
 | k+1=>by rw [rV,aZ,Gt t st cs k];rfl
theorem Sk (l:List Int) (x:Int) (j:Nat):gi (l++[x]) j=if j<l.length then gi l j else if j=l.length then x else 0:=by
 unfold gi;by_cases h:j<l.length
 ·rw [if_pos h];simp [List.getElem?_append,h]
 ·rw [if_neg h]
  by_cases e:j=l.length
  ·rw [if_pos e];simp [e]
  ·rw [if_neg e];simp;rw [vh (by simp;omega)];rfl
theorem Lp (t:az) (st:List Int) (cs:List (List Int)) {k j:Nat} (h:j<k):gi (rV t st cs (k+1)) j=gi (rV t st cs k) j:=by
 rw [rV,Sk,Gt,if_pos h]
theorem Ec (t:az) (st:List Int) (cs:List (List Int)) (k:Nat):gi (rV t st cs (k+1)) k=Gs t st cs (rV t st cs k) k:=by
 rw [rV,Sk,Gt,if_neg (by omega),if_pos rfl]
theorem AP (t:az) (st:List Int) (cs:List (List Int)) {j:Nat}:∀ {k n:Nat},j<k->k<=n->gi (rV t st cs n) j=gi (rV t st cs k) j
 | k,0,h,h2=>by omega
 | k,n+1,h,h2=>by
  by_cases e:k=n+1
  ·rw [e]
  ·rw [Lp t st cs (by omega),AP t st cs h (by omega)]
section
variable {t:az} {st:List Int} {cs:List (List Int)}
theorem WS (hv:Valid t st cs) (a:Nat):∀j,j<cs.length->0<=gi (gl cs a) j/\gi (gl cs a) j<=1000:=fun j _=>(yE hv.mat).2.2.2.1 a j
theorem WT (hv:Valid t st cs) (l:List Int) {k:Nat} (hk:k<t.ps.length):∃o:Nat,Gs t st cs l k=o/\o<cs.length/\0<=gi (bK t st cs k) o:=by
 unfold Gs
 obtain ⟨o,h1,h2,h3,_⟩:=AV hv (c:=if k=0 then fun _=>0 else gi (gl cs (gi l (gi t.ps k).toNat).toNat)) (fun j hj=>by
  by_cases e:k=0
  ·simp [e]
  ·simp only [e,if_false];exact WS hv _ j hj) hk
 exact ⟨o,h1,h2,h3⟩
theorem PT (hv:Valid t st cs):∀ {k j:Nat},k<=t.ps.length->j<k->∃o:Nat,gi (rV t st cs k) j=o/\o<cs.length
 | 0,j,_,h=>by omega
 | k+1,j,hk,h=>by
  by_cases e:j=k
  ·subst e;rw [Ec]
   obtain ⟨o,h1,h2,_⟩:=WT hv (rV t st cs j) (k:=j) (by omega)
   exact ⟨o,h1,h2⟩
  ·rw [Lp _ _ _ (by omega)];exact PT hv (by omega) (by omega)
end
end
section
def yR (cs:List (List Int)) (all:List Int) (node child:Nat):Int:=jm cs (gi all node).toNat (gi all child).toNat
def OT (t:az) (cs:List (List Int)) (all:List Int) (node:Nat):Int:=((bq t.ps node).map (yR cs all node)).sum
def S6 (t:az) (cs:List (List Int)) (all:List Int) (k:Nat):Int:=bJ (OT t cs all) k
def Gu (t:az) (cs:List (List Int)) (all:List Int):Int:=S6 t cs all t.ps.length
def yS (n m:Nat) (all:List Int):Prop:=all.length=n/\∀k,k<n->0<=gi all k/\gi all k<m
end
section
section
variable {n m:Nat} {par own own':Nat->Int} {cost:Nat->Nat->Int}
theorem tab_le_far (F:Fine n m par own cost) {c:Nat} (hc:c<n) {j:Nat} (hj:j<m):tab n m par own cost c j<=1000*(n:Int):=by
 have h1:=((Ej F (d:=n) (i:=c) (by omega) hc).1 j hj).2;have h2:=ub_le (par:=par) F.SX hc;have:((n - c:Nat):Int)<=(n:Int):=by omega
 omega
def DD (n:Nat) (par:Nat->Int) (T:Nat->Int) (k:Nat):Int:=bJ (fun c=>if k<=c/\par c<k then T c else 0) n
theorem WU (h:∀c,c<n->par c<c) (T:Nat->Int) {k:Nat} (hk:k<n):DD n par T k+bJ (fun c=>if k<c/\par c=k then T c else 0) n=T k+DD n par T (k+1):=by
 have h1:DD n par T k=bJ (fun c=>if k+1<=c/\par c<k then T c else 0) n+bJ (fun c=>if c=k then T k else 0) n:=by
  rw [<- sZ];unfold DD;refine eD fun c hc=>?_;by_cases e:c=k
  ·subst e
   have:=h c hc;rw [if_pos ⟨af _,this⟩,if_neg (by omega),if_pos rfl];omega
  ·by_cases h2:k<=c/\par c<k
   ·rw [if_pos h2,if_pos ⟨by omega,h2.2⟩,if_neg e];omega
   ·rw [if_neg h2,if_neg (fun h3=>h2 ⟨by omega,h3.2⟩),if_neg e];rfl
 have h2:DD n par T (k+1)=bJ (fun c=>if k+1<=c/\par c<k then T c else 0) n+bJ (fun c=>if k<c/\par c=k then T c else 0) n:=by
  rw [<- sZ];unfold DD;refine eD fun c _=>?_;by_cases h3:k+1<=c
  ·by_cases h4:par c=k
   ·rw [if_pos ⟨h3,by omega⟩,if_neg (by omega),if_pos ⟨h3,h4⟩];omega
   ·by_cases h5:par c<k
    ·rw [if_pos ⟨h3,by omega⟩,if_pos ⟨h3,h5⟩,if_neg (fun h=>h4 h.2)];omega
    ·rw [if_neg (by omega),if_neg (fun h=>h5 h.2),if_neg (fun h=>h4 h.2)];rfl
  ·rw [if_neg (fun h=>h3 h.1),if_neg (fun h=>h3 h.1),if_neg (fun h=>h3 (by omega))];rfl
 rw [vw,if_pos hk] at h1;omega
theorem psi_end (T:Nat->Int):DD n par T n=0:=by
 unfold DD;refine (eD (g:=fun _=>0) fun c hc=>?_).trans (s8 n);rw [if_neg (by omega)]
theorem WV (h0:par 0<0) (h1:∀c,0<c->c<n->0<=par c) (hn:0<n) (T:Nat->Int):DD n par T 0=T 0:=by
 unfold DD;have:bJ (fun c=>if 0<=c/\par c<(0:Nat) then T c else 0) n=bJ (fun c=>if c=0 then T 0 else 0) n:=eD fun c hc=>by
  by_cases e:c=0
  ·subst e;rw [if_pos ⟨af _,h0⟩,if_pos rfl]
  ·have:=h1 c (by omega) hc
   rw [if_neg (by simp;omega),if_neg e]
 rw [this,vw,if_pos hn]
theorem whole_le (h:∀c,c<n->par c<c) (h0:par 0<0) (h1:∀c,0<c->c<n->0<=par c) (hn:0<n) {T N:Nat->Int}
  (hT:∀k,k<n->T k<=N k+bJ (fun c=>if k<c/\par c=k then T c else 0) n):T 0<=bJ N n:=by
 have hk:∀k,k<=n->DD n par T 0<=bJ N k+DD n par T k:=fun k=>by
  induction k with
  | zero=>intro _;simp [bJ]
  | succ k ih =>
   intro hk;have h2:=ih (by omega);have h3:=WU h T (k:=k) (by omega);have h4:=hT k (by omega);rw [fD];omega
 have h2:=hk n (af _);rw [psi_end,WV h0 h1 hn] at h2;omega
theorem whole_eq (h:∀c,c<n->par c<c) (h0:par 0<0) (h1:∀c,0<c->c<n->0<=par c) (hn:0<n) {T N:Nat->Int}
  (hT:∀k,k<n->T k=N k+bJ (fun c=>if k<c/\par c=k then T c else 0) n):T 0=bJ N n:=by
 have hk:∀k,k<=n->DD n par T 0=bJ N k+DD n par T k:=fun k=>by
  induction k with
  | zero=>intro _;simp [bJ]
  | succ k ih =>
   intro hk;have h2:=ih (by omega);have h3:=WU h T (k:=k) (by omega);have h4:=hT k (by omega);rw [fD];omega
 have h2:=hk n (af _);rw [psi_end,WV h0 h1 hn] at h2;omega
end
end
section
section
variable {t:az} {st:List Int} {cs:List (List Int)}
theorem WW (h:Valid t st cs):gi t.ps 0<0:=by
 have:=(uJ (aF h.tree).2.2.2.1 (aF h.tree).1).2.2 rfl;omega
theorem JL (t:az) (cs:List (List Int)) (all:List Int) (k:Nat):OT t cs all k=bJ (fun c=>if k<c/\gi t.ps c=k then yR cs all k c else 0) t.ps.length:=by
 unfold OT bq;rw [Hu]
def S7 (t:az) (st all:List Int):Prop:=∀i,i<(aD t.ns).length->0<=gi st i->gi all (gi (aD t.ns) i).toNat=gi st i
theorem Mv {all:List Int} (hf:S7 t st all) (k:Nat) (h0:0<=nh t.ns st k):gi all k=nh t.ns st k:=by
 have h1:0<=kj t.ns k:=by
  unfold nh at h0;by_cases e:0<=kj t.ns k
  ·exact e
  ·rw [if_neg e] at h0;omega
 obtain ⟨h2,h3⟩:=CQ h1;have h4:=PK (st:=st) h2 h3;rw [h4] at h0 ⊢;have:=hf _ h2 h0;rw [h3,cZ] at this;exact this
theorem WX (h:Valid t st cs) {all:List Int} (ha:yS t.ps.length cs.length all) (hf:S7 t st all) {k:Nat} (hk:k<t.ps.length):0<=kG t st cs k (gi all k).toNat:=by
 obtain ⟨_,_,h3,h4⟩:=Ej h.fine (d:=t.ps.length) (i:=k) (by omega) hk;obtain ⟨a1,a2⟩:=ha.2 k hk;have ho:=h.fine.own1 k hk;unfold kG;by_cases h0:0<=nh t.ns st k
 ·have h5:=h4 h0 (gi all k).toNat (by omega)
  have h6:=Mv hf k h0;rw [h5,if_pos (by omega)];exact lT _
 ·exact h3 (by omega) _ (by omega)
theorem Gw (h:Valid t st cs) {all:List Int} (ha:yS t.ps.length cs.length all) (hf:S7 t st all):dg t st cs<=Gu t cs all:=by
 obtain ⟨jW,_,_,hok,_⟩:=aF h.tree;have F:=h.fine;have hroot:=WW h
 have hw:=whole_le (n:=t.ps.length) (par:=gi t.ps) F.SX hroot F.par0 jW (T:=fun k=>kG t st cs k (gi all k).toNat) (N:=OT t cs all) (fun k hk=>by
  obtain ⟨a1,a2⟩:=ha.2 k hk;have e:=M8 (m:=cs.length) (par:=gi t.ps) (own:=nh t.ns st) (cost:=jm cs) hk (gi all k).toNat;unfold DI at e;have hbase:¬(0<=nh t.ns st k/\nh t.ns st k≠((gi all k).toNat:Nat)):=fun hh=>by have:=Mv hf k hh.1;omega
  rw [if_neg hbase] at e;show kG t st cs k (gi all k).toNat<=_;have e':kG t st cs k (gi all k).toNat=0+bJ (fun c=>if k<c/\gi t.ps c=k then (cN (jm cs (gi all k).toNat) (kG t st cs c) cs.length).1 else 0) t.ps.length:=e;rw [e',JL,<- sZ,Int.zero_add];refine ki fun c hc=>?_;show (if k<c/\gi t.ps c=k then _ else (0:Int))<=(if k<c/\gi t.ps c=k then _ else 0)+(if k<c/\gi t.ps c=k then _ else 0);split
  ·obtain ⟨b1,b2⟩:=ha.2 c hc
   have hT:=WX h ha hf hc;rcases Al (A:=1000*(t.ps.length:Int)) (by omega) (c:=jm cs (gi all k).toNat) (row:=kG t st cs c) (k:=cs.length) (fun j hj=>F.SY _ j (by omega) hj) (fun j hj=>tab_le_far F hc hj) with ⟨_,h3⟩ | ⟨o,_,_,_,_,h5,_⟩
   ·have:=h3 (gi all c).toNat (by omega);omega
   ·have:=h5 (gi all c).toNat (by omega) hT
    unfold yR;exact this
  ·omega)
 obtain ⟨_,_,_,_,_,h6⟩:=Fy h;obtain ⟨a1,a2⟩:=ha.2 0 jW;have:=h6 (gi all 0).toNat (by omega) (WX h ha hf jW);unfold Gu S6;omega
theorem WY (t:az) (st:List Int) (cs:List (List Int)):(jy t st cs).length=t.ps.length:=Gt t st cs _
theorem asg_ok (h:Valid t st cs):yS t.ps.length cs.length (jy t st cs):=by
 refine ⟨WY t st cs,fun k hk=>?_⟩;obtain ⟨o,h1,h2⟩:=PT h (k:=t.ps.length) (j:=k) (af _) hk;unfold jy;rw [h1];omega
theorem asg_at (h:Valid t st cs) {k:Nat} (hk:k<t.ps.length):gi (jy t st cs) k=(cN (if k=0 then fun _=>0 else gi (gl cs (gi (jy t st cs) (gi t.ps k).toNat).toNat)) (gi (bK t st cs k)) cs.length).2:=by
 have h1:gi (jy t st cs) k=Gs t st cs (rV t st cs k) k:=by unfold jy;rw [AP t st cs (pI k) (by omega),Ec]
 rw [h1];unfold Gs;by_cases e:k=0
 ·simp [e]
 ·simp only [e,if_false]
  have hp:=(uJ (aF h.tree).2.2.2.1 hk);have h2:=hp.1;have h3:=hp.2.1 (by omega);have h4:gi (jy t st cs) (gi t.ps k).toNat=gi (rV t st cs k) (gi t.ps k).toNat:=by unfold jy;exact AP t st cs (by omega) (by omega)
  rw [h4]
theorem asg_tab (h:Valid t st cs) {k:Nat} (hk:k<t.ps.length):0<=kG t st cs k (gi (jy t st cs) k).toNat:=by
 obtain ⟨o,h1,h2,h3⟩:=WT h (rV t st cs k) hk;have h4:gi (jy t st cs) k=Gs t st cs (rV t st cs k) k:=by unfold jy;rw [AP t st cs (pI k) (by omega),Ec]
 rw [ig _ _ _ _ h2] at h3;rw [h4,h1,cZ];exact h3
theorem CB (h:Valid t st cs):S7 t st (jy t st cs):=by
 intro i hi h0;obtain ⟨k,e,hk,_⟩:=qi hi;have hkn:k<t.ps.length:=by rw [<- (aF h.tree).2.2.1];exact hk
 rw [e,cZ];have ho:=PK (st:=st) hi e;obtain ⟨_,_,_,h4⟩:=Ej h.fine (d:=t.ps.length) (i:=k) (by omega) hkn;obtain ⟨a1,a2⟩:=(asg_ok h).2 k hkn;have h5:=h4 (by rw [ho];exact h0) (gi (jy t st cs) k).toNat (by omega);have h6:=asg_tab h hkn;unfold kG at h6;rw [h5] at h6;split at h6
 ·rename_i e2;rw [ho] at e2;omega
 ·omega
theorem Gx (h:Valid t st cs):Gu t cs (jy t st cs)=dg t st cs:=by
 obtain ⟨jW,_,_,hok,_⟩:=aF h.tree;have F:=h.fine;have ha:=asg_ok h
 have hw:=whole_eq (n:=t.ps.length) (par:=gi t.ps) F.SX (WW h) F.par0 jW (T:=fun k=>kG t st cs k (gi (jy t st cs) k).toNat) (N:=OT t cs (jy t st cs)) (fun k hk=>by
  obtain ⟨a1,a2⟩:=ha.2 k hk;have e:=M8 (m:=cs.length) (par:=gi t.ps) (own:=nh t.ns st) (cost:=jm cs) hk (gi (jy t st cs) k).toNat;unfold DI at e;have hbase:¬(0<=nh t.ns st k/\nh t.ns st k≠((gi (jy t st cs) k).toNat:Nat)):=fun hh=>by have:=Mv (CB h) k hh.1;omega
  rw [if_neg hbase] at e;show kG t st cs k (gi (jy t st cs) k).toNat=_;have e':kG t st cs k (gi (jy t st cs) k).toNat=0+bJ (fun c=>if k<c/\gi t.ps c=k then (cN (jm cs (gi (jy t st cs) k).toNat) (kG t st cs c) cs.length).1 else 0) t.ps.length:=e;rw [e',JL,<- sZ,Int.zero_add];refine eD fun c hc=>?_;show (if k<c/\gi t.ps c=k then _ else (0:Int))=(if k<c/\gi t.ps c=k then _ else 0)+(if k<c/\gi t.ps c=k then _ else 0);split
  ·rename_i hkc
   have hat:=asg_at h hc;rw [if_neg (by omega),hkc.2,cZ] at hat;obtain ⟨o,h1,h2,h3,h4,_⟩:=AV h (c:=gi (gl cs (gi (jy t st cs) k).toNat)) (fun j hj=>WS h _ j hj) hc;rw [h1] at hat;have zP:cN (jm cs (gi (jy t st cs) k).toNat) (kG t st cs c) cs.length=cN (gi (gl cs (gi (jy t st cs) k).toNat)) (gi (bK t st cs c)) cs.length:=uH (fun _ _=>rfl) fun j hj=>(ig t st cs c hj).symm;rw [zP,h4,ig _ _ _ _ h2];unfold yR jm;rw [hat,cZ]
  ·rfl)
 obtain ⟨o,h1,_,_,h4,_⟩:=Fy h;have hat:=asg_at h jW;rw [if_pos rfl,h1] at hat;rw [hat,cZ] at hw;unfold Gu S6;omega
end
end
section
end
section
end
section
open Go.RowKit Go.Deep
section
variable {P:Program} {ops:Array Oper} {rest:List Oper} {o:Oper} {a:Act} {Q:Exit->Act->World->Prop}
theorem Lr (W:World) (hgd:o.guard=none) (s x:Operand) (t:TypeId) (ho:o.op=.call { callee:=.builtin .append,args:=#[s,x],argTypes:=#[t,t] })
  (base:Nat) (e:TypeId) (z:Value) (bytes:Nat) (ht:P.underlying t=some (.slice e)) (hinfo:(P.info? e).map (fun i=>(i.zero,i.size,i.bytes))=some (some z,1,bytes))
  (hz1:z.cells.size=1) (qE:bytes<=64) {v:Value} {vs:List Value} (hown:ax base e W v vs) (hs:a.eval s=v) (u:Value) (m:Nat) (hm:W.heap.size=m)
  (hx:a.eval x=.slice (some ⟨m,0,none⟩) 1 1) (h1:u.oneCell'=true) (n:Nat) (uM:vs.length=n) (hn:n<=1000000) (hbase:base<=W.heap.size)
  (h:∀g cap w',ax base e w' (.slice (some ⟨g,0,none⟩) (n+1) cap) (vs++[u])->W.grownBy w' v.ownBlock->Below base W w'->wpList P ops Q rest (a.put o.dst (.slice (some ⟨g,0,none⟩) (n+1) cap)) w') :
  wpList P ops Q (o::rest) a (W.alloc (.cells #[u] e)):=by
 subst uM;subst hm;exact r9 W hgd s x t ho base e z bytes ht hinfo hz1 qE hown hs u hx h1 hn hbase h
end
end
section
theorem Sl (f:Nat->Nat->Int) (m:Nat):∀n,bJ (fun a=>bJ (fun b=>f a b) m) n=bJ (fun b=>bJ (fun a=>f a b) n) m
 | 0=>by simp only [bJ];exact (s8 m).symm
 | n+1=>by
  rw [fD,Sl f m n,<- sZ]
  rfl
theorem Ye {t:az} (hok:k8 t.ps=true) (cs:List (List Int)) (all:List Int):Gu t cs all=bJ (fun c=>if 0<c then yR cs all (gi t.ps c).toNat c else 0) t.ps.length:=by
 unfold Gu S6;rw [eD (fun k _=>JL t cs all k),Sl];refine eD fun c hc=>?_;obtain ⟨h1,h2,h3⟩:=uJ hok hc;by_cases h0:0<c
 ·rw [if_pos h0]
  have hp:=h2 h0;obtain ⟨p,KD⟩:=pE hp;have h4:∀k,k<t.ps.length->(if k<c/\gi t.ps c=(k:Int) then yR cs all k c else 0)=if k=p then yR cs all p c else 0:=fun k _=>by
   by_cases e:k=p
   ·subst e;rw [if_pos ⟨by omega,KD⟩,if_pos rfl]
   ·rw [if_neg (by omega),if_neg e]
  rw [eD h4,vw,if_pos (by omega),KD];rfl
 ·rw [if_neg h0]
  have h4:∀k,k<t.ps.length->(if k<c/\gi t.ps c=(k:Int) then yR cs all k c else 0)=0:=fun k _=>if_neg (by omega);rw [eD h4,s8]
theorem OU {l m:List Int} (h:∀x∈l,x∈m):(dd l).length<=(dd m).length :=
 (vI l).length_le_of_subset fun x hx=>mE.2 (h x (mE.1 hx))
theorem dd_cons_le (x:Int) (l:List Int):((dd (x::l)).length:Int)<=(dd l).length+if x∈l then 0 else 1:=by
 show (((if x∈dd l then dd l else x::dd l):List Int).length:Int)<=_;by_cases h:x∈dd l
 ·rw [if_pos h,if_pos (mE.1 h)];omega
 ·rw [if_neg h,if_neg (fun h2=>h (mE.2 h2))];simp
def yT (a:Nat->Int):Nat->List Int
 | 0=>[]
 | k+1=>a k::yT a k
theorem JM {a:Nat->Int} {x:Int}:∀ {k:Nat},x∈yT a k↔∃j,j<k/\a j=x
 | 0=>⟨fun h=>absurd h (qD),fun ⟨j,h,_⟩=>absurd h (bG _)⟩
 | k+1=>by
  show x∈a k::yT a k↔_
  rw [aW,JM]
  constructor
  ·rintro (e | ⟨j,hj,e⟩)
   ·exact ⟨k,pI k,e.symm⟩
   ·exact ⟨j,by omega,e⟩
  ·rintro ⟨j,hj,e⟩
   by_cases h:j=k
   ·subst h;exact .inl e.symm
   ·exact .inr ⟨j,by omega,e⟩
theorem dd_edges {p:Nat->Nat} (hp:∀c,0<c->p c<c) (a:Nat->Int):∀ {k:Nat},0<k->((dd (yT a k)).length:Int)<=1+bJ (fun c=>if 0<c then (if a (p c)=a c then 0 else 1) else 0) k:=by
 intro k
 induction k with
 | zero=>intro h;exact absurd h (mU 0)
 | succ k ih =>
  intro _;show ((dd (a k::yT a k)).length:Int)<=_;have h1:=dd_cons_le (a k) (yT a k);rw [fD];by_cases h0:0<k
  ·have h2:=ih h0
   rw [if_pos h0];by_cases e:a (p k)=a k
   ·rw [if_pos (JM.2 ⟨p k,hp k h0,e⟩)] at h1
    rw [if_pos e];omega
   ·rw [if_neg e]
    (have:(if a k∈yT a k then (0:Int) else 1)<=1:=by split<;>omega);omega
  ·have:k=0:=by omega
   subst this;simp [dd,yT,bJ]
theorem dd_edges' {p:Nat->Nat} {a:Nat->Int} {n:Nat} (hp:∀c,c<n->0<c->p c<c) {k:Nat} (h0:0<k) (hk:k<=n):((dd (yT a k)).length:Int)<=1+bJ (fun c=>if 0<c then (if a (p c)=a c then 0 else 1) else 0) k:=by
 have h:=dd_edges (p:=fun c=>if c<n then p c else 0) (fun c hc=>by
  show (if c<n then p c else 0)<c;split
  ·exact hp c ‹_› hc
  ·exact hc) a h0
 rwa [eD (g:=fun c=>if 0<c then (if a (p c)=a c then 0 else 1) else 0) (fun c hc=>by show (if 0<c then (if a (if c<n then p c else 0)=a c then (0:Int) else 1) else 0)=_;rw [if_pos (show c<n by omega)])] at h
end
section
section
variable {t:az} {st:List Int}
theorem edge_u {n:Nat} {all:List Int} {N:Nat} (ha:yS N n all) {p c:Nat} (hp:p<N) (hc:c<N):yR (bZ n) all p c=if gi all p=gi all c then 0 else 1:=by
 obtain ⟨a1,a2⟩:=ha.2 p hp;obtain ⟨b1,b2⟩:=ha.2 c hc;unfold yR;rw [R9 (by omega) (by omega)];by_cases e:gi all p=gi all c
 ·rw [if_pos e,if_pos (by rw [e])]
 ·rw [if_neg e,if_neg (by omega)]
theorem wK (ht:aH t=0) {n:Nat} {all:List Int} (ha:yS t.ps.length n all):Gu t (bZ n) all=bJ (fun c=>if 0<c then (if gi all (gi t.ps c).toNat=gi all c then 0 else 1) else 0) t.ps.length:=by
 have hok:=(aF ht).2.2.2.1;rw [Ye hok];refine eD fun c hc=>?_;by_cases h0:0<c
 ·obtain ⟨h1,h2,_⟩:=uJ hok hc
  have:=h2 h0;rw [if_pos h0,if_pos h0,edge_u ha (by omega) hc]
 ·rw [if_neg h0,if_neg h0]
theorem Kl {cs:List (List Int)} (h:Valid t st cs):yS t.ps.length cs.length (jy t st cs) :=
 ⟨WY t st cs,fun k hk=>by obtain ⟨o,e,ho⟩:=PT h (k:=t.ps.length) (af _) hk;unfold jy;rw [e];omega⟩
theorem ua {x:Int}:x∈eN st↔x∈st/\0<=x:=by simp [eN]
end
end
section
theorem PU {ps:List Int} (hok:k8 ps=true) {k c:Nat} (hc:c<ps.length) (h0:0<c) (hne:c≠k):ew ps k (gi ps c).toNat=ew ps k c:=by
 have hpar:=jb hok hc h0;have hpl:(gi ps c).toNat<c:=by omega
 unfold ew;by_cases hk:k<c
 ·rw [FZ hok hc hk]
 ·rw [tR (show ¬k<c from hk),tR (show ¬k<(gi ps c).toNat by omega),decide_eq_false (show ¬c=k from hne),decide_eq_false (by omega)]
section
variable {t:az} {aac:List ByteArray} {st:List Int}
theorem Km (h:dK t aac) {k v b:Nat} (hv:v<t.ps.length) (h0:(gs t.ns v).size≠0) (hb:b<aac.length) (e:iD aac (gs t.ns v)=(b:Int)):ew t.ps k v=true↔(b:Int)∈cu t aac k:=by
 rw [nP];constructor
 ·intro hh;exact ⟨by omega,by omega,v,hv,hh,h0,e⟩
 ·rintro ⟨_,_,j,hj,hh,hj0,ej⟩
  obtain ⟨b1,_,e1,f1⟩:=zm h hv h0;obtain ⟨b2,_,e2,f2⟩:=zm h hj hj0;have:b1=b2:=by rw [f1] at e;rw [f2] at ej;omega
  subst this;have:=eL.inj (⟨h.te,hv,h0⟩:eL t v) hj hv hj0 (by rw [<- e1,<- e2]);subst this;exact hh
end
end
section
section
variable {t:az} {st:List Int}
theorem OV (h:Valid t st (bZ 16)):((dd (eN st)).length:Int) - 1<=dg t st (bZ 16):=by
 have ht:=h.tree;obtain ⟨jW,_,_,hok,_⟩:=aF ht;have a4:=Kl h;rw [gM] at a4;rw [<- Gx h,wK ht a4];have hb:(dd (eN st)).length<=(dd (yT (gi (jy t st (bZ 16))) t.ps.length)).length:=OU fun x hx=>by obtain ⟨h1,h2⟩:=ua.1 hx;obtain ⟨i,hi,e⟩:=zl h1;rw [h.len] at hi;obtain ⟨k,hk,hkn,_⟩:=qi hi;have:=CB h i hi (by omega);rw [hk,cZ] at this;exact JM.2 ⟨k,by rw [<- (aF ht).2.2.1];exact hkn,by rw [this,e]⟩
 have hd:=dd_edges' (p:=fun c=>(gi t.ps c).toNat) (a:=gi (jy t st (bZ 16))) (n:=t.ps.length) (fun c hc h0=>by
  obtain ⟨h1,h2,_⟩:=uJ hok hc;have:=h2 h0;show (gi t.ps c).toNat<c
  omega) jW (af _)
 omega
end
section
variable {t u:az} {aac:List ByteArray} {aad:List (List Int)}
theorem of_perm34 (_hn:gT aac) (ht:dK t aac):(qK t.ns).Perm aac:=by
 have fe:(qK t.ns).Nodup:=(rN ht.te).nodup (ou ht.te).nd;refine Gj fe (fun x hx=>?_) ?_
 ·obtain ⟨j,hj,rfl,hj0⟩:=ES.1 hx
  obtain ⟨_,_,hnl,_,_⟩:=aF ht.te;obtain ⟨b,hb,e⟩:=ht.has j (by omega) hj0;rw [<- e];simp [gs,hb]
 ·rw [<- Dc,ht.len];omega
theorem own_has (hc:mR aac aad) (ht:dK t aac) {p b:Nat} (hb:b<aac.length):∃j,j<(iN t aac aad p).length/\gi (iN t aac aad p) j=gi (gl aad b) p:=by
 have hp:=of_perm34 hc.nm ht;have hm:gs aac b∈qK t.ns:=hp.mem_iff.2 (by simp [gs,hb]);obtain ⟨v,hv,e,hv0⟩:=ES.1 hm;obtain ⟨_,_,hnl,_,_⟩:=aF ht.te;obtain ⟨p1,p2⟩:=Pr hnl (show v<t.ps.length by omega) (by rw [e];exact hv0);refine ⟨(kj t.ns v).toNat,by unfold iN;rw [qp];exact p1,?_⟩;unfold iN;rw [A7 p1,p2,cZ,e,sR hc.nm.Ve hb,cZ,r7 _ _ (by rw [hc.len];exact hb)]
theorem bound_le (hc:mR aac aad) (ht:dK t aac):lI aad<=bz t aac aad:=by
 unfold lI bz;refine ki fun p hp=>?_;have hv:=ru hc ht hp;have h1:=OV hv;have h0:=s9 hv;have h2:JF aad p<=(dd (eN (iN t aac aad p))).length:=OU fun x hx=>by obtain ⟨x1,x2⟩:=ua.1 hx;refine ua.2 ⟨?_,x2⟩;obtain ⟨b,hb,e⟩:=zl x1;rw [gC] at hb;rw [r7 _ _ hb] at e;obtain ⟨j,hj,e2⟩:=own_has (p:=p) hc ht (b:=b) (by rw [<- hc.len];exact hb);rw [<- e,<- e2];exact mq hj
 unfold lH;split<;>omega
theorem Ed (hc:mR aac aad):lI aad<=cB aac aad:=by
 obtain ⟨_,_,t,ht,e⟩:=sk hc;rw [<- e];exact bound_le hc (mM hc.nm ht).1
end
end
section
instance memDec34 (x:ByteArray) (l:List ByteArray):Decidable (x∈l):=decidable_of_iff (l.any (fun y=>decide (y=x))=true) (by simp)
end
end Go.Proofs.YthgabkgmkolobaaGreat
