/- A region that draws its order: S is to hold behind an operation only where another one is .. -/
import Derived.OrdersHeld
import Derived.Deep.RegionHeld
import Derived.Test.YtfomhlbhcifgbaaGreatDoorQ5
set_option maxRecDepth 100000
namespace Go.Proofs.YtfomhlbhcifgbaaGreatDoor
open Go.RowKit Go.Deep
section
variable {P:Program} {ops:Array Oper} {Q:Exit->Act->World->Prop} {md:Region.Mode} {S:World->Prop} {t:Nat}
def dU (t:Nat) (l:Array Bool):Prop:=∃m,m<t/\l.getD m true=false
def jx (t:Nat) (md:Region.Mode) (ops:Array Oper) (l:Array Bool) (i:Nat):Bool:=(List.range t).any fun m=>!l.getD m true&&(match ops[m]? with | some o=>o.after.any fun e=>Region.binds md e&&e.on==i | none=>false)
def ah (P:Program) (md:Region.Mode) (ops:Array Oper) (Q:Exit->Act->World->Prop) (S:World->Prop) (t:Nat):Nat->Array Bool->Act->World->Prop
 | 0,l,a,w=>Region.ready md ops l=[]/\Q .normal a w
 | n+1,l,a,w=>(Region.ready md ops l=[]->Q .normal a w) /\
  ∀i∈Region.ready md ops l,wpOp P ops Q i (fun a' w'=>(dU t (l.setIfInBounds i true)->S w')/\ah P md ops Q S t n (l.setIfInBounds i true) a' w') a w
theorem ah.any:∀(n:Nat) (l:Array Bool) (a:Act) (w:World),ah P md ops Q S t n l a w->wpAny P md ops Q n l a w
 | 0,_,_,_,h=>h
 | n+1,_,_,_,h=>⟨h.1,fun i hi=>wpOp_mono (fun a' w' h'=>ah.any n _ a' w' h'.2) (h.2 i hi)⟩
theorem ah.first {i:Nat} {oi:Oper} {v:Value} (hi:ops[i]? = some oi) (hsel:∀(j:Nat) (o:Oper) cs b,ops[j]? = some o->o.op≠.select cs b)
  (hQ:∀c a w,Q (.panic c) (a.put oi.dst v) w->Q (.panic c) a w):∀(n:Nat) (l:Array Bool) (a:Act) (w:World),
   (∀j oj,ops[j]? = some oj->j≠i->l.getD j true=false->(∀e∈oj.after,Region.binds md e=true->e.on≠i)->oi.apart ops oj=true) ->
   i∈Region.ready md ops l->jx t md ops l i=true->YieldsIf P ops S oi v a->S w->ah P md ops Q S t n (l.setIfInBounds i true) (a.put oi.dst v) w->ah P md ops Q S t (n+1) l a w:=by
 intro n
 induction n with
 | zero =>
  intro l a w _ hr _ hy hS H;refine ⟨fun h=>absurd hr (by rw [h];simp),fun j hj=>?_⟩;by_cases hji:j=i
  ·subst hji;exact hy.wpOp hi hS ⟨fun _=>hS,H⟩
  ·exact absurd (ready_mono hj hji) (by rw [H.1];simp)
 | succ n ih =>
  intro l a w hfree hr hwt hy hS H;refine ⟨fun h=>absurd hr (by rw [h];simp),fun j hj=>?_⟩;by_cases hji:j=i
  ·subst hji;exact hy.wpOp hi hS ⟨fun _=>hS,H⟩
  ·have hun:=(mem_ready.1 hr).1
   obtain ⟨rF,oj,k8,hall⟩:=mem_ready.1 hj;have hnot:∀e∈oj.after,Region.binds md e=true->e.on≠i:=fun e he hb heq=>by
    have h1:=hall e he hb;rw [heq] at h1;by_cases h':i<l.size
    ·simp [h'] at hun h1;rw [hun] at h1;cases h1
    ·simp [h'] at h1
   have h2:=wpOp_putIf k8 (hfree j oj k8 hji rF hnot) (fun cs b=>hsel i oi cs b hi) (fun cs b=>hsel j oj cs b k8) hQ hy (H.2 j (ready_mono hj hji));have hir:i∈Region.ready md ops (l.setIfInBounds j true):=ready_mono hr (fe hji);refine wpOp_mono (fun a' w' h3=>?_) h2;have rG:∀k ok,ops[k]? = some ok->k≠i->(l.setIfInBounds j true).getD k true=false->(∀e∈ok.after,Region.binds md e=true->e.on≠i)->oi.apart ops ok=true:=fun k ok hk hki xI hno=>by
    refine hfree k ok hk hki ?_ hno;by_cases hjk:j=k
    ·rw [<- hjk];exact rF
    ·rw [getD_set_ne true hjk] at xI;exact xI
   have hcm:(l.setIfInBounds i true).setIfInBounds j true=(l.setIfInBounds j true).setIfInBounds i true:=Array.setIfInBounds_comm _ _ (fe hji);obtain ⟨m,hml,hm⟩:=cR.1 hwt;have hml:=bX.1 hml;simp only [fN,Bool.not_eq_true'] at hm;obtain ⟨Bi,hm2⟩:=hm;obtain ⟨om,hmo⟩:∃om,ops[m]? = some om:=by
    cases h:ops[m]? with
    | none=>rw [h] at hm2;cases hm2
    | some o=>exact ⟨o,rfl⟩
   rw [hmo] at hm2;obtain ⟨x,hx,e,Mu⟩:=(by simpa using Array.any_eq_true.1 hm2:∃x,∃(hx:x<om.after.size),Region.binds md om.after[x]=true/\om.after[x].on=i);have hmj:m≠j:=fun e2=>by subst e2;rw [hmo] at k8;injection k8 with k8;refine hnot om.after[x] ?_ e Mu;rw [<- k8];exact Array.getElem_mem hx
   have hmi:m≠i:=fun e2=>by
    subst e2;obtain ⟨_,o3,oB,h4⟩:=mem_ready.1 hr;rw [hmo] at oB;injection oB with oB;have h5:=h4 om.after[x] (by rw [<- oB];exact Array.getElem_mem hx) e;rw [Mu] at h5;by_cases h':m<l.size
    ·simp [h'] at hun h5;rw [hun] at h5;cases h5
    ·simp [h'] at h5
   have Mv:S w':=h3.2.1 ⟨m,hml,by rw [getD_set_ne true (fe hmj),getD_set_ne true (fe hmi)];exact Bi⟩
   have PY:jx t md ops (l.setIfInBounds j true) i=true:=cR.2 ⟨m,bX.2 hml,by
    rw [getD_set_ne true (fe hmj),Bi,hmo];simpa using hm2⟩
   exact ⟨fun _=>Mv,ih _ a' w' rG hir PY h3.1 Mv (by rw [<- hcm];exact h3.2.2)⟩
theorem ah.K3 {i:Nat} {oi:Oper} {v:Value} (hti:t<=i) (hi:ops[i]? = some oi) (hsel:∀(j:Nat) (o:Oper) cs b,ops[j]? = some o->o.op≠.select cs b)
  (hQ:∀c a w,Q (.panic c) (a.put oi.dst v) w->Q (.panic c) a w):∀(n:Nat) (l:Array Bool) (a:Act) (w:World),
   (∀j oj,ops[j]? = some oj->j≠i->l.getD j true=false->(∀e∈oj.after,Region.binds md e=true->e.on≠i)->oi.apart ops oj=true) ->
   i∈Region.ready md ops l->YieldsIf P ops (fun _=>True) oi v a->(dU t (l.setIfInBounds i true)->S w)->ah P md ops Q S t n (l.setIfInBounds i true) (a.put oi.dst v) w->ah P md ops Q S t (n+1) l a w:=by
 intro n
 induction n with
 | zero =>
  intro l a w _ hr hy hS H;refine ⟨fun h=>absurd hr (by rw [h];simp),fun j hj=>?_⟩;by_cases hji:j=i
  ·subst hji;exact hy.wpOp hi trivial ⟨hS,H⟩
  ·exact absurd (ready_mono hj hji) (by rw [H.1];simp)
 | succ n ih =>
  intro l a w hfree hr hy hS H;refine ⟨fun h=>absurd hr (by rw [h];simp),fun j hj=>?_⟩;by_cases hji:j=i
  ·subst hji;exact hy.wpOp hi trivial ⟨hS,H⟩
  ·have hun:=(mem_ready.1 hr).1
   obtain ⟨rF,oj,k8,hall⟩:=mem_ready.1 hj;have hnot:∀e∈oj.after,Region.binds md e=true->e.on≠i:=fun e he hb heq=>by
    have h1:=hall e he hb;rw [heq] at h1;by_cases h':i<l.size
    ·simp [h'] at hun h1;rw [hun] at h1;cases h1
    ·simp [h'] at h1
   have h2:=wpOp_putIf k8 (hfree j oj k8 hji rF hnot) (fun cs b=>hsel i oi cs b hi) (fun cs b=>hsel j oj cs b k8) hQ hy (H.2 j (ready_mono hj hji));have hir:i∈Region.ready md ops (l.setIfInBounds j true):=ready_mono hr (fe hji);refine wpOp_mono (fun a' w' h3=>?_) h2;have rG:∀k ok,ops[k]? = some ok->k≠i->(l.setIfInBounds j true).getD k true=false->(∀e∈ok.after,Region.binds md e=true->e.on≠i)->oi.apart ops ok=true:=fun k ok hk hki xI hno=>by
    refine hfree k ok hk hki ?_ hno;by_cases hjk:j=k
    ·rw [<- hjk];exact rF
    ·rw [getD_set_ne true hjk] at xI;exact xI
   have hcm:(l.setIfInBounds i true).setIfInBounds j true=(l.setIfInBounds j true).setIfInBounds i true:=Array.setIfInBounds_comm _ _ (fe hji)
   have hmo:dU t (l.setIfInBounds j true)->S w':=fun ⟨m,hm,hml⟩=>h3.2.1 ⟨m,hm,by
    rw [hcm,getD_set_ne true (by omega)];exact hml⟩
   refine ⟨hmo,ih _ a' w' rG hir h3.1 (fun ⟨m,hm,hml⟩=>hmo ⟨m,hm,?_⟩) (by rw [<- hcm];exact h3.2.2)⟩;rw [getD_set_ne true (by omega)] at hml;exact hml
theorem ah.free {i:Nat} {oi:Oper} {v:Value} {n:Nat} {l:Array Bool} {a:Act} {w:World} (gT:ops.toList[i]? = some oi)
  (hc:(decide (t<=i)&&Region.noSelect ops&&Region.free md ops l i&&(Region.ready md ops l).contains i)=true)
  (hQ:∀c a w,Q (.panic c) (a.put oi.dst v) w->Q (.panic c) a w) (hg:Region.wanted oi (yielded ops a.tmps)=true) (hy:∀w,(execOp a.eval oi).run P w=.ok (.value v) w) (hS:dU t (l.setIfInBounds i true)->S w)
  (h:ah P md ops Q S t n (l.setIfInBounds i true) (a.put oi.dst v) w):ah P md ops Q S t (n+1) l a w:=by
 have hi:ops[i]? = some oi:=by rw [<- iZ];exact gT
 simp only [fN,decide_eq_true_eq] at hc;obtain ⟨⟨⟨h0,h1⟩,h2⟩,h3⟩:=hc;exact ah.K3 h0 hi (Region.noSelect_spec h1) hQ n l a w (Region.free_spec hi h2) (by simpa using h3) (.inl ⟨hg,fun w _=>hy w⟩) hS h
theorem ah.take {i:Nat} {oi:Oper} {v:Value} {n:Nat} {l:Array Bool} {a:Act} {w:World} (gT:ops.toList[i]? = some oi)
  (hc:(Region.noSelect ops&&Region.free md ops l i&&(Region.ready md ops l).contains i&&jx t md ops l i)=true)
  (hQ:∀c a w,Q (.panic c) (a.put oi.dst v) w->Q (.panic c) a w) (hg:Region.wanted oi (yielded ops a.tmps)=true) (hy:∀w,S w->(execOp a.eval oi).run P w=.ok (.value v) w) (hS:S w)
  (h:ah P md ops Q S t n (l.setIfInBounds i true) (a.put oi.dst v) w):ah P md ops Q S t (n+1) l a w:=by
 have hi:ops[i]? = some oi:=by rw [<- iZ];exact gT
 simp only [fN] at hc;obtain ⟨⟨⟨h1,h2⟩,h3⟩,h4⟩:=hc;exact ah.first hi (Region.noSelect_spec h1) hQ n l a w (Region.free_spec hi h2) (by simpa using h3) h4 (.inl ⟨hg,hy⟩) hS h
theorem ah.step {i:Nat} {oi:Oper} {n:Nat} {l:Array Bool} {a:Act} {w:World} (gT:ops.toList[i]? = some oi) (hr:Region.ready md ops l=[i])
  (h:∀K':Act->World->Prop,Shut (∀a w,(dU t (l.setIfInBounds i true)->S w)->((dU t (l.setIfInBounds i true)->S w)->ah P md ops Q S t n (l.setIfInBounds i true) a w)->K' a w)->if Region.wanted oi (yielded ops a.tmps)=true then Oper.wp P oi a w K' Q else K' (a.put oi.dst undef) w) :
  ah P md ops Q S t (n+1) l a w :=
 ⟨fun h0=>absurd (h0.symm.trans hr) (by simp),fun j hj=>by
  rw [hr] at hj
  obtain rfl:j=i:=by simpa using hj
  exact wpOp_step (by rw [<- iZ];exact gT) fun K' hK=>h K' fun a w hS hW=>hK a w ⟨hS,hW hS⟩⟩
theorem ah.step2 {i i2:Nat} {oi nj:Oper} {n:Nat} {l:Array Bool} {a:Act} {w:World} (gT:ops.toList[i]? = some oi) (Aj:ops.toList[i2]? = some nj) (hr:Region.ready md ops l=[i,i2])
  (h:∀K':Act->World->Prop,Shut (∀a w,(dU t (l.setIfInBounds i true)->S w)->((dU t (l.setIfInBounds i true)->S w)->ah P md ops Q S t n (l.setIfInBounds i true) a w)->K' a w)->if Region.wanted oi (yielded ops a.tmps)=true then Oper.wp P oi a w K' Q else K' (a.put oi.dst undef) w)
  (h2:∀K':Act->World->Prop,Shut (∀a w,(dU t (l.setIfInBounds i2 true)->S w)->((dU t (l.setIfInBounds i2 true)->S w)->ah P md ops Q S t n (l.setIfInBounds i2 true) a w)->K' a w)->if Region.wanted nj (yielded ops a.tmps)=true then Oper.wp P nj a w K' Q else K' (a.put nj.dst undef) w) :
  ah P md ops Q S t (n+1) l a w :=
 ⟨fun h0=>absurd (h0.symm.trans hr) (by simp),fun j hj=>by
  rw [hr] at hj
  rcases bQ.1 hj with rfl | hj
  ·exact wpOp_step (by rw [<- iZ];exact gT) fun K' hK=>h K' fun a w hS hW=>hK a w ⟨hS,hW hS⟩
  ·obtain rfl:j=i2:=by simpa using hj
   exact wpOp_step (by rw [<- iZ];exact Aj) fun K' hK=>h2 K' fun a w hS hW=>hK a w ⟨hS,hW hS⟩⟩
theorem ah.done {l:Array Bool} {a:Act} {w:World} {n:Nat} (hr:Region.ready md ops l=[]) (h:Q .normal a w):ah P md ops Q S t n l a w:=by
 cases n with
 | zero=>exact ⟨hr,h⟩
 | succ n=>exact ⟨fun _=>h,fun j hj=>(by rw [hr] at hj;cases hj)⟩
theorem PZ {t:Nat} {l:Array Bool} (h:((List.range t).all fun m=>l.getD m true)=true) {p:Prop}:dU t l->p:=fun ⟨m,hm,hl⟩=>by
 have:=sF.1 h m (bX.2 hm)
 rw [hl] at this;cases this
theorem jT {id:Nat} {a:Act} {w:World} (hm:P.follows .mixedOrders=true) (t:Nat) (S:World->Prop) (hS:S w.drew)
  (h:S w.drew->ah P .any ops Q S t ops.size (Array.replicate ops.size false) a w.drew):(Code.region id ops true).wp P Q a w:=wp_region_any hm (ah.any _ _ _ _ (h hS))
end
section
variable {P:Program} {ops:Array Oper} {md:Region.Mode} {Q:Exit->Act->World->Prop} {S:World->Prop} {t:Nat}
theorem ah.tk (i:Nat) {oi:Oper} {v:Value} {n:Nat} {l:Array Bool} {a:Act} {w:World} (hS:S w)
  (h:ah P md ops Q S t n (l.setIfInBounds i true) (a.put oi.dst v) w) (gT:ops.toList[i]? = some oi:=by rfl)
  (hc:(Region.noSelect ops&&Region.free md ops l i&&(Region.ready md ops l).contains i&&jx t md ops l i)=true:=by kernel_rfl)
  (hQ:∀c a w,Q (.panic c) (a.put oi.dst v) w->Q (.panic c) a w:=by exact (fun _ _ _ h=>h)) (hg:Region.wanted oi (yielded ops a.tmps)=true:=by rfl)
  (hy:∀w,S w->(execOp a.eval oi).run P w=.ok (.value v) w:=by (intro w hSw;(try dsimp only at hSw);go_simp;(try with_reducible rfl))):ah P md ops Q S t (n+1) l a w :=
 ah.take gT hc hQ hg hy hS h
theorem ah.fr (i:Nat) {oi:Oper} {v:Value} {n:Nat} {l:Array Bool} {a:Act} {w:World} (hS:dU t (l.setIfInBounds i true)->S w)
  (h:ah P md ops Q S t n (l.setIfInBounds i true) (a.put oi.dst v) w) (gT:ops.toList[i]? = some oi:=by rfl)
  (hc:(decide (t<=i)&&Region.noSelect ops&&Region.free md ops l i&&(Region.ready md ops l).contains i)=true:=by kernel_rfl)
  (hQ:∀c a w,Q (.panic c) (a.put oi.dst v) w->Q (.panic c) a w:=by exact (fun _ _ _ h=>h)) (hg:Region.wanted oi (yielded ops a.tmps)=true:=by rfl)
  (hy:∀w,(execOp a.eval oi).run P w=.ok (.value v) w:=by (intro w;go_simp;(try with_reducible rfl))):ah P md ops Q S t (n+1) l a w :=
 ah.free gT hc hQ hg hy hS h
theorem ah.st (i:Nat) {oi:Oper} {n:Nat} {l:Array Bool} {a:Act} {w:World}
  (h:∀K':Act->World->Prop,Shut (∀a w,(dU t (l.setIfInBounds i true)->S w)->((dU t (l.setIfInBounds i true)->S w)->ah P md ops Q S t n (l.setIfInBounds i true) a w)->K' a w)->if Region.wanted oi (yielded ops a.tmps)=true then Oper.wp P oi a w K' Q else K' (a.put oi.dst undef) w)
  (gT:ops.toList[i]? = some oi:=by rfl) (hr:Region.ready md ops l=[i]:=by kernel_rfl):ah P md ops Q S t (n+1) l a w :=
 ah.step gT hr h
theorem aT {t:Nat} {l:Array Bool} {p:Prop} (m:dU t l) (h:((List.range t).all fun m=>l.getD m true)=true:=by kernel_rfl):p:=PZ h m
theorem ah.Dz (i j:Nat) {o0 o1:Oper} {v0 v1:Value} {n:Nat} {l:Array Bool} {a:Act} {w:World} (hS:S w)
  (h:ah P md ops Q S t n ((l.setIfInBounds i true).setIfInBounds j true) ((a.put o0.dst v0).put o1.dst v1) w) (g0:ops.toList[i]? = some o0:=by rfl)
  (c0:(Region.noSelect ops&&Region.free md ops l i&&(Region.ready md ops l).contains i&&jx t md ops l i)=true:=by kernel_rfl)
  (q0:∀c a w,Q (.panic c) (a.put o0.dst v0) w->Q (.panic c) a w:=by exact (fun _ _ _ h=>h)) (e0:Region.wanted o0 (yielded ops a.tmps)=true:=by rfl)
  (y0:∀w,S w->(execOp a.eval o0).run P w=.ok (.value v0) w:=by (intro w hSw;(try dsimp only at hSw);go_simp;(try with_reducible rfl))) (g1:ops.toList[j]? = some o1:=by rfl)
  (c1:(Region.noSelect ops&&Region.free md ops (l.setIfInBounds i true) j&&(Region.ready md ops (l.setIfInBounds i true)).contains j&&jx t md ops (l.setIfInBounds i true) j)=true:=by kernel_rfl)
  (q1:∀c a w,Q (.panic c) (a.put o1.dst v1) w->Q (.panic c) a w:=by exact (fun _ _ _ h=>h)) (e1:Region.wanted o1 (yielded ops (a.put o0.dst v0).tmps)=true:=by rfl)
  (y1:∀w,S w->(execOp (a.put o0.dst v0).eval o1).run P w=.ok (.value v1) w:=by (intro w hSw;(try dsimp only at hSw);(try simp only [Act.put,av,ax,ay]);go_simp;(try with_reducible rfl))):ah P md ops Q S t (n+2) l a w :=
 ah.take g0 c0 q0 e0 y0 hS (ah.take g1 c1 q1 e1 y1 hS h)
theorem ah.uv (i j p q:Nat) {o0 o1 o2 o3:Oper} {v0 v1 v2 v3:Value} {n:Nat} {l:Array Bool} {a:Act} {w:World} (hS:S w)
  (h:ah P md ops Q S t n ((((l.setIfInBounds i true).setIfInBounds j true).setIfInBounds p true).setIfInBounds q true) ((((a.put o0.dst v0).put o1.dst v1).put o2.dst v2).put o3.dst v3) w) (g0:ops.toList[i]? = some o0:=by rfl)
  (c0:(Region.noSelect ops&&Region.free md ops l i&&(Region.ready md ops l).contains i&&jx t md ops l i)=true:=by kernel_rfl)
  (q0:∀c a w,Q (.panic c) (a.put o0.dst v0) w->Q (.panic c) a w:=by exact (fun _ _ _ h=>h)) (e0:Region.wanted o0 (yielded ops a.tmps)=true:=by rfl)
  (y0:∀w,S w->(execOp a.eval o0).run P w=.ok (.value v0) w:=by (intro w hSw;(try dsimp only at hSw);go_simp;(try with_reducible rfl))) (g1:ops.toList[j]? = some o1:=by rfl)
  (c1:(Region.noSelect ops&&Region.free md ops (l.setIfInBounds i true) j&&(Region.ready md ops (l.setIfInBounds i true)).contains j&&jx t md ops (l.setIfInBounds i true) j)=true:=by kernel_rfl)
  (q1:∀c a w,Q (.panic c) (a.put o1.dst v1) w->Q (.panic c) a w:=by exact (fun _ _ _ h=>h)) (e1:Region.wanted o1 (yielded ops (a.put o0.dst v0).tmps)=true:=by rfl)
  (y1:∀w,S w->(execOp (a.put o0.dst v0).eval o1).run P w=.ok (.value v1) w:=by (intro w hSw;(try dsimp only at hSw);(try simp only [Act.put,av,ax,ay]);go_simp;(try with_reducible rfl))) (g2:ops.toList[p]? = some o2:=by rfl)
  (c2:(Region.noSelect ops&&Region.free md ops ((l.setIfInBounds i true).setIfInBounds j true) p&&(Region.ready md ops ((l.setIfInBounds i true).setIfInBounds j true)).contains p&&jx t md ops ((l.setIfInBounds i true).setIfInBounds j true) p)=true:=by kernel_rfl)
  (q2:∀c a w,Q (.panic c) (a.put o2.dst v2) w->Q (.panic c) a w:=by exact (fun _ _ _ h=>h)) (e2:Region.wanted o2 (yielded ops ((a.put o0.dst v0).put o1.dst v1).tmps)=true:=by rfl)
  (y2:∀w,S w->(execOp ((a.put o0.dst v0).put o1.dst v1).eval o2).run P w=.ok (.value v2) w:=by (intro w hSw;(try dsimp only at hSw);(try simp only [Act.put,av,ax,ay]);go_simp;(try with_reducible rfl))) (g3:ops.toList[q]? = some o3:=by rfl)
  (c3:(Region.noSelect ops&&Region.free md ops (((l.setIfInBounds i true).setIfInBounds j true).setIfInBounds p true) q&&(Region.ready md ops (((l.setIfInBounds i true).setIfInBounds j true).setIfInBounds p true)).contains q&&jx t md ops (((l.setIfInBounds i true).setIfInBounds j true).setIfInBounds p true) q)=true:=by kernel_rfl)
  (q3:∀c a w,Q (.panic c) (a.put o3.dst v3) w->Q (.panic c) a w:=by exact (fun _ _ _ h=>h)) (e3:Region.wanted o3 (yielded ops (((a.put o0.dst v0).put o1.dst v1).put o2.dst v2).tmps)=true:=by rfl)
  (y3:∀w,S w->(execOp (((a.put o0.dst v0).put o1.dst v1).put o2.dst v2).eval o3).run P w=.ok (.value v3) w:=by (intro w hSw;(try dsimp only at hSw);(try simp only [Act.put,av,ax,ay]);go_simp;(try with_reducible rfl))):ah P md ops Q S t (n+4) l a w :=
 ah.take g0 c0 q0 e0 y0 hS (ah.take g1 c1 q1 e1 y1 hS (ah.take g2 c2 q2 e2 y2 hS (ah.take g3 c3 q3 e3 y3 hS h)))
end
end Go.Proofs.YtfomhlbhcifgbaaGreatDoor
