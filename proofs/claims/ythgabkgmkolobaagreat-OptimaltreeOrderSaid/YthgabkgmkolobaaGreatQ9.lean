/- A region that draws its order: S is to hold behind an operation only where another one is .. -/
import Derived.OrdersHeld
import Derived.Deep.RegionHeld
import Derived.StillTailTactics
import Derived.Test.YthgabkgmkolobaaGreatQ6
set_option maxRecDepth 100000
namespace Go.Proofs.YthgabkgmkolobaaGreat
section
open Go.RowKit Go.Deep
section
variable {P:Program} {ops:Array Oper} {Q:Exit->Act->World->Prop} {md:Region.Mode} {S:World->Prop} {t:Nat}
def jk (t:Nat) (l:Array Bool):Prop:=∃m,m<t/\l.getD m true=false
def sN (t:Nat) (md:Region.Mode) (ops:Array Oper) (l:Array Bool) (i:Nat):Bool:=(List.range t).any fun m=>!l.getD m true&&(match ops[m]? with | some o=>o.after.any fun e=>Region.binds md e&&e.on==i | none=>false)
def af (P:Program) (md:Region.Mode) (ops:Array Oper) (Q:Exit->Act->World->Prop) (S:World->Prop) (t:Nat):Nat->Array Bool->Act->World->Prop
 | 0,l,a,w=>Region.ready md ops l=[]/\Q .normal a w
 | n+1,l,a,w=>(Region.ready md ops l=[]->Q .normal a w) /\
  ∀i∈Region.ready md ops l,wpOp P ops Q i (fun a' w'=>(jk t (l.setIfInBounds i true)->S w')/\af P md ops Q S t n (l.setIfInBounds i true) a' w') a w
theorem af.any:∀(n:Nat) (l:Array Bool) (a:Act) (w:World),af P md ops Q S t n l a w->wpAny P md ops Q n l a w
 | 0,_,_,_,h=>h
 | n+1,_,_,_,h=>⟨h.1,fun i hi=>wpOp_mono (fun a' w' h'=>af.any n _ a' w' h'.2) (h.2 i hi)⟩
theorem af.first {i:Nat} {oi:Oper} {v:Value} (hi:ops[i]? = some oi) (hsel:∀(j:Nat) (o:Oper) cs b,ops[j]? = some o->o.op≠.select cs b)
  (hQ:∀c a w,Q (.panic c) (a.put oi.dst v) w->Q (.panic c) a w):∀(n:Nat) (l:Array Bool) (a:Act) (w:World),
   (∀j oj,ops[j]? = some oj->j≠i->l.getD j true=false->(∀e∈oj.after,Region.binds md e=true->e.on≠i)->oi.apart ops oj=true) ->
   i∈Region.ready md ops l->sN t md ops l i=true->YieldsIf P ops S oi v a->S w->af P md ops Q S t n (l.setIfInBounds i true) (a.put oi.dst v) w->af P md ops Q S t (n+1) l a w:=by
 intro n
 induction n with
 | zero =>
  intro l a w _ hr _ hy hS H;refine ⟨fun h=>absurd hr (by rw [h];simp),fun j hj=>?_⟩;by_cases hji:j=i
  ·subst hji;exact hy.wpOp hi hS ⟨fun _=>hS,H⟩
  ·exact absurd (ready_mono hj hji) (by rw [H.1];simp)
 | succ n ih =>
  intro l a w hfree hr hwt hy hS H;refine ⟨fun h=>absurd hr (by rw [h];simp),fun j hj=>?_⟩;by_cases hji:j=i
  ·subst hji;exact hy.wpOp hi hS ⟨fun _=>hS,H⟩
  ·have hun:=(mem_ready.1 hr).1
   obtain ⟨sO,oj,lW,hall⟩:=mem_ready.1 hj;have hnot:∀e∈oj.after,Region.binds md e=true->e.on≠i:=fun e he hb heq=>by
    have h1:=hall e he hb;rw [heq] at h1;by_cases h':i<l.size
    ·simp [h'] at hun h1;rw [hun] at h1;cases h1
    ·simp [h'] at h1
   have h2:=wpOp_putIf lW (hfree j oj lW hji sO hnot) (fun cs b=>hsel i oi cs b hi) (fun cs b=>hsel j oj cs b lW) hQ hy (H.2 j (ready_mono hj hji));have hir:i∈Region.ready md ops (l.setIfInBounds j true):=ready_mono hr (dM hji);refine wpOp_mono (fun a' w' h3=>?_) h2;have sP:∀k ok,ops[k]? = some ok->k≠i->(l.setIfInBounds j true).getD k true=false->(∀e∈ok.after,Region.binds md e=true->e.on≠i)->oi.apart ops ok=true:=fun k ok hk hki yz hno=>by
    refine hfree k ok hk hki ?_ hno;by_cases hjk:j=k
    ·rw [<- hjk];exact sO
    ·rw [getD_set_ne true hjk] at yz;exact yz
   have hcm:(l.setIfInBounds i true).setIfInBounds j true=(l.setIfInBounds j true).setIfInBounds i true:=Array.setIfInBounds_comm _ _ (dM hji);obtain ⟨m,hml,hm⟩:=eF.1 hwt;have hml:=cU.1 hml;simp only [fe,Bool.not_eq_true'] at hm;obtain ⟨Nh,hm2⟩:=hm;obtain ⟨om,hmo⟩:∃om,ops[m]? = some om:=by
    cases h:ops[m]? with
    | none=>rw [h] at hm2;cases hm2
    | some o=>exact ⟨o,rfl⟩
   rw [hmo] at hm2;obtain ⟨x,hx,e,Ni⟩:=(by simpa using Array.any_eq_true.1 hm2:∃x,∃(hx:x<om.after.size),Region.binds md om.after[x]=true/\om.after[x].on=i);have Z3:m≠j:=fun e2=>by subst e2;rw [hmo] at lW;injection lW with lW;refine hnot om.after[x] ?_ e Ni;rw [<- lW];exact Array.getElem_mem hx
   have hmi:m≠i:=fun e2=>by
    subst e2;obtain ⟨_,o3,yA,h4⟩:=mem_ready.1 hr;rw [hmo] at yA;injection yA with yA;have h5:=h4 om.after[x] (by rw [<- yA];exact Array.getElem_mem hx) e;rw [Ni] at h5;by_cases h':m<l.size
    ·simp [h'] at hun h5;rw [hun] at h5;cases h5
    ·simp [h'] at h5
   have Nj:S w':=h3.2.1 ⟨m,hml,by rw [getD_set_ne true (dM Z3),getD_set_ne true (dM hmi)];exact Nh⟩
   have Qp:sN t md ops (l.setIfInBounds j true) i=true:=eF.2 ⟨m,cU.2 hml,by
    rw [getD_set_ne true (dM Z3),Nh,hmo];simpa using hm2⟩
   exact ⟨fun _=>Nj,ih _ a' w' sP hir Qp h3.1 Nj (by rw [<- hcm];exact h3.2.2)⟩
theorem af.LG {i:Nat} {oi:Oper} {v:Value} (hti:t<=i) (hi:ops[i]? = some oi) (hsel:∀(j:Nat) (o:Oper) cs b,ops[j]? = some o->o.op≠.select cs b)
  (hQ:∀c a w,Q (.panic c) (a.put oi.dst v) w->Q (.panic c) a w):∀(n:Nat) (l:Array Bool) (a:Act) (w:World),
   (∀j oj,ops[j]? = some oj->j≠i->l.getD j true=false->(∀e∈oj.after,Region.binds md e=true->e.on≠i)->oi.apart ops oj=true) ->
   i∈Region.ready md ops l->YieldsIf P ops (fun _=>True) oi v a->(jk t (l.setIfInBounds i true)->S w)->af P md ops Q S t n (l.setIfInBounds i true) (a.put oi.dst v) w->af P md ops Q S t (n+1) l a w:=by
 intro n
 induction n with
 | zero =>
  intro l a w _ hr hy hS H;refine ⟨fun h=>absurd hr (by rw [h];simp),fun j hj=>?_⟩;by_cases hji:j=i
  ·subst hji;exact hy.wpOp hi trivial ⟨hS,H⟩
  ·exact absurd (ready_mono hj hji) (by rw [H.1];simp)
 | succ n ih =>
  intro l a w hfree hr hy hS H;refine ⟨fun h=>absurd hr (by rw [h];simp),fun j hj=>?_⟩;by_cases hji:j=i
  ·subst hji;exact hy.wpOp hi trivial ⟨hS,H⟩
  ·have hun:=(mem_ready.1 hr).1
   obtain ⟨sO,oj,lW,hall⟩:=mem_ready.1 hj;have hnot:∀e∈oj.after,Region.binds md e=true->e.on≠i:=fun e he hb heq=>by
    have h1:=hall e he hb;rw [heq] at h1;by_cases h':i<l.size
    ·simp [h'] at hun h1;rw [hun] at h1;cases h1
    ·simp [h'] at h1
   have h2:=wpOp_putIf lW (hfree j oj lW hji sO hnot) (fun cs b=>hsel i oi cs b hi) (fun cs b=>hsel j oj cs b lW) hQ hy (H.2 j (ready_mono hj hji));have hir:i∈Region.ready md ops (l.setIfInBounds j true):=ready_mono hr (dM hji);refine wpOp_mono (fun a' w' h3=>?_) h2;have sP:∀k ok,ops[k]? = some ok->k≠i->(l.setIfInBounds j true).getD k true=false->(∀e∈ok.after,Region.binds md e=true->e.on≠i)->oi.apart ops ok=true:=fun k ok hk hki yz hno=>by
    refine hfree k ok hk hki ?_ hno;by_cases hjk:j=k
    ·rw [<- hjk];exact sO
    ·rw [getD_set_ne true hjk] at yz;exact yz
   have hcm:(l.setIfInBounds i true).setIfInBounds j true=(l.setIfInBounds j true).setIfInBounds i true:=Array.setIfInBounds_comm _ _ (dM hji)
   have hmo:jk t (l.setIfInBounds j true)->S w':=fun ⟨m,hm,hml⟩=>h3.2.1 ⟨m,hm,by
    rw [hcm,getD_set_ne true (by omega)];exact hml⟩
   refine ⟨hmo,ih _ a' w' sP hir h3.1 (fun ⟨m,hm,hml⟩=>hmo ⟨m,hm,?_⟩) (by rw [<- hcm];exact h3.2.2)⟩;rw [getD_set_ne true (by omega)] at hml;exact hml
theorem af.free {i:Nat} {oi:Oper} {v:Value} {n:Nat} {l:Array Bool} {a:Act} {w:World} (jL:ops.toList[i]? = some oi)
  (hc:(decide (t<=i)&&Region.noSelect ops&&Region.free md ops l i&&(Region.ready md ops l).contains i)=true)
  (hQ:∀c a w,Q (.panic c) (a.put oi.dst v) w->Q (.panic c) a w) (hg:Region.wanted oi (yielded ops a.tmps)=true) (hy:∀w,(execOp a.eval oi).run P w=.ok (.value v) w) (hS:jk t (l.setIfInBounds i true)->S w)
  (h:af P md ops Q S t n (l.setIfInBounds i true) (a.put oi.dst v) w):af P md ops Q S t (n+1) l a w:=by
 have hi:ops[i]? = some oi:=by rw [<- kH];exact jL
 simp only [fe,decide_eq_true_eq] at hc;obtain ⟨⟨⟨h0,h1⟩,h2⟩,h3⟩:=hc;exact af.LG h0 hi (Region.noSelect_spec h1) hQ n l a w (Region.free_spec hi h2) (by simpa using h3) (.inl ⟨hg,fun w _=>hy w⟩) hS h
theorem af.take {i:Nat} {oi:Oper} {v:Value} {n:Nat} {l:Array Bool} {a:Act} {w:World} (jL:ops.toList[i]? = some oi)
  (hc:(Region.noSelect ops&&Region.free md ops l i&&(Region.ready md ops l).contains i&&sN t md ops l i)=true)
  (hQ:∀c a w,Q (.panic c) (a.put oi.dst v) w->Q (.panic c) a w) (hg:Region.wanted oi (yielded ops a.tmps)=true) (hy:∀w,S w->(execOp a.eval oi).run P w=.ok (.value v) w) (hS:S w)
  (h:af P md ops Q S t n (l.setIfInBounds i true) (a.put oi.dst v) w):af P md ops Q S t (n+1) l a w:=by
 have hi:ops[i]? = some oi:=by rw [<- kH];exact jL
 simp only [fe] at hc;obtain ⟨⟨⟨h1,h2⟩,h3⟩,h4⟩:=hc;exact af.first hi (Region.noSelect_spec h1) hQ n l a w (Region.free_spec hi h2) (by simpa using h3) h4 (.inl ⟨hg,hy⟩) hS h
theorem af.step {i:Nat} {oi:Oper} {n:Nat} {l:Array Bool} {a:Act} {w:World} (jL:ops.toList[i]? = some oi) (hr:Region.ready md ops l=[i])
  (h:∀K':Act->World->Prop,Shut (∀a w,(jk t (l.setIfInBounds i true)->S w)->((jk t (l.setIfInBounds i true)->S w)->af P md ops Q S t n (l.setIfInBounds i true) a w)->K' a w)->if Region.wanted oi (yielded ops a.tmps)=true then Oper.wp P oi a w K' Q else K' (a.put oi.dst undef) w) :
  af P md ops Q S t (n+1) l a w :=
 ⟨fun h0=>absurd (h0.symm.trans hr) (by simp),fun j hj=>by
  rw [hr] at hj
  obtain rfl:j=i:=by simpa using hj
  exact wpOp_step (by rw [<- kH];exact jL) fun K' hK=>h K' fun a w hS hW=>hK a w ⟨hS,hW hS⟩⟩
theorem af.ug {i i2:Nat} {oi Ag:Oper} {n:Nat} {l:Array Bool} {a:Act} {w:World} (jL:ops.toList[i]? = some oi) (Qq:ops.toList[i2]? = some Ag) (hr:Region.ready md ops l=[i,i2])
  (h:∀K':Act->World->Prop,Shut (∀a w,(jk t (l.setIfInBounds i true)->S w)->((jk t (l.setIfInBounds i true)->S w)->af P md ops Q S t n (l.setIfInBounds i true) a w)->K' a w)->if Region.wanted oi (yielded ops a.tmps)=true then Oper.wp P oi a w K' Q else K' (a.put oi.dst undef) w)
  (h2:∀K':Act->World->Prop,Shut (∀a w,(jk t (l.setIfInBounds i2 true)->S w)->((jk t (l.setIfInBounds i2 true)->S w)->af P md ops Q S t n (l.setIfInBounds i2 true) a w)->K' a w)->if Region.wanted Ag (yielded ops a.tmps)=true then Oper.wp P Ag a w K' Q else K' (a.put Ag.dst undef) w) :
  af P md ops Q S t (n+1) l a w :=
 ⟨fun h0=>absurd (h0.symm.trans hr) (by simp),fun j hj=>by
  rw [hr] at hj
  rcases bX.1 hj with rfl | hj
  ·exact wpOp_step (by rw [<- kH];exact jL) fun K' hK=>h K' fun a w hS hW=>hK a w ⟨hS,hW hS⟩
  ·obtain rfl:j=i2:=by simpa using hj
   exact wpOp_step (by rw [<- kH];exact Qq) fun K' hK=>h2 K' fun a w hS hW=>hK a w ⟨hS,hW hS⟩⟩
theorem af.done {l:Array Bool} {a:Act} {w:World} {n:Nat} (hr:Region.ready md ops l=[]) (h:Q .normal a w):af P md ops Q S t n l a w:=by
 cases n with
 | zero=>exact ⟨hr,h⟩
 | succ n=>exact ⟨fun _=>h,fun j hj=>(by rw [hr] at hj;cases hj)⟩
theorem aS {t:Nat} {l:Array Bool} (h:((List.range t).all fun m=>l.getD m true)=true) {p:Prop}:jk t l->p:=fun ⟨m,hm,hl⟩=>by
 have:=tT.1 h m (cU.2 hm)
 rw [hl] at this;cases this
theorem eC {id:Nat} {a:Act} {w:World} (hm:P.follows .mixedOrders=true) (t:Nat) (S:World->Prop) (hS:S w.drew)
  (h:S w.drew->af P .any ops Q S t ops.size (Array.replicate ops.size false) a w.drew):(Code.region id ops true).wp P Q a w:=wp_region_any hm (af.any _ _ _ _ (h hS))
end
section
variable {P:Program} {ops:Array Oper} {md:Region.Mode} {Q:Exit->Act->World->Prop} {S:World->Prop} {t:Nat}
theorem af.tk (i:Nat) {oi:Oper} {v:Value} {n:Nat} {l:Array Bool} {a:Act} {w:World} (hS:S w)
  (h:af P md ops Q S t n (l.setIfInBounds i true) (a.put oi.dst v) w) (jL:ops.toList[i]? = some oi:=by rfl)
  (hc:(Region.noSelect ops&&Region.free md ops l i&&(Region.ready md ops l).contains i&&sN t md ops l i)=true:=by kernel_rfl)
  (hQ:∀c a w,Q (.panic c) (a.put oi.dst v) w->Q (.panic c) a w:=by exact (fun _ _ _ h=>h)) (hg:Region.wanted oi (yielded ops a.tmps)=true:=by rfl)
  (hy:∀w,S w->(execOp a.eval oi).run P w=.ok (.value v) w:=by (intro w hSw;(try dsimp only at hSw);go_simp;(try with_reducible rfl))):af P md ops Q S t (n+1) l a w :=
 af.take jL hc hQ hg hy hS h
theorem af.fr (i:Nat) {oi:Oper} {v:Value} {n:Nat} {l:Array Bool} {a:Act} {w:World} (hS:jk t (l.setIfInBounds i true)->S w)
  (h:af P md ops Q S t n (l.setIfInBounds i true) (a.put oi.dst v) w) (jL:ops.toList[i]? = some oi:=by rfl)
  (hc:(decide (t<=i)&&Region.noSelect ops&&Region.free md ops l i&&(Region.ready md ops l).contains i)=true:=by kernel_rfl)
  (hQ:∀c a w,Q (.panic c) (a.put oi.dst v) w->Q (.panic c) a w:=by exact (fun _ _ _ h=>h)) (hg:Region.wanted oi (yielded ops a.tmps)=true:=by rfl)
  (hy:∀w,(execOp a.eval oi).run P w=.ok (.value v) w:=by (intro w;go_simp;(try with_reducible rfl))):af P md ops Q S t (n+1) l a w :=
 af.free jL hc hQ hg hy hS h
end
theorem Qr (S:Nat->Prop) (w:World):bh S w (.slice none 0 0) []:=⟨fun _=>undef,⟨none,0,rfl,ah _,.inl rfl⟩,fun _ hk=>absurd hk (bS _)⟩
end
end Go.Proofs.YthgabkgmkolobaaGreat
