/- A region that draws its order: S is to .. -/
import Derived.OrdersHeld
import Derived.Deep.RegionHeld
import Derived.Deep.RegionHeld3
import Derived.StillTailTactics
import Derived.Test.YthgabkgmkolobaaGreatQ6
set_option maxRecDepth 100000
set_option maxHeartbeats 2000000
namespace Go.Proofs.YthgabkgmkolobaaGreat
section
open Go.RowKit Go.Deep
section
variable {P:Program} {ops:Array Oper} {Q:Exit->Act->World->Prop} {md:Region.Mode} {S:World->Prop} {t:Nat}
def kV (t:Nat) (l:Array Bool):Prop:=∃m,m<t/\l.getD m true=false
def ox (t:Nat) (md:Region.Mode) (ops:Array Oper) (l:Array Bool) (i:Nat):Bool:=(List.range t).any fun m=>!l.getD m true&&(match ops[m]? with | some o=>o.after.any fun e=>Region.binds md e&&e.on==i | none=>false)
def az (P:Program) (md:Region.Mode) (ops:Array Oper) (Q:Exit->Act->World->Prop) (S:World->Prop) (t:Nat):Nat->Array Bool->Act->World->Prop
 | 0,l,a,w=>Region.ready md ops l=[]/\Q .normal a w
 | n+1,l,a,w=>(Region.ready md ops l=[]->Q .normal a w) /\
  ∀i∈Region.ready md ops l,wpOp P ops Q i (fun a' w'=>(kV t (l.setIfInBounds i true)->S w')/\az P md ops Q S t n (l.setIfInBounds i true) a' w') a w
theorem az.any:∀(n:Nat) (l:Array Bool) (a:Act) (w:World),az P md ops Q S t n l a w->wpAny P md ops Q n l a w
 | 0,_,_,_,h=>h
 | n+1,_,_,_,h=>⟨h.1,fun i hi=>wpOp_mono (fun a' w' h'=>az.any n _ a' w' h'.2) (h.2 i hi)⟩
theorem az.first {i:Nat} {oi:Oper} {v:Value} (hi:ops[i]? = some oi) (hsel:∀(j:Nat) (o:Oper) cs b,ops[j]? = some o->o.op≠.select cs b)
  (hQ:∀c a w,Q (.panic c) (a.put oi.dst v) w->Q (.panic c) a w):∀(n:Nat) (l:Array Bool) (a:Act) (w:World),
   (∀j oj,ops[j]? = some oj->j≠i->l.getD j true=false->(∀e∈oj.after,Region.binds md e=true->e.on≠i)->oi.apart ops oj=true) ->
   i∈Region.ready md ops l->ox t md ops l i=true->YieldsIf P ops S oi v a->S w->az P md ops Q S t n (l.setIfInBounds i true) (a.put oi.dst v) w->az P md ops Q S t (n+1) l a w:=by
 intro n
 induction n with
 | zero =>
  intro l a w _ hr _ hy hS H;refine ⟨fun h=>absurd hr (by rw [h];simp),fun j hj=>?_⟩;by_cases hji:j=i
  ·subst hji;exact hy.wpOp hi hS ⟨fun _=>hS,H⟩
  ·exact absurd (ready_mono hj hji) (by rw [H.1];simp)
 | succ n ih =>
  intro l a w hfree hr hwt hy hS H;refine ⟨fun h=>absurd hr (by rw [h];simp),fun j hj=>?_⟩;by_cases hji:j=i
  ·subst hji;exact hy.wpOp hi hS ⟨fun _=>hS,H⟩
  ·have hun:=(mem_ready.1 hr).1
   obtain ⟨yR,oj,qX,hall⟩:=mem_ready.1 hj;have hnot:∀e∈oj.after,Region.binds md e=true->e.on≠i:=fun e he hb heq=>by
    have h1:=hall e he hb;rw [heq] at h1;by_cases h':i<l.size
    ·simp [h'] at hun h1;rw [hun] at h1;cases h1
    ·simp [h'] at h1
   have h2:=wpOp_putIf qX (hfree j oj qX hji yR hnot) (fun cs b=>hsel i oi cs b hi) (fun cs b=>hsel j oj cs b qX) hQ hy (H.2 j (ready_mono hj hji));have hir:i∈Region.ready md ops (l.setIfInBounds j true):=ready_mono hr (iJ hji);refine wpOp_mono (fun a' w' h3=>?_) h2;have yS:∀k ok,ops[k]? = some ok->k≠i->(l.setIfInBounds j true).getD k true=false->(∀e∈ok.after,Region.binds md e=true->e.on≠i)->oi.apart ops ok=true:=fun k ok hk hki EL hno=>by
    refine hfree k ok hk hki ?_ hno;by_cases hjk:j=k
    ·rw [<- hjk];exact yR
    ·rw [getD_set_ne true hjk] at EL;exact EL
   have hcm:(l.setIfInBounds i true).setIfInBounds j true=(l.setIfInBounds j true).setIfInBounds i true:=Array.setIfInBounds_comm _ _ (iJ hji);obtain ⟨m,hml,hm⟩:=dx.1 hwt;have hml:=bu.1 hml;simp only [eF,zV] at hm;obtain ⟨XL,hm2⟩:=hm;obtain ⟨om,hmo⟩:∃om,ops[m]? = some om:=by
    cases h:ops[m]? with
    | none=>rw [h] at hm2;cases hm2
    | some o=>exact ⟨o,rfl⟩
   rw [hmo] at hm2;obtain ⟨x,hx,e,Ml⟩:=(by simpa using Array.any_eq_true.1 hm2:∃x,∃(hx:x<om.after.size),Region.binds md om.after[x]=true/\om.after[x].on=i);have hmj:m≠j:=fun e2=>by subst e2;rw [hmo] at qX;injection qX with qX;refine hnot om.after[x] ?_ e Ml;rw [<- qX];exact Array.getElem_mem hx
   have hmi:m≠i:=fun e2=>by
    subst e2;obtain ⟨_,o3,EM,h4⟩:=mem_ready.1 hr;rw [hmo] at EM;injection EM with EM;have h5:=h4 om.after[x] (by rw [<- EM];exact Array.getElem_mem hx) e;rw [Ml] at h5;by_cases h':m<l.size
    ·simp [h'] at hun h5;rw [hun] at h5;cases h5
    ·simp [h'] at h5
   have XM:S w':=h3.2.1 ⟨m,hml,by rw [getD_set_ne true (iJ hmj),getD_set_ne true (iJ hmi)];exact XL⟩
   have aaO:ox t md ops (l.setIfInBounds j true) i=true:=dx.2 ⟨m,bu.2 hml,by
    rw [getD_set_ne true (iJ hmj),XL,hmo];simpa using hm2⟩
   exact ⟨fun _=>XM,ih _ a' w' yS hir aaO h3.1 XM (by rw [<- hcm];exact h3.2.2)⟩
theorem az.VH {i:Nat} {oi:Oper} {v:Value} (hti:t<=i) (hi:ops[i]? = some oi) (hsel:∀(j:Nat) (o:Oper) cs b,ops[j]? = some o->o.op≠.select cs b)
  (hQ:∀c a w,Q (.panic c) (a.put oi.dst v) w->Q (.panic c) a w):∀(n:Nat) (l:Array Bool) (a:Act) (w:World),
   (∀j oj,ops[j]? = some oj->j≠i->l.getD j true=false->(∀e∈oj.after,Region.binds md e=true->e.on≠i)->oi.apart ops oj=true) ->
   i∈Region.ready md ops l->YieldsIf P ops (fun _=>True) oi v a->(kV t (l.setIfInBounds i true)->S w)->az P md ops Q S t n (l.setIfInBounds i true) (a.put oi.dst v) w->az P md ops Q S t (n+1) l a w:=by
 intro n
 induction n with
 | zero =>
  intro l a w _ hr hy hS H;refine ⟨fun h=>absurd hr (by rw [h];simp),fun j hj=>?_⟩;by_cases hji:j=i
  ·subst hji;exact hy.wpOp hi trivial ⟨hS,H⟩
  ·exact absurd (ready_mono hj hji) (by rw [H.1];simp)
 | succ n ih =>
  intro l a w hfree hr hy hS H;refine ⟨fun h=>absurd hr (by rw [h];simp),fun j hj=>?_⟩;by_cases hji:j=i
  ·subst hji;exact hy.wpOp hi trivial ⟨hS,H⟩
  ·have hun:=(mem_ready.1 hr).1
   obtain ⟨yR,oj,qX,hall⟩:=mem_ready.1 hj;have hnot:∀e∈oj.after,Region.binds md e=true->e.on≠i:=fun e he hb heq=>by
    have h1:=hall e he hb;rw [heq] at h1;by_cases h':i<l.size
    ·simp [h'] at hun h1;rw [hun] at h1;cases h1
    ·simp [h'] at h1
   have h2:=wpOp_putIf qX (hfree j oj qX hji yR hnot) (fun cs b=>hsel i oi cs b hi) (fun cs b=>hsel j oj cs b qX) hQ hy (H.2 j (ready_mono hj hji));have hir:i∈Region.ready md ops (l.setIfInBounds j true):=ready_mono hr (iJ hji);refine wpOp_mono (fun a' w' h3=>?_) h2;have yS:∀k ok,ops[k]? = some ok->k≠i->(l.setIfInBounds j true).getD k true=false->(∀e∈ok.after,Region.binds md e=true->e.on≠i)->oi.apart ops ok=true:=fun k ok hk hki EL hno=>by
    refine hfree k ok hk hki ?_ hno;by_cases hjk:j=k
    ·rw [<- hjk];exact yR
    ·rw [getD_set_ne true hjk] at EL;exact EL
   have hcm:(l.setIfInBounds i true).setIfInBounds j true=(l.setIfInBounds j true).setIfInBounds i true:=Array.setIfInBounds_comm _ _ (iJ hji)
   have hmo:kV t (l.setIfInBounds j true)->S w':=fun ⟨m,hm,hml⟩=>h3.2.1 ⟨m,hm,by
    rw [hcm,getD_set_ne true (by omega)];exact hml⟩
   refine ⟨hmo,ih _ a' w' yS hir h3.1 (fun ⟨m,hm,hml⟩=>hmo ⟨m,hm,?_⟩) (by rw [<- hcm];exact h3.2.2)⟩;rw [getD_set_ne true (by omega)] at hml;exact hml
theorem az.free {i:Nat} {oi:Oper} {v:Value} {n:Nat} {l:Array Bool} {a:Act} {w:World} (gO:ops.toList[i]? = some oi)
  (hc:(decide (t<=i)&&Region.noSelect ops&&Region.free md ops l i&&(Region.ready md ops l).contains i)=true)
  (hQ:∀c a w,Q (.panic c) (a.put oi.dst v) w->Q (.panic c) a w) (hg:Region.wanted oi (yielded ops a.tmps)=true) (hy:∀w,(execOp a.eval oi).run P w=.ok (.value v) w) (hS:kV t (l.setIfInBounds i true)->S w)
  (h:az P md ops Q S t n (l.setIfInBounds i true) (a.put oi.dst v) w):az P md ops Q S t (n+1) l a w:=by
 have hi:ops[i]? = some oi:=by rw [<- o7];exact gO
 simp only [eF,decide_eq_true_eq] at hc;obtain ⟨⟨⟨h0,h1⟩,h2⟩,h3⟩:=hc;exact az.VH h0 hi (Region.noSelect_spec h1) hQ n l a w (Region.free_spec hi h2) (by simpa using h3) (.inl ⟨hg,fun w _=>hy w⟩) hS h
theorem az.take {i:Nat} {oi:Oper} {v:Value} {n:Nat} {l:Array Bool} {a:Act} {w:World} (gO:ops.toList[i]? = some oi)
  (hc:(Region.noSelect ops&&Region.free md ops l i&&(Region.ready md ops l).contains i&&ox t md ops l i)=true)
  (hQ:∀c a w,Q (.panic c) (a.put oi.dst v) w->Q (.panic c) a w) (hg:Region.wanted oi (yielded ops a.tmps)=true) (hy:∀w,S w->(execOp a.eval oi).run P w=.ok (.value v) w) (hS:S w)
  (h:az P md ops Q S t n (l.setIfInBounds i true) (a.put oi.dst v) w):az P md ops Q S t (n+1) l a w:=by
 have hi:ops[i]? = some oi:=by rw [<- o7];exact gO
 simp only [eF] at hc;obtain ⟨⟨⟨h1,h2⟩,h3⟩,h4⟩:=hc;exact az.first hi (Region.noSelect_spec h1) hQ n l a w (Region.free_spec hi h2) (by simpa using h3) h4 (.inl ⟨hg,hy⟩) hS h
theorem az.step {i:Nat} {oi:Oper} {n:Nat} {l:Array Bool} {a:Act} {w:World} (gO:ops.toList[i]? = some oi) (hr:Region.ready md ops l=[i])
  (h:∀K':Act->World->Prop,Shut (∀a w,(kV t (l.setIfInBounds i true)->S w)->((kV t (l.setIfInBounds i true)->S w)->az P md ops Q S t n (l.setIfInBounds i true) a w)->K' a w)->if Region.wanted oi (yielded ops a.tmps)=true then Oper.wp P oi a w K' Q else K' (a.put oi.dst undef) w) :
  az P md ops Q S t (n+1) l a w :=
 ⟨fun h0=>absurd (h0.symm.trans hr) (by simp),fun j hj=>by
  rw [hr] at hj
  obtain rfl:j=i:=by simpa using hj
  exact wpOp_step (by rw [<- o7];exact gO) fun K' hK=>h K' fun a w hS hW=>hK a w ⟨hS,hW hS⟩⟩
theorem az.C8 {i i2:Nat} {oi Gz:Oper} {n:Nat} {l:Array Bool} {a:Act} {w:World} (gO:ops.toList[i]? = some oi) (aaP:ops.toList[i2]? = some Gz) (hr:Region.ready md ops l=[i,i2])
  (h:∀K':Act->World->Prop,Shut (∀a w,(kV t (l.setIfInBounds i true)->S w)->((kV t (l.setIfInBounds i true)->S w)->az P md ops Q S t n (l.setIfInBounds i true) a w)->K' a w)->if Region.wanted oi (yielded ops a.tmps)=true then Oper.wp P oi a w K' Q else K' (a.put oi.dst undef) w)
  (h2:∀K':Act->World->Prop,Shut (∀a w,(kV t (l.setIfInBounds i2 true)->S w)->((kV t (l.setIfInBounds i2 true)->S w)->az P md ops Q S t n (l.setIfInBounds i2 true) a w)->K' a w)->if Region.wanted Gz (yielded ops a.tmps)=true then Oper.wp P Gz a w K' Q else K' (a.put Gz.dst undef) w) :
  az P md ops Q S t (n+1) l a w :=
 ⟨fun h0=>absurd (h0.symm.trans hr) (by simp),fun j hj=>by
  rw [hr] at hj
  rcases bA.1 hj with rfl | hj
  ·exact wpOp_step (by rw [<- o7];exact gO) fun K' hK=>h K' fun a w hS hW=>hK a w ⟨hS,hW hS⟩
  ·obtain rfl:j=i2:=by simpa using hj
   exact wpOp_step (by rw [<- o7];exact aaP) fun K' hK=>h2 K' fun a w hS hW=>hK a w ⟨hS,hW hS⟩⟩
theorem az.done {l:Array Bool} {a:Act} {w:World} {n:Nat} (hr:Region.ready md ops l=[]) (h:Q .normal a w):az P md ops Q S t n l a w:=by
 cases n with
 | zero=>exact ⟨hr,h⟩
 | succ n=>exact ⟨fun _=>h,fun j hj=>(by rw [hr] at hj;cases hj)⟩
theorem aaQ {t:Nat} {l:Array Bool} (h:((List.range t).all fun m=>l.getD m true)=true) {p:Prop}:kV t l->p:=fun ⟨m,hm,hl⟩=>by
 have:=s8.1 h m (bu.2 hm)
 rw [hl] at this;cases this
theorem fR {id:Nat} {a:Act} {w:World} (hm:P.follows .mixedOrders=true) (t:Nat) (S:World->Prop) (hS:S w.drew)
  (h:S w.drew->az P .any ops Q S t ops.size (Array.replicate ops.size false) a w.drew):(Code.region id ops true).wp P Q a w:=wp_region_any hm (az.any _ _ _ _ (h hS))
end
section
variable {P:Program} {ops:Array Oper} {md:Region.Mode} {Q:Exit->Act->World->Prop} {S:World->Prop} {t:Nat}
theorem az.tk (i:Nat) {oi:Oper} {v:Value} {n:Nat} {l:Array Bool} {a:Act} {w:World} (hS:S w)
  (h:az P md ops Q S t n (l.setIfInBounds i true) (a.put oi.dst v) w) (gO:ops.toList[i]? = some oi:=by rfl)
  (hc:(Region.noSelect ops&&Region.free md ops l i&&(Region.ready md ops l).contains i&&ox t md ops l i)=true:=by kernel_rfl)
  (hQ:∀c a w,Q (.panic c) (a.put oi.dst v) w->Q (.panic c) a w:=by exact (fun _ _ _ h=>h)) (hg:Region.wanted oi (yielded ops a.tmps)=true:=by rfl)
  (hy:∀w,S w->(execOp a.eval oi).run P w=.ok (.value v) w:=by (intro w hSw;(try dsimp only at hSw);go_simp;(try with_reducible rfl))):az P md ops Q S t (n+1) l a w :=
 az.take gO hc hQ hg hy hS h
theorem az.fr (i:Nat) {oi:Oper} {v:Value} {n:Nat} {l:Array Bool} {a:Act} {w:World} (hS:kV t (l.setIfInBounds i true)->S w)
  (h:az P md ops Q S t n (l.setIfInBounds i true) (a.put oi.dst v) w) (gO:ops.toList[i]? = some oi:=by rfl)
  (hc:(decide (t<=i)&&Region.noSelect ops&&Region.free md ops l i&&(Region.ready md ops l).contains i)=true:=by kernel_rfl)
  (hQ:∀c a w,Q (.panic c) (a.put oi.dst v) w->Q (.panic c) a w:=by exact (fun _ _ _ h=>h)) (hg:Region.wanted oi (yielded ops a.tmps)=true:=by rfl)
  (hy:∀w,(execOp a.eval oi).run P w=.ok (.value v) w:=by (intro w;go_simp;(try with_reducible rfl))):az P md ops Q S t (n+1) l a w :=
 az.free gO hc hQ hg hy hS h
theorem az.st (i:Nat) {oi:Oper} {n:Nat} {l:Array Bool} {a:Act} {w:World}
  (h:∀K':Act->World->Prop,Shut (∀a w,(kV t (l.setIfInBounds i true)->S w)->((kV t (l.setIfInBounds i true)->S w)->az P md ops Q S t n (l.setIfInBounds i true) a w)->K' a w)->if Region.wanted oi (yielded ops a.tmps)=true then Oper.wp P oi a w K' Q else K' (a.put oi.dst undef) w)
  (gO:ops.toList[i]? = some oi:=by rfl) (hr:Region.ready md ops l=[i]:=by kernel_rfl):az P md ops Q S t (n+1) l a w :=
 az.step gO hr h
theorem bF {t:Nat} {l:Array Bool} {p:Prop} (m:kV t l) (h:((List.range t).all fun m=>l.getD m true)=true:=by kernel_rfl):p:=aaQ h m
theorem az.xk (i j:Nat) {o0 o1:Oper} {v0 v1:Value} {n:Nat} {l:Array Bool} {a:Act} {w:World} (hS:S w)
  (h:az P md ops Q S t n ((l.setIfInBounds i true).setIfInBounds j true) ((a.put o0.dst v0).put o1.dst v1) w) (g0:ops.toList[i]? = some o0:=by rfl)
  (c0:(Region.noSelect ops&&Region.free md ops l i&&(Region.ready md ops l).contains i&&ox t md ops l i)=true:=by kernel_rfl)
  (q0:∀c a w,Q (.panic c) (a.put o0.dst v0) w->Q (.panic c) a w:=by exact (fun _ _ _ h=>h)) (e0:Region.wanted o0 (yielded ops a.tmps)=true:=by rfl)
  (y0:∀w,S w->(execOp a.eval o0).run P w=.ok (.value v0) w:=by (intro w hSw;(try dsimp only at hSw);go_simp;(try with_reducible rfl))) (g1:ops.toList[j]? = some o1:=by rfl)
  (c1:(Region.noSelect ops&&Region.free md ops (l.setIfInBounds i true) j&&(Region.ready md ops (l.setIfInBounds i true)).contains j&&ox t md ops (l.setIfInBounds i true) j)=true:=by kernel_rfl)
  (q1:∀c a w,Q (.panic c) (a.put o1.dst v1) w->Q (.panic c) a w:=by exact (fun _ _ _ h=>h)) (e1:Region.wanted o1 (yielded ops (a.put o0.dst v0).tmps)=true:=by rfl)
  (y1:∀w,S w->(execOp (a.put o0.dst v0).eval o1).run P w=.ok (.value v1) w:=by (intro w hSw;(try dsimp only at hSw);(try simp only [Act.put,aL,aM,aN]);go_simp;(try with_reducible rfl))):az P md ops Q S t (n+2) l a w :=
 az.take g0 c0 q0 e0 y0 hS (az.take g1 c1 q1 e1 y1 hS h)
theorem az.kG (i j p q:Nat) {o0 o1 o2 o3:Oper} {v0 v1 v2 v3:Value} {n:Nat} {l:Array Bool} {a:Act} {w:World} (hS:S w)
  (h:az P md ops Q S t n ((((l.setIfInBounds i true).setIfInBounds j true).setIfInBounds p true).setIfInBounds q true) ((((a.put o0.dst v0).put o1.dst v1).put o2.dst v2).put o3.dst v3) w) (g0:ops.toList[i]? = some o0:=by rfl)
  (c0:(Region.noSelect ops&&Region.free md ops l i&&(Region.ready md ops l).contains i&&ox t md ops l i)=true:=by kernel_rfl)
  (q0:∀c a w,Q (.panic c) (a.put o0.dst v0) w->Q (.panic c) a w:=by exact (fun _ _ _ h=>h)) (e0:Region.wanted o0 (yielded ops a.tmps)=true:=by rfl)
  (y0:∀w,S w->(execOp a.eval o0).run P w=.ok (.value v0) w:=by (intro w hSw;(try dsimp only at hSw);go_simp;(try with_reducible rfl))) (g1:ops.toList[j]? = some o1:=by rfl)
  (c1:(Region.noSelect ops&&Region.free md ops (l.setIfInBounds i true) j&&(Region.ready md ops (l.setIfInBounds i true)).contains j&&ox t md ops (l.setIfInBounds i true) j)=true:=by kernel_rfl)
  (q1:∀c a w,Q (.panic c) (a.put o1.dst v1) w->Q (.panic c) a w:=by exact (fun _ _ _ h=>h)) (e1:Region.wanted o1 (yielded ops (a.put o0.dst v0).tmps)=true:=by rfl)
  (y1:∀w,S w->(execOp (a.put o0.dst v0).eval o1).run P w=.ok (.value v1) w:=by (intro w hSw;(try dsimp only at hSw);(try simp only [Act.put,aL,aM,aN]);go_simp;(try with_reducible rfl))) (g2:ops.toList[p]? = some o2:=by rfl)
  (c2:(Region.noSelect ops&&Region.free md ops ((l.setIfInBounds i true).setIfInBounds j true) p&&(Region.ready md ops ((l.setIfInBounds i true).setIfInBounds j true)).contains p&&ox t md ops ((l.setIfInBounds i true).setIfInBounds j true) p)=true:=by kernel_rfl)
  (q2:∀c a w,Q (.panic c) (a.put o2.dst v2) w->Q (.panic c) a w:=by exact (fun _ _ _ h=>h)) (e2:Region.wanted o2 (yielded ops ((a.put o0.dst v0).put o1.dst v1).tmps)=true:=by rfl)
  (y2:∀w,S w->(execOp ((a.put o0.dst v0).put o1.dst v1).eval o2).run P w=.ok (.value v2) w:=by (intro w hSw;(try dsimp only at hSw);(try simp only [Act.put,aL,aM,aN]);go_simp;(try with_reducible rfl))) (g3:ops.toList[q]? = some o3:=by rfl)
  (c3:(Region.noSelect ops&&Region.free md ops (((l.setIfInBounds i true).setIfInBounds j true).setIfInBounds p true) q&&(Region.ready md ops (((l.setIfInBounds i true).setIfInBounds j true).setIfInBounds p true)).contains q&&ox t md ops (((l.setIfInBounds i true).setIfInBounds j true).setIfInBounds p true) q)=true:=by kernel_rfl)
  (q3:∀c a w,Q (.panic c) (a.put o3.dst v3) w->Q (.panic c) a w:=by exact (fun _ _ _ h=>h)) (e3:Region.wanted o3 (yielded ops (((a.put o0.dst v0).put o1.dst v1).put o2.dst v2).tmps)=true:=by rfl)
  (y3:∀w,S w->(execOp (((a.put o0.dst v0).put o1.dst v1).put o2.dst v2).eval o3).run P w=.ok (.value v3) w:=by (intro w hSw;(try dsimp only at hSw);(try simp only [Act.put,aL,aM,aN]);go_simp;(try with_reducible rfl))):az P md ops Q S t (n+4) l a w :=
 az.take g0 c0 q0 e0 y0 hS (az.take g1 c1 q1 e1 y1 hS (az.take g2 c2 q2 e2 y2 hS (az.take g3 c3 q3 e3 y3 hS h)))
end
theorem Tryz.EN:(Tryz.prog.info? 119).map (fun i=>(i.zero,i.size,i.bytes))=some (some (.pointer none),1,8):=by kernel_rfl
theorem cE.congr {base n:Nat} {A:Nat->Nat} {kv:Nat->Value} {F F':bW} {w:World} (h:cE base n A kv F w) (e:∀i,i<n->F'.nm i=F.nm i/\F'.old i=F.old i/\F'.kids i=F.kids i):cE base n A kv F' w :=
 ⟨fun i hi=>by rw [(e i hi).1,(e i hi).2.1];exact h.node i hi,h.lo,h.inj,fun i hi=>by rw [(e i hi).2.2];exact h.own i hi,h.apart,h.alone,fun i hi=>by rw [(e i hi).2.2];exact h.kid i hi⟩
theorem Oi {w:World} {p:Addr} {v:Value} (h:∃u,w.cell? p=some u):(w.setCell p v).cell? p=some v:=by
 obtain ⟨u,h⟩:=h;exact World.cell?_setCell_same' _ _ _ (by rw [h];rfl)
theorem B9 {w:World} {p:Addr} {v:Value} {b o:Nat} (h:p.block≠b):(w.setCell p v).cell? ⟨b,o,none⟩=w.cell? ⟨b,o,none⟩ :=
 cU (a:=⟨b,o,none⟩) (blk_setCell_other _ _ _ _ (fun e=>h e.symm))
theorem yT {w w':World} {o:Obj} {row:Option Nat} (h:(w.alloc o).drew.grownBy w' row):w.grownBy w' row :=
 lM (o:=o) ⟨h.os,h.tape,h.output,h.size,h.block⟩
section
variable {P:Program} {ops:Array Oper} {o:Oper} {a:Act} {w:World} {K:Act->World->Prop} {Q:Exit->Act->World->Prop} {E:Prop}
theorem fL (hgd:o.guard=none) (s x:Operand) (t:TypeId) (ho:o.op=.call { callee:=.builtin .append,args:=#[s,x],argTypes:=#[t,t] })
  (base:Nat) (e:TypeId) (z:Value) (bytes:Nat) (ht:P.underlying t=some (.slice e)) (hinfo:(P.info? e).map (fun i=>(i.zero,i.size,i.bytes))=some (some z,1,bytes))
  (hz1:z.cells.size=1) (lN:bytes<=64) {v:Value} {vs:List Value} (hs:a.eval s=v) (hown:au base e w v vs) (u:Value) (B:Nat)
  (hx:a.eval x=.slice (some ⟨B,0,none⟩) 1 1) (hB:w.cell? ⟨B,0,none⟩=some u) (h1:u.oneCell'=true) (hn:vs.length<=1000000) (hbase:base<=w.heap.size)
  (h:∀g cap w',au base e w' (.slice (some ⟨g,0,none⟩) (vs.length+1) cap) (vs++[u])->w.grownBy w' v.ownBlock->(v.ownBlock=some g\/g=w.heap.size)->Below base w w'->K (a.put o.dst (.slice (some ⟨g,0,none⟩) (vs.length+1) cap)) w') :
  if Region.wanted o (yielded ops a.tmps)=true then Oper.wp P o a w K Q else E:=by
 obtain ⟨i,hi,hzz⟩:=jR.1 hinfo;simp only [kX] at hzz;obtain ⟨hz,hs1,hb⟩:=hzz;refine step_append_lies w hgd s x t ho base e i z 1 bytes ht hi hz hs1 hb hz1 (by omega) v vs.length vs hs hown ⟨B,0,none⟩ 1 1 [u] hx rfl ?_ (by simpa using h1) (by omega)
  (by unfold maxLen;omega) ?_ hbase _ rfl fun g cap w' h2 h3 h4 _=>h g cap w' ?_ h3 h4 (hown.fF h3 hbase)
 ·intro j u' hj
  cases j with
  | zero=>(simp at hj;subst hj;simpa [Addr.add] using hB)
  | succ j=>simp at hj
 ·have:(vs.length+1)*bytes<=(vs.length+1)*64:=qO _ lN
  omega
 ·unfold au;rw [bg];exact h2
end
def frK (t:ax) (k:Nat):bW:=⟨gs t.ns,fun i=>i,fun i=>cZ t.ps i k⟩
def fA (t:ax):bW:=frK t t.ps.length
def Pg (w wr:World) (g0 n k:Nat) (t:ax):Prop :=
 Below g0 w wr/\∃A kv,cE (g0+1) k A kv (frK t k) wr/\wr.rowIs g0 119 n (fun i=>if i<k then dh A i else .pointer none)
def XN (t:ax) (k:Nat):bW:=⟨gs t.ns,fun i=>i,upd (fun i=>cZ t.ps i k) k []⟩
structure XO (w wr:World) (g0 n k:Nat) (t:ax) (A:Nat->Nat) (kv:Nat->Value):Prop where
 up:Below g0 w wr
 fr:cE (g0+1) (k+1) A kv (XN t k) wr
 row:wr.rowIs g0 119 n (fun i=>if i<k+1 then dh A i else .pointer none)
theorem cE.far {g0 n:Nat} {A:Nat->Nat} {kv:Nat->Value} {F:bW} {w:World} (h:cE (g0+1) n A kv F w) {i:Nat} (hi:i<n):A i≠g0/\(kv i).ownBlock≠some g0 :=
 ⟨fun e=>by have:=h.lo i hi;omega,fun e=>by have:=(h.lF hi e).1;omega⟩
theorem Pg.new {w wo:World} {g0 n k:Nat} {t:ax} (h:Pg w wo g0 n k t) :
  ∃A kv,A k=wo.heap.size/\XO w ((wo.alloc (.cells #[.string (gs t.ns k),.slice none 0 0,.int .i64 k] 122)).setCell ⟨g0,k,none⟩ (.pointer (some ⟨wo.heap.size,0,none⟩))) g0 n k t A kv:=by
 obtain ⟨cQ,A,kv,hF,hrow⟩:=h;have hg0:=hrow.lt;have hF2:=hF.Hv (by omega) (gs t.ns k) k;refine ⟨upd A k wo.heap.size,upd kv k (.slice none 0 0),upd_same _ _ _,(cQ.alloc (by omega) _).setCell (p:=⟨g0,k,none⟩) (ah _) _,?_,?_⟩
 ·have TC:=hF2.congr (F':=XN t k) fun i hi=>by
   refine ⟨?_,?_,rfl⟩
   ·by_cases e:i=k
    ·subst e;exact (upd_same _ _ _).symm
    ·exact (upd_ne _ _ e).symm
   ·by_cases e:i=k
    ·subst e;exact (upd_same _ _ _).symm
    ·exact (upd_ne _ _ e).symm
  exact TC.same (fun i hi=>blk_setCell_other _ _ _ _ (TC.far hi).1) fun i b hi hb=>blk_setCell_other _ _ _ _ (fun e2=>(TC.far hi).2 (by rw [hb];exact congrArg some e2))
 ·refine ((hrow.alloc _).set k _).congr fun i hi=>?_
  by_cases e:i=k
  ·subst e;rw [if_pos rfl,if_pos (by omega)];unfold dh;rw [upd_same]
  ·rw [if_neg e]
   by_cases e2:i<k
   ·rw [if_pos e2,if_pos (by omega)];unfold dh;rw [upd_ne _ _ e]
   ·rw [if_neg e2,if_neg (by omega)]
theorem VI (ps:List Int) (k:Nat):cZ ps k k=[]:=by
 unfold cZ;refine List.filter_eq_nil_iff.2 fun i hi=>?_;have:=bu.1 hi;simp;omega
theorem yU (t:ax) (k i:Nat):(XN t k).kids i=cZ t.ps i k:=by
 show upd (fun i=>cZ t.ps i k) k [] i=_;by_cases e:i=k
 ·subst e;rw [upd_same,VI]
 ·rw [upd_ne _ _ e]
theorem XO.root {w wr:World} {g0 n k:Nat} {t:ax} {A:Nat->Nat} {kv:Nat->Value} (h:XO w wr g0 n k t A kv) (hp:gi t.ps k<0):Pg w wr g0 n (k+1) t:=by
 refine ⟨h.up,A,kv,h.fr.congr fun i hi=>⟨rfl,rfl,?_⟩,h.row⟩;rw [yU];show cZ t.ps i (k+1)=_;rw [lB,if_neg (by omega),eG]
theorem XO.push {w wr w':World} {g0 n k p:Nat} {t:ax} {A:Nat->Nat} {kv:Nat->Value} (h:XO w wr g0 n k t A kv) (hpk:p<k) (hp:gi t.ps k=p) {v:Value}
  (hv:au (g0+1) 119 w' v ((cZ t.ps p k).map (dh A)++[dh A k])) (hg:wr.grownBy w' (kv p).ownBlock) (hb:∀b,v.ownBlock=some b->(kv p).ownBlock=some b\/wr.heap.size<=b) :
  Pg w (w'.setCell ⟨A p,1,none⟩ v) g0 n (k+1) t:=by
 have hF:=h.fr.push (k:=p) (c:=k) (v:=v) (by omega) (by omega) (by rw [yU,cg];exact hv) hg hb;have hlo:=h.fr.lo p (by omega);have hrl:=h.row.lt;refine ⟨?_,A,upd kv p v,hF.congr fun i hi=>⟨rfl,rfl,?_⟩,?_⟩
 ·have h1:Below (g0+1) wr w':=(h.fr.own p (by omega)).fF hg (by omega)
  exact (iz h.up (h1.mono (by omega))).setCell (p:=⟨A p,1,none⟩) (by show g0<=A p;omega) _
 ·show cZ t.ps i (k+1)=upd (XN t k).kids p ((XN t k).kids p++[k]) i
  rw [lB,yU];by_cases e:i=p
  ·subst e;rw [upd_same,if_pos ⟨hpk,hp⟩]
  ·rw [upd_ne _ _ e,if_neg (by omega),eG,yU]
 ·have hne:g0≠A p:=fun e=>(h.fr.far (i:=p) (by omega)).1 e.symm
  refine (h.row.of_block ?_).setOther (a:=⟨A p,1,none⟩) hne v;exact hg.block g0 hrl (fun e=>(h.fr.far (i:=p) (by omega)).2 e.symm)
theorem cE.ael {base base' n:Nat} {A:Nat->Nat} {kv:Nat->Value} {F:bW} {w:World} (h:cE base n A kv F w) (hb:base'<=base):cE base' n A kv F w :=
 ⟨h.node,fun i hi=>aB hb (h.lo i hi),h.inj,fun i hi=>(h.own i hi).tK hb,h.apart,h.alone,h.kid⟩
def XP (w:World) (t:ax) (e:Ending) (w':World):Prop :=
 Up w w'/\∃g A kv,e=.returned (.slice (some ⟨g,0,none⟩) t.ps.length t.ps.length)/\cE w.heap.size t.ps.length A kv (fA t) w'/\w'.rowIs g 119 t.ps.length (dh A)
def VJ (w:World) (t:ax) (e:Ending) (w':World):Prop :=
 Up w w'/\∃g A kv,w.heap.size<=g/\e=.returned (.slice (some ⟨g,0,none⟩) t.ps.length t.ps.length)/\cE (g+1) t.ps.length A kv (fA t) w'/\w'.rowIs g 119 t.ps.length (dh A)
theorem Ph (S:Nat->Prop) (w:World) (v:Value) (t:ax) (hT:aG S w v t) (hp:t.ps.length<=1000) (hn:t.ns.length=t.ps.length) (hok:jB t.ps=true) (hz:∀k,(gs t.ns k).size<=70000) :
  Calls Tryz.prog 93 #[v] w (VJ w t):=by
 obtain ⟨P,N,rfl,hP,hN⟩:=hT;obtain ⟨pP,yV,rfl,ak2,_⟩:=aq.open hP;have hP:af S w (.slice pP t.ps.length yV) t.ps:=hP;obtain ⟨pN,yX,rfl,ak3,_⟩:=aq.open hN;have hN:aj S w (.slice pN t.ns.length yX) t.ns:=hN;have hmk:=fun W=>run_make_row' (P:=Tryz.prog) 120 119 (.pointer none) 8 Tryz.underlying120 Tryz.EN rfl .i64 .i64 t.ps.length (by omega) (by omega) W;have hu:=Up.alloc w (.cells #[.slice pP t.ps.length yV,.slice pN t.ns.length yX] 39);have hb0:=iq w (.slice pP t.ps.length yV) (.slice pN t.ns.length yX) 39;have hb1:=jg w (.slice pP t.ps.length yV) (.slice pN t.ns.length yX) 39;have aI:=Up.alloc (w.alloc (.cells #[.slice pP t.ps.length yV,.slice pN t.ns.length yX] 39)) (.cells (madeCells #[.pointer none] t.ps.length) 119);have HW:Hid (Pg ((w.alloc (.cells #[.slice pP t.ps.length yV,.slice pN t.ns.length yX] 39)).alloc (.cells (madeCells #[.pointer none] t.ps.length) 119)) ((w.alloc (.cells #[.slice pP t.ps.length yV,.slice pN t.ns.length yX] 39)).alloc (.cells (madeCells #[.pointer none] t.ps.length) 119)) (w.heap.size+1) t.ps.length 0 t):=by refine ⟨cM _ _,fun _=>0,fun _=>.slice none 0 0,cE.empty _ _ _ _ _,?_⟩;have h:=World.rowIs_made (w.alloc (.cells #[.slice pP t.ps.length yV,.slice pN t.ns.length yX] 39)) (.pointer none) t.ps.length 119;simp only [aQ] at h;exact h
 have kZ:=aa (hu.trans aI);have hsz:w.heap.size+1+1=((w.alloc (.cells #[.slice pP t.ps.length yV,.slice pN t.ns.length yX] 39)).alloc (.cells (madeCells #[.pointer none] t.ps.length) 119)).heap.size:=by simp
 have dM:=aa hsz;have mz:=aa (aI.cell hb0);have mO:=aa (aI.cell hb1);have HP:=aa hP;have HN:=aa hN;have Aj:=aa hz;have pW:=aa hok;have kH:=aa hn;have hnl:(t.ps.length:Int)<=(t.ns.length:Int):=by omega
 clear hsz hu hb0 hb1 aI hP hN hz hok hn;go_in;go_wp2_with fail;generalize (w.alloc (.cells #[.slice pP t.ps.length yV,.slice pN t.ns.length yX] 39)).alloc (.cells (madeCells #[.pointer none] t.ps.length) 119)=w1 at *
 go_loopw [13] (fun i wr=>∃k:Nat,k<=t.ps.length/\i=.int .i64 k/\Hid (Pg w1 wr (w.heap.size+1) t.ps.length k t)) (fun i _=>t.ps.length - (intOf i).toNat)
 case atStart=>exact ⟨0,aF _,rfl,HW⟩
 case round =>
  obtain ⟨k,hk,rfl,hO⟩:=hrel;obtain ⟨wo,rfl⟩:=eM wr;by_cases hlt:k<t.ps.length
  ·obtain ⟨cQ,A,kv,hF,hrow⟩:=hO.out
   (have hc0:wo.cell? ⟨w.heap.size,0,none⟩=some (.slice pP t.ps.length yV):=by rw [cQ.cell (p:=⟨w.heap.size,0,none⟩) (wu _)];exact mz.out);(have hc1:wo.cell? ⟨w.heap.size,1,none⟩=some (.slice pN t.ns.length yX):=by rw [cQ.cell (p:=⟨w.heap.size,1,none⟩) (wu _)];exact mO.out);have hUp:Up w wo:=iz kZ.out (cQ.mono (oh _));obtain ⟨bP,oP,rfl,sP⟩:=bU (af.keep HP.out (hUp.kept S)) hlt;obtain ⟨bN,oN,rfl,uh⟩:=cH (aj.keep HN.out (hUp.kept S)) (k:=k) (by rw [kH.out];exact hlt);have HX:=aa hO.out.new;(have hco:(wo.alloc (.cells #[.string (gs t.ns k),.slice none 0 0,.int .i64 k] 122)).cell? ⟨w.heap.size+1,k,none⟩=some (.pointer none):=by have h:=(hrow.alloc (.cells #[.string (gs t.ns k),.slice none 0 0,.int .i64 k] 122)).cell hlt;rw [h,if_neg (Nat.lt_irrefl k)]);have hfo:(wo.alloc (.cells #[.string (gs t.ns k),.slice none 0 0,.int .i64 k] 122)).frozen? ⟨w.heap.size+1,k,none⟩=false:=(hrow.alloc _).frozen k;clear hF hrow cQ hUp hO;have h0:gi t.ps k<k/\(0<k->0<=gi t.ps k)/\(k=0->gi t.ps k = -1):=OM pW.out hlt;by_cases xg:0<=gi t.ps k
   ·obtain ⟨p,hpp⟩:=oa xg
    (have hpk:p<k:=by omega);rw [hpp] at sP;(have d1:decide ((0:Int)<=(p:Int))=true:=by simp);have Me:=aa hpp;clear h0 xg hpp;go_wp2_with fail;generalize (wo.alloc (.cells #[.string (gs t.ns k),.slice none 0 0,.int .i64 k] 122)).setCell ⟨w.heap.size+1,k,none⟩ (.pointer (some ⟨wo.heap.size,0,none⟩))=w2 at *;obtain ⟨A,kv,hAk,hX⟩:=HX.out;(have hr1:w2.cell? ⟨w.heap.size+1,p,none⟩=some (.pointer (some ⟨A p,0,none⟩)):=by have h:=hX.row.cell (i:=p) (by omega);rw [if_pos (by omega)] at h;exact h);(have hr2:w2.cell? ⟨w.heap.size+1,k,none⟩=some (.pointer (some ⟨A k,0,none⟩)):=by have h:=hX.row.cell (i:=k) hlt;rw [if_pos (by omega)] at h;exact h);(have HNK:Hid (dh A k=.pointer (some ⟨wo.heap.size,0,none⟩)):=by unfold Hid dh;rw [hAk]);rw [hAk] at hr2;have hkc:=hX.fr.yM (i:=p) (by omega);have hfz:=hX.fr.thaw (i:=p) (by omega) 1;(have Hy:Hid (au (w.heap.size+1+1) 119 w2 (kv p) ((cZ t.ps p k).map (dh A))):=by have h:=hX.fr.own p (by omega);rw [yU] at h;exact h);have EG:=aa hX;have HAP:Hid (A p≠w.heap.size+1/\(kv p).ownBlock≠some (w.heap.size+1)/\(kv p).ownBlock≠some (A p)/\w.heap.size+1<w2.heap.size/\A p<w2.heap.size):=⟨(hX.fr.far (by omega)).1,(hX.fr.far (by omega)).2,hX.fr.apart p p (by omega) (by omega),hX.row.lt,hX.fr.lt (by omega)⟩;(have i0:(0:Int)<=(p:Int):=by omega);(have i1:(p:Int)<(t.ps.length:Int):=by omega);(have i2:(0:Int)<=(k:Int):=by omega);(have i3:(k:Int)<(t.ps.length:Int):=by omega);(have pX:Hid (((cZ t.ps p k).map (dh A)).length<=1000000):=by unfold Hid;rw [aD];have:=wA t.ps p k;omega);have VK:Hid (∀g cap w',au (w.heap.size+1+1) 119 w' (.slice (some ⟨g,0,none⟩) (((cZ t.ps p k).map (dh A)).length+1) cap) ((cZ t.ps p k).map (dh A)++[.pointer (some ⟨wo.heap.size,0,none⟩)])->w2.grownBy w' (kv p).ownBlock->((kv p).ownBlock=some g\/w2.heap.size<=g)->Pg w1 (w'.setCell ⟨A p,1,none⟩ (.slice (some ⟨g,0,none⟩) (((cZ t.ps p k).map (dh A)).length+1) cap)) (w.heap.size+1) t.ps.length (k+1) t):=fun g cap w' h1 h2 h3=>hX.push hpk Me.out (by rw [HNK.out];exact h1) h2 (fun b hb=>by cases hb;exact h3);clear hAk hX HX hco hfo sP uh hc0 hc1;generalize dh A=na at *;generalize hap:A p=ap at *;generalize wo.heap.size=ak at *;generalize kv p=ov at *;generalize List.map na (cZ t.ps p k)=vs at *;have ai6:Hid (au (w.heap.size+1+1) 119 (w2.alloc (.cells #[.pointer (some ⟨ak,0,none⟩)] 119)).drew ov vs):=Hy.out.alloc _;have jD:Hid ((w2.alloc (.cells #[.pointer (some ⟨ak,0,none⟩)] 119)).drew.cell? ⟨w2.heap.size,0,none⟩=some (.pointer (some ⟨ak,0,none⟩))):=aS _ _ _ 0;have Ca:Hid (w.heap.size+1+1<=(w2.alloc (.cells #[.pointer (some ⟨ak,0,none⟩)] 119)).drew.heap.size):=by have:=HAP.out.2.2.2.1;show _<=(w2.alloc _).heap.size;rw [aQ];omega
    have aaR:Hid (∀(w':World),(w2.alloc (.cells #[.pointer (some ⟨ak,0,none⟩)] 119)).drew.grownBy w' ov.ownBlock->w'.cell? ⟨w.heap.size+1,p,none⟩=some (.pointer (some ⟨ap,0,none⟩))/\w'.cell? ⟨w.heap.size+1,k,none⟩=some (.pointer (some ⟨ak,0,none⟩))/\w'.cell? ⟨ap,1,none⟩=some ov/\w'.frozen? ⟨ap,1,none⟩=false):=fun w' hg=>by
     obtain ⟨q1,q2,q3,q4,q5⟩:=HAP.out;(have hl:∀b,b<w2.heap.size->b<(w2.alloc (.cells #[.pointer (some ⟨ak,0,none⟩)] 119)).drew.heap.size:=fun b hb=>by show b<(w2.alloc _).heap.size;rw [aQ];omega);have hu:=Up.alloc w2 (.cells #[.pointer (some ⟨ak,0,none⟩)] 119);refine ⟨?_,?_,?_,?_⟩
     ·rw [hg.cell_far _ (hl _ q4) (iJ q2)];exact hu.cell hr1
     ·rw [hg.cell_far _ (hl _ q4) (iJ q2)];exact hu.cell hr2
     ·rw [hg.cell_far _ (hl _ q5) (iJ q3)];exact hu.cell hkc
     ·rw [hg.frozen_far _ (hl _ q5) (iJ q3)];exact (Below.frozen hu (p:=⟨ap,1,none⟩) q5).trans hfz
    have alE:=(Up.alloc w2 (.cells #[.pointer (some ⟨ak,0,none⟩)] 119)).cell hr1;have alF:=(Up.alloc w2 (.cells #[.pointer (some ⟨ak,0,none⟩)] 119)).cell hr2;have alG:=(Up.alloc w2 (.cells #[.pointer (some ⟨ak,0,none⟩)] 119)).cell hkc;clear EG;refine fR (by kernel_rfl) 20 (fun w'=>w'.cell? ⟨w.heap.size+1,p,none⟩=some (.pointer (some ⟨ap,0,none⟩))/\w'.cell? ⟨w.heap.size+1,k,none⟩=some (.pointer (some ⟨ak,0,none⟩))/\w'.cell? ⟨ap,1,none⟩=some ov) ⟨hr1,hr2,hkc⟩ (fun hS=>?_);simp only [dY,aW,dw,Nat.reduceAdd,iu,iw,dX,di,cm];refine az.kG 0 1 2 3 hS ?_;(try simp only [Act.put,aL,aM,aN]);refine az.kG 4 5 6 7 hS ?_;(try simp only [Act.put,aL,aM,aN]);refine az.kG 8 9 10 11 hS ?_;(try simp only [Act.put,aL,aM,aN]);refine az.xk 12 13 hS ?_;(try simp only [Act.put,aL,aM,aN]);refine az.tk 14 hS ?_;(try simp only [Act.put,aL,aM,aN]);refine az.st 15 fun K' hK=>?_;go_simp;refine hK.out _ _ (fun _=>⟨(Up.alloc _ _).cell hr1,(Up.alloc _ _).cell hr2,(Up.alloc _ _).cell hkc⟩) (fun hS=>?_);(try simp only [aL,aM,aN]);refine az.st 16 fun K' hK=>?_;refine fL (by rfl) _ _ _ (by rfl) (w.heap.size+1+1) 119 _ 8 Tryz.underlying120 Tryz.EN (by rfl) (by decide) (by rfl) ai6.out (.pointer (some ⟨ak,0,none⟩)) w2.heap.size (by rfl) jD.out (by rfl) pX.out Ca.out ?_;intro g cap w4 Ak hg4 Pj aaS;obtain ⟨ai7,ai8,ai9,alH⟩:=aaR.out w4 hg4;have aip:=aa Ak;have Pk:=aa (yT hg4);have aja:=aa Pj;clear Ak hg4 Pj aaS;refine hK.out _ _ (fun _=>⟨ai7,ai8,ai9⟩) (fun hS=>?_);replace hS:=hS ⟨19,by decide,rfl⟩;(try simp only [Act.put,aL,aM,aN]);refine az.xk 17 18 hS ?_;(try simp only [Act.put,aL,aM,aN]);refine az.st 19 fun K' hK=>?_;go_simp;refine hK.out _ _ (bF ·) (fun hS=>?_);refine az.done (by kernel_rfl) ?_;go_wp2
    go_roundw
    case rel =>
     refine ⟨k+1,by omega,by go_num,VK.out g cap w4 aip.out Pk.out ?_⟩;rcases aja.out with h | h
     ·exact .inl h
     ·refine .inr ?_
      rw [h];exact aB (oh _) (fD (aQ _ _).symm)
    case measure=>simp [intOf];omega
   ·have Me:Hid (gi t.ps k<0):=by unfold Hid;omega
    (have d1:decide ((0:Int)<=gi t.ps k)=false:=by simpa using xg);clear h0 xg;go_wp2
    go_roundw
    case rel =>obtain ⟨A',kv',_,hX⟩:=HX.out;exact ⟨k+1,by omega,by go_num,hX.root Me.out⟩
    case measure=>simp [intOf];omega
  ·obtain rfl:k=t.ps.length:=by omega
   go_wp2;go_ret;obtain ⟨cQ,A,kv,hF,hrow⟩:=hO.out;exact ⟨iz kZ.out (cQ.mono (oh _)),_,A,kv,oh _,rfl,hF,hrow.congr fun i hi=>by rw [if_pos hi]⟩
theorem aem (S:Nat->Prop) (w:World) (v:Value) (t:ax) (hT:aG S w v t) (hp:t.ps.length<=1000) (hn:t.ns.length=t.ps.length) (hok:jB t.ps=true) (hz:∀k,(gs t.ns k).size<=70000) :
  Calls Tryz.prog 93 #[v] w (XP w t):=(Ph S w v t hT hp hn hok hz).mono fun _ _ ⟨hu,g,A,kv,hg,he,hF,hr⟩=>⟨hu,g,A,kv,he,hF.ael (by omega),hr⟩
end
end Go.Proofs.YthgabkgmkolobaaGreat
