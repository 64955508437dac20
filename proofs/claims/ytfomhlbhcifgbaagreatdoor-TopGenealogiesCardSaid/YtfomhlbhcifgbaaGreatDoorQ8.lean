/- A region that draws its order, inside a fence and within a round: S is to hold behind an .. -/
import Derived.OrdersIn
import Derived.Test.YtfomhlbhcifgbaaGreatDoorQ6
set_option maxRecDepth 100000
namespace Go.Proofs.YtfomhlbhcifgbaaGreatDoor
open Go.RowKit Go.Deep
section
variable {F:Fence} {n:Nat} {P:Program} {ops:Array Oper} {Q:Exit->Act->World->Prop} {md:Region.Mode} {S:World->Prop} {t:Nat}
structure YR (P:Program) (ops:Array Oper) (S:World->Prop) (o:Oper) (v:Value) (a:Act):Prop where
 want:Region.wanted o (yielded ops a.tmps)=true
 run:∀w,S w->(execOp a.eval o).run P w=.ok (.value v) w
 calm:∀w,o.about P w a.eval=none
def oK (ops:Array Oper):Bool:=ops.toList.all fun o=>match o.op with | .defer _=>false | _=>true
theorem Cx {ops:Array Oper} (h:oK ops=true) {i:Nat} {o:Oper} (hi:ops[i]? = some o) (r:Option Nat) (ρ:Operand->Value):Oper.semAt r ρ o=execOp ρ o:=by
 refine iM r ρ o fun c e=>?_;have h1:=sF.1 h o (A4 (by simpa using hi));rw [e] at h1;cases h1
theorem YR.step {i:Nat} {o:Oper} {v:Value} {a:Act} (hd:oK ops=true) (hi:ops[i]? = some o) (hy:YR P ops S o v a) {K:Act->World->Prop} {w:World} (hS:S w) (h:K (a.put o.dst v) w):wpOpIn F n P ops Q i K a w:=by
 unfold wpOpIn;simp only [hi];rw [if_pos hy.want];refine ⟨fun f hf=>(by rw [hy.calm w] at hf;cases hf),?_⟩;rw [Cx hd hi,hy.run w hS];exact h
theorem YR.swap {j:Nat} {oi oj:Oper} {v:Value} (hd:oK ops=true) (hj:ops[j]? = some oj) (hap:oi.apart ops oj=true) (hsi:∀cs b,oi.op≠.select cs b) (hsj:∀cs b,oj.op≠.select cs b)
  (hQ:∀c a w,Q (.panic c) (a.put oi.dst v) w->Q (.panic c) a w) {K:Act->World->Prop} {a:Act} {w:World} (hy:YR P ops S oi v a) (h:wpOpIn F n P ops Q j K (a.put oi.dst v) w) :
  wpOpIn F n P ops Q j (fun a' w'=>YR P ops S oi v a'/\K (a'.put oi.dst v) w') a w:=by
 obtain ⟨h1,h2,h3⟩:=Oper.apart_spec hap;have stays:∀(b:Act) u,YR P ops S oi v b->YR P ops S oi v (b.put oj.dst u):=fun b u hb =>
  ⟨by rw [wanted_put oi b oj.dst u h3];exact hb.want,fun w hS=>by rw [execOp_put oi hsi b oj.dst u h3];exact hb.run w hS,fun w=>by rw [about_put oi w b oj.dst u h3];exact hb.calm w⟩
 have comm:∀u,(a.put oi.dst v).put oj.dst u=(a.put oj.dst u).put oi.dst v:=fun u=>Act.put_comm a v u h2;unfold wpOpIn at h ⊢;simp only [hj] at h ⊢;rw [wanted_put oj a oi.dst v h1] at h;by_cases hw:Region.wanted oj (yielded ops a.tmps)=true
 ·rw [if_pos hw] at h ⊢
  obtain ⟨hb,hu⟩:=h;rw [about_put oj w a oi.dst v h1] at hb;rw [Cx hd hj,execOp_put oj hsj a oi.dst v h1] at hu;refine ⟨hb,?_⟩;rw [Cx hd hj];generalize (execOp a.eval oj).run P w=r at hu ⊢;rcases r with ⟨x,w'⟩ | ⟨x,w'⟩
  ·cases x with
   | value u=>exact ⟨stays a u hy,by rw [<- comm];exact hu⟩
   | skip=>exact ⟨stays a undef hy,by rw [<- comm];exact hu⟩
   | defer d =>
    refine ⟨stays { a with defers:=d::a.defers } undef ⟨hy.want,hy.run,hy.calm⟩,?_⟩;(have e:(({ a with defers:=d::a.defers }:Act).put oj.dst undef).put oi.dst v=({ (a.put oi.dst v) with defers:=d::(a.put oi.dst v).defers }:Act).put oj.dst undef:=by rw [<- Act.put_comm _ v undef h2,<- Act.put_defers]);rw [e];exact hu
   | enter f args =>
    refine ⟨hu.1,CallsIn.mono hu.2 fun e w'' he=>?_⟩;cases e with
    | returned u=>exact ⟨stays a u hy,by rw [<- comm];exact he⟩
    | panicked c=>exact hQ _ _ _ he
    | outgrown=>exact he
   | row row args=>exact ⟨hu.1,RowsIn.mono hu.2 fun u w'' he=>⟨stays a u hy,by rw [<- comm];exact he⟩⟩
   | round l f tmps assign body =>
    refine ⟨hu.1,RoundIn.mono hu.2 fun e w'' he=>?_⟩;cases e with
    | returned u=>exact ⟨stays a u hy,by rw [<- comm];exact he⟩
    | panicked c=>exact hQ _ _ _ he
    | outgrown=>exact he
   | _=>exact hu
  ·cases x with
   | panic u=>exact hQ _ _ _ hu
   | _=>exact hu
 ·rw [if_neg hw] at h ⊢
  exact ⟨by rw [about_put oj w a oi.dst v h1] at h;exact h.1,stays a undef hy,by rw [<- comm];exact h.2⟩
def bH (F:Fence) (n:Nat) (P:Program) (md:Region.Mode) (ops:Array Oper) (Q:Exit->Act->World->Prop) (S:World->Prop) (t:Nat):Nat->Array Bool->Act->World->Prop
 | 0,l,a,w=>Region.ready md ops l=[]/\Q .normal a w
 | m+1,l,a,w=>(Region.ready md ops l=[]->Q .normal a w) /\
  ∀i∈Region.ready md ops l,wpOpIn F n P ops Q i (fun a' w'=>(dU t (l.setIfInBounds i true)->S w')/\bH F n P md ops Q S t m (l.setIfInBounds i true) a' w') a w
theorem bH.any:∀(m:Nat) (l:Array Bool) (a:Act) (w:World),bH F n P md ops Q S t m l a w->wpAnyIn F n P md ops Q m l a w
 | 0,_,_,_,h=>h
 | m+1,_,_,_,h=>⟨h.1,fun i hi=>wpOpIn_mono (fun a' w' h'=>bH.any m _ a' w' h'.2) (h.2 i hi)⟩
theorem bH.first {i:Nat} {oi:Oper} {v:Value} (hd:oK ops=true) (hi:ops[i]? = some oi) (hsel:∀(j:Nat) (o:Oper) cs b,ops[j]? = some o->o.op≠.select cs b)
  (hQ:∀c a w,Q (.panic c) (a.put oi.dst v) w->Q (.panic c) a w):∀(m:Nat) (l:Array Bool) (a:Act) (w:World),
   (∀j oj,ops[j]? = some oj->j≠i->l.getD j true=false->(∀e∈oj.after,Region.binds md e=true->e.on≠i)->oi.apart ops oj=true) ->
   i∈Region.ready md ops l->jx t md ops l i=true->YR P ops S oi v a->S w->bH F n P md ops Q S t m (l.setIfInBounds i true) (a.put oi.dst v) w->bH F n P md ops Q S t (m+1) l a w:=by
 intro m
 induction m with
 | zero =>
  intro l a w _ hr _ hy hS H;refine ⟨fun h=>absurd hr (by rw [h];simp),fun j hj=>?_⟩;by_cases hji:j=i
  ·subst hji;exact hy.step hd hi hS ⟨fun _=>hS,H⟩
  ·exact absurd (ready_mono hj hji) (by rw [H.1];simp)
 | succ m ih =>
  intro l a w hfree hr hwt hy hS H;refine ⟨fun h=>absurd hr (by rw [h];simp),fun j hj=>?_⟩;by_cases hji:j=i
  ·subst hji;exact hy.step hd hi hS ⟨fun _=>hS,H⟩
  ·have hun:=(mem_ready.1 hr).1
   obtain ⟨rF,oj,k8,hall⟩:=mem_ready.1 hj;have hnot:∀e∈oj.after,Region.binds md e=true->e.on≠i:=fun e he hb heq=>by
    have h1:=hall e he hb;rw [heq] at h1;by_cases h':i<l.size
    ·simp [h'] at hun h1;rw [hun] at h1;cases h1
    ·simp [h'] at h1
   have h2:=hy.swap hd k8 (hfree j oj k8 hji rF hnot) (fun cs b=>hsel i oi cs b hi) (fun cs b=>hsel j oj cs b k8) hQ (H.2 j (ready_mono hj hji));have hir:i∈Region.ready md ops (l.setIfInBounds j true):=ready_mono hr (fe hji);refine wpOpIn_mono (fun a' w' h3=>?_) h2;have rG:∀k ok,ops[k]? = some ok->k≠i->(l.setIfInBounds j true).getD k true=false->(∀e∈ok.after,Region.binds md e=true->e.on≠i)->oi.apart ops ok=true:=fun k ok hk hki xI hno=>by
    refine hfree k ok hk hki ?_ hno;by_cases hjk:j=k
    ·rw [<- hjk];exact rF
    ·rw [getD_set_ne true hjk] at xI;exact xI
   have hcm:(l.setIfInBounds i true).setIfInBounds j true=(l.setIfInBounds j true).setIfInBounds i true:=Array.setIfInBounds_comm _ _ (fe hji);obtain ⟨k,kG,hk⟩:=cR.1 hwt;have kG:=bX.1 kG;simp only [fN,Bool.not_eq_true'] at hk;obtain ⟨hk1,hk2⟩:=hk;obtain ⟨ok',SP⟩:∃o,ops[k]? = some o:=by
    cases h:ops[k]? with
    | none=>rw [h] at hk2;cases hk2
    | some o=>exact ⟨o,rfl⟩
   rw [SP] at hk2;obtain ⟨x,hx,e,Mu⟩:=(by simpa using Array.any_eq_true.1 hk2:∃x,∃(hx:x<ok'.after.size),Region.binds md ok'.after[x]=true/\ok'.after[x].on=i);have hkj:k≠j:=fun e2=>by subst e2;rw [SP] at k8;injection k8 with k8;refine hnot ok'.after[x] ?_ e Mu;rw [<- k8];exact Array.getElem_mem hx
   have hki:k≠i:=fun e2=>by
    subst e2;obtain ⟨_,o3,oB,h4⟩:=mem_ready.1 hr;rw [SP] at oB;injection oB with oB;have h5:=h4 ok'.after[x] (by rw [<- oB];exact Array.getElem_mem hx) e;rw [Mu] at h5;by_cases h':k<l.size
    ·simp [h'] at hun h5;rw [hun] at h5;cases h5
    ·simp [h'] at h5
   have Mv:S w':=h3.2.1 ⟨k,kG,by rw [getD_set_ne true (fe hkj),getD_set_ne true (fe hki)];exact hk1⟩
   have PY:jx t md ops (l.setIfInBounds j true) i=true:=cR.2 ⟨k,bX.2 kG,by
    rw [getD_set_ne true (fe hkj),hk1,SP];simpa using hk2⟩
   exact ⟨fun _=>Mv,ih _ a' w' rG hir PY h3.1 Mv (by rw [<- hcm];exact h3.2.2)⟩
theorem bH.K3 {i:Nat} {oi:Oper} {v:Value} (hti:t<=i) (hd:oK ops=true) (hi:ops[i]? = some oi) (hsel:∀(j:Nat) (o:Oper) cs b,ops[j]? = some o->o.op≠.select cs b)
  (hQ:∀c a w,Q (.panic c) (a.put oi.dst v) w->Q (.panic c) a w):∀(m:Nat) (l:Array Bool) (a:Act) (w:World),
   (∀j oj,ops[j]? = some oj->j≠i->l.getD j true=false->(∀e∈oj.after,Region.binds md e=true->e.on≠i)->oi.apart ops oj=true) ->
   i∈Region.ready md ops l->YR P ops (fun _=>True) oi v a->(dU t (l.setIfInBounds i true)->S w)->bH F n P md ops Q S t m (l.setIfInBounds i true) (a.put oi.dst v) w->bH F n P md ops Q S t (m+1) l a w:=by
 intro m
 induction m with
 | zero =>
  intro l a w _ hr hy hS H;refine ⟨fun h=>absurd hr (by rw [h];simp),fun j hj=>?_⟩;by_cases hji:j=i
  ·subst hji;exact hy.step hd hi trivial ⟨hS,H⟩
  ·exact absurd (ready_mono hj hji) (by rw [H.1];simp)
 | succ m ih =>
  intro l a w hfree hr hy hS H;refine ⟨fun h=>absurd hr (by rw [h];simp),fun j hj=>?_⟩;by_cases hji:j=i
  ·subst hji;exact hy.step hd hi trivial ⟨hS,H⟩
  ·have hun:=(mem_ready.1 hr).1
   obtain ⟨rF,oj,k8,hall⟩:=mem_ready.1 hj;have hnot:∀e∈oj.after,Region.binds md e=true->e.on≠i:=fun e he hb heq=>by
    have h1:=hall e he hb;rw [heq] at h1;by_cases h':i<l.size
    ·simp [h'] at hun h1;rw [hun] at h1;cases h1
    ·simp [h'] at h1
   have h2:=hy.swap hd k8 (hfree j oj k8 hji rF hnot) (fun cs b=>hsel i oi cs b hi) (fun cs b=>hsel j oj cs b k8) hQ (H.2 j (ready_mono hj hji));have hir:i∈Region.ready md ops (l.setIfInBounds j true):=ready_mono hr (fe hji);refine wpOpIn_mono (fun a' w' h3=>?_) h2;have rG:∀k ok,ops[k]? = some ok->k≠i->(l.setIfInBounds j true).getD k true=false->(∀e∈ok.after,Region.binds md e=true->e.on≠i)->oi.apart ops ok=true:=fun k ok hk hki xI hno=>by
    refine hfree k ok hk hki ?_ hno;by_cases hjk:j=k
    ·rw [<- hjk];exact rF
    ·rw [getD_set_ne true hjk] at xI;exact xI
   have hcm:(l.setIfInBounds i true).setIfInBounds j true=(l.setIfInBounds j true).setIfInBounds i true:=Array.setIfInBounds_comm _ _ (fe hji)
   have hmo:dU t (l.setIfInBounds j true)->S w':=fun ⟨k,hk,kG⟩=>h3.2.1 ⟨k,hk,by
    rw [hcm,getD_set_ne true (by omega)];exact kG⟩
   refine ⟨hmo,ih _ a' w' rG hir h3.1 (fun ⟨k,hk,kG⟩=>hmo ⟨k,hk,?_⟩) (by rw [<- hcm];exact h3.2.2)⟩;rw [getD_set_ne true (by omega)] at kG;exact kG
theorem bH.free {i:Nat} {oi:Oper} {v:Value} {m:Nat} {l:Array Bool} {a:Act} {w:World} (gT:ops.toList[i]? = some oi)
  (hc:(decide (t<=i)&&oK ops&&Region.noSelect ops&&Region.free md ops l i&&(Region.ready md ops l).contains i)=true)
  (hQ:∀c a w,Q (.panic c) (a.put oi.dst v) w->Q (.panic c) a w) (hg:Region.wanted oi (yielded ops a.tmps)=true) (hb:∀w,oi.about P w a.eval=none) (hy:∀w,(execOp a.eval oi).run P w=.ok (.value v) w) (hS:dU t (l.setIfInBounds i true)->S w)
  (h:bH F n P md ops Q S t m (l.setIfInBounds i true) (a.put oi.dst v) w):bH F n P md ops Q S t (m+1) l a w:=by
 have hi:ops[i]? = some oi:=by rw [<- iZ];exact gT
 simp only [fN,decide_eq_true_eq] at hc;obtain ⟨⟨⟨⟨h0,h4⟩,h1⟩,h2⟩,h3⟩:=hc;exact bH.K3 h0 h4 hi (Region.noSelect_spec h1) hQ m l a w (Region.free_spec hi h2) (by simpa using h3) ⟨hg,fun w _=>hy w,hb⟩ hS h
theorem bH.take {i:Nat} {oi:Oper} {v:Value} {m:Nat} {l:Array Bool} {a:Act} {w:World} (gT:ops.toList[i]? = some oi)
  (hc:(oK ops&&Region.noSelect ops&&Region.free md ops l i&&(Region.ready md ops l).contains i&&jx t md ops l i)=true)
  (hQ:∀c a w,Q (.panic c) (a.put oi.dst v) w->Q (.panic c) a w) (hg:Region.wanted oi (yielded ops a.tmps)=true) (hb:∀w,oi.about P w a.eval=none) (hy:∀w,S w->(execOp a.eval oi).run P w=.ok (.value v) w) (hS:S w)
  (h:bH F n P md ops Q S t m (l.setIfInBounds i true) (a.put oi.dst v) w):bH F n P md ops Q S t (m+1) l a w:=by
 have hi:ops[i]? = some oi:=by rw [<- iZ];exact gT
 simp only [fN] at hc;obtain ⟨⟨⟨⟨h0,h1⟩,h2⟩,h3⟩,h4⟩:=hc;exact bH.first h0 hi (Region.noSelect_spec h1) hQ m l a w (Region.free_spec hi h2) (by simpa using h3) h4 ⟨hg,hy,hb⟩ hS h
theorem bH.step {i:Nat} {oi:Oper} {m:Nat} {l:Array Bool} {a:Act} {w:World} (gT:ops.toList[i]? = some oi) (hr:Region.ready md ops l=[i])
  (h:∀K':Act->World->Prop,Shut (∀a w,(dU t (l.setIfInBounds i true)->S w)->((dU t (l.setIfInBounds i true)->S w)->bH F n P md ops Q S t m (l.setIfInBounds i true) a w)->K' a w)->if Region.wanted oi (yielded ops a.tmps)=true then Oper.wpIn F n P oi a w K' Q else (∀f,oi.about P w a.eval=some f->F.fn f)/\K' (a.put oi.dst undef) w) :
  bH F n P md ops Q S t (m+1) l a w :=
 ⟨fun h0=>absurd (h0.symm.trans hr) (by simp),fun j hj=>by
  rw [hr] at hj
  obtain rfl:j=i:=by simpa using hj
  exact wpOpIn_step (by rw [<- iZ];exact gT) fun K' hK=>h K' fun a w hS hW=>hK a w ⟨hS,hW hS⟩⟩
theorem bH.step2 {i i2:Nat} {oi nj:Oper} {m:Nat} {l:Array Bool} {a:Act} {w:World} (gT:ops.toList[i]? = some oi) (Aj:ops.toList[i2]? = some nj) (hr:Region.ready md ops l=[i,i2])
  (h:∀K':Act->World->Prop,Shut (∀a w,(dU t (l.setIfInBounds i true)->S w)->((dU t (l.setIfInBounds i true)->S w)->bH F n P md ops Q S t m (l.setIfInBounds i true) a w)->K' a w)->if Region.wanted oi (yielded ops a.tmps)=true then Oper.wpIn F n P oi a w K' Q else (∀f,oi.about P w a.eval=some f->F.fn f)/\K' (a.put oi.dst undef) w)
  (h2:∀K':Act->World->Prop,Shut (∀a w,(dU t (l.setIfInBounds i2 true)->S w)->((dU t (l.setIfInBounds i2 true)->S w)->bH F n P md ops Q S t m (l.setIfInBounds i2 true) a w)->K' a w)->if Region.wanted nj (yielded ops a.tmps)=true then Oper.wpIn F n P nj a w K' Q else (∀f,nj.about P w a.eval=some f->F.fn f)/\K' (a.put nj.dst undef) w) :
  bH F n P md ops Q S t (m+1) l a w :=
 ⟨fun h0=>absurd (h0.symm.trans hr) (by simp),fun j hj=>by
  rw [hr] at hj
  rcases bQ.1 hj with rfl | hj
  ·exact wpOpIn_step (by rw [<- iZ];exact gT) fun K' hK=>h K' fun a w hS hW=>hK a w ⟨hS,hW hS⟩
  ·obtain rfl:j=i2:=by simpa using hj
   exact wpOpIn_step (by rw [<- iZ];exact Aj) fun K' hK=>h2 K' fun a w hS hW=>hK a w ⟨hS,hW hS⟩⟩
theorem bH.done {l:Array Bool} {a:Act} {w:World} {m:Nat} (hr:Region.ready md ops l=[]) (h:Q .normal a w):bH F n P md ops Q S t m l a w:=by
 cases m with
 | zero=>exact ⟨hr,h⟩
 | succ m=>exact ⟨fun _=>h,fun j hj=>(by rw [hr] at hj;cases hj)⟩
theorem Qd {id:Nat} {a:Act} {w:World} (hm:P.follows .mixedOrders=true) (t:Nat) (S:World->Prop) (hS:S w.drew)
  (h:S w.drew->bH F n P .any ops Q S t ops.size (Array.replicate ops.size false) a w.drew):(Code.region id ops true).wpIn F n P Q a w:=wpIn_region_any hm (bH.any _ _ _ _ (h hS))
end
end Go.Proofs.YtfomhlbhcifgbaaGreatDoor
