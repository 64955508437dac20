/- A region that draws its order, inside a .. -/
import Derived.OrdersIn
import Derived.Test.YthgabkgmkolobaaGreatQ7
set_option maxRecDepth 100000
namespace Go.Proofs.YthgabkgmkolobaaGreat
section
open Go.RowKit Go.Deep
section
variable {F:Fence} {n:Nat} {P:Program} {ops:Array Oper} {Q:Exit->Act->World->Prop} {md:Region.Mode} {S:World->Prop} {t:Nat}
structure YR (P:Program) (ops:Array Oper) (S:World->Prop) (o:Oper) (v:Value) (a:Act):Prop where
 want:Region.wanted o (yielded ops a.tmps)=true
 run:∀w,S w->(execOp a.eval o).run P w=.ok (.value v) w
 calm:∀w,o.about P w a.eval=none
def vk (ops:Array Oper):Bool:=ops.toList.all fun o=>match o.op with | .defer _=>false | _=>true
theorem KZ {ops:Array Oper} (h:vk ops=true) {i:Nat} {o:Oper} (hi:ops[i]? = some o) (r:Option Nat) (ρ:Operand->Value):Oper.semAt r ρ o=execOp ρ o:=by
 refine gF r ρ o fun c e=>?_;have h1:=s8.1 h o (Jg (by simpa using hi));rw [e] at h1;cases h1
theorem YR.step {i:Nat} {o:Oper} {v:Value} {a:Act} (hd:vk ops=true) (hi:ops[i]? = some o) (hy:YR P ops S o v a) {K:Act->World->Prop} {w:World} (hS:S w) (h:K (a.put o.dst v) w):wpOpIn F n P ops Q i K a w:=by
 unfold wpOpIn;simp only [hi];rw [if_pos hy.want];refine ⟨fun f hf=>(by rw [hy.calm w] at hf;cases hf),?_⟩;rw [KZ hd hi,hy.run w hS];exact h
theorem YR.swap {j:Nat} {oi oj:Oper} {v:Value} (hd:vk ops=true) (hj:ops[j]? = some oj) (hap:oi.apart ops oj=true) (hsi:∀cs b,oi.op≠.select cs b) (hsj:∀cs b,oj.op≠.select cs b)
  (hQ:∀c a w,Q (.panic c) (a.put oi.dst v) w->Q (.panic c) a w) {K:Act->World->Prop} {a:Act} {w:World} (hy:YR P ops S oi v a) (h:wpOpIn F n P ops Q j K (a.put oi.dst v) w) :
  wpOpIn F n P ops Q j (fun a' w'=>YR P ops S oi v a'/\K (a'.put oi.dst v) w') a w:=by
 obtain ⟨h1,h2,h3⟩:=Oper.apart_spec hap;have stays:∀(b:Act) u,YR P ops S oi v b->YR P ops S oi v (b.put oj.dst u):=fun b u hb =>
  ⟨by rw [wanted_put oi b oj.dst u h3];exact hb.want,fun w hS=>by rw [execOp_put oi hsi b oj.dst u h3];exact hb.run w hS,fun w=>by rw [about_put oi w b oj.dst u h3];exact hb.calm w⟩
 have comm:∀u,(a.put oi.dst v).put oj.dst u=(a.put oj.dst u).put oi.dst v:=fun u=>Act.put_comm a v u h2;unfold wpOpIn at h ⊢;simp only [hj] at h ⊢;rw [wanted_put oj a oi.dst v h1] at h;by_cases hw:Region.wanted oj (yielded ops a.tmps)=true
 ·rw [if_pos hw] at h ⊢
  obtain ⟨hb,hu⟩:=h;rw [about_put oj w a oi.dst v h1] at hb;rw [KZ hd hj,execOp_put oj hsj a oi.dst v h1] at hu;refine ⟨hb,?_⟩;rw [KZ hd hj];generalize (execOp a.eval oj).run P w=r at hu ⊢;rcases r with ⟨x,w'⟩ | ⟨x,w'⟩
  ·cases x with
   | value u=>exact ⟨stays a u hy,by rw [<- comm];exact hu⟩
   | skip=>exact ⟨stays a undef hy,by rw [<- comm];exact hu⟩
   | defer d =>
    refine ⟨stays { a with defers:=d::a.defers } undef ⟨hy.want,hy.run,hy.calm⟩,?_⟩;(have e:(({ a with defers:=d::a.defers }:Act).put oj.dst undef).put oi.dst v=({ (a.put oi.dst v) with defers:=d::(a.put oi.dst v).defers }:Act).put oj.dst undef:=by rw [<- Act.put_comm _ v undef h2,<- Act.put_defers]);rw [e];exact hu
   | enter f args =>
    refine ⟨hu.1,CallsIn.mono hu.2 fun e w'' he=>?_⟩;cases e with
    | returned u=>exact ⟨stays a u hy,by rw [<- comm];exact he⟩
    | panicked c=>exact hQ _ _ _ he
    | outgrown=>exact he
   | row row args=>exact ⟨hu.1,RowsIn.mono hu.2 fun u w'' he=>⟨stays a u hy,by rw [<- comm];exact he⟩⟩
   | round l f tmps assign body =>
    refine ⟨hu.1,RoundIn.mono hu.2 fun e w'' he=>?_⟩;cases e with
    | returned u=>exact ⟨stays a u hy,by rw [<- comm];exact he⟩
    | panicked c=>exact hQ _ _ _ he
    | outgrown=>exact he
   | _=>exact hu
  ·cases x with
   | panic u=>exact hQ _ _ _ hu
   | _=>exact hu
 ·rw [if_neg hw] at h ⊢
  exact ⟨by rw [about_put oj w a oi.dst v h1] at h;exact h.1,stays a undef hy,by rw [<- comm];exact h.2⟩
def cr (F:Fence) (n:Nat) (P:Program) (md:Region.Mode) (ops:Array Oper) (Q:Exit->Act->World->Prop) (S:World->Prop) (t:Nat):Nat->Array Bool->Act->World->Prop
 | 0,l,a,w=>Region.ready md ops l=[]/\Q .normal a w
 | m+1,l,a,w=>(Region.ready md ops l=[]->Q .normal a w) /\
  ∀i∈Region.ready md ops l,wpOpIn F n P ops Q i (fun a' w'=>(kV t (l.setIfInBounds i true)->S w')/\cr F n P md ops Q S t m (l.setIfInBounds i true) a' w') a w
theorem cr.any:∀(m:Nat) (l:Array Bool) (a:Act) (w:World),cr F n P md ops Q S t m l a w->wpAnyIn F n P md ops Q m l a w
 | 0,_,_,_,h=>h
 | m+1,_,_,_,h=>⟨h.1,fun i hi=>wpOpIn_mono (fun a' w' h'=>cr.any m _ a' w' h'.2) (h.2 i hi)⟩
theorem cr.first {i:Nat} {oi:Oper} {v:Value} (hd:vk ops=true) (hi:ops[i]? = some oi) (hsel:∀(j:Nat) (o:Oper) cs b,ops[j]? = some o->o.op≠.select cs b)
  (hQ:∀c a w,Q (.panic c) (a.put oi.dst v) w->Q (.panic c) a w):∀(m:Nat) (l:Array Bool) (a:Act) (w:World),
   (∀j oj,ops[j]? = some oj->j≠i->l.getD j true=false->(∀e∈oj.after,Region.binds md e=true->e.on≠i)->oi.apart ops oj=true) ->
   i∈Region.ready md ops l->ox t md ops l i=true->YR P ops S oi v a->S w->cr F n P md ops Q S t m (l.setIfInBounds i true) (a.put oi.dst v) w->cr F n P md ops Q S t (m+1) l a w:=by
 intro m
 induction m with
 | zero =>
  intro l a w _ hr _ hy hS H;refine ⟨fun h=>absurd hr (by rw [h];simp),fun j hj=>?_⟩;by_cases hji:j=i
  ·subst hji;exact hy.step hd hi hS ⟨fun _=>hS,H⟩
  ·exact absurd (ready_mono hj hji) (by rw [H.1];simp)
 | succ m ih =>
  intro l a w hfree hr hwt hy hS H;refine ⟨fun h=>absurd hr (by rw [h];simp),fun j hj=>?_⟩;by_cases hji:j=i
  ·subst hji;exact hy.step hd hi hS ⟨fun _=>hS,H⟩
  ·have hun:=(mem_ready.1 hr).1
   obtain ⟨yR,oj,qX,hall⟩:=mem_ready.1 hj;have hnot:∀e∈oj.after,Region.binds md e=true->e.on≠i:=fun e he hb heq=>by
    have h1:=hall e he hb;rw [heq] at h1;by_cases h':i<l.size
    ·simp [h'] at hun h1;rw [hun] at h1;cases h1
    ·simp [h'] at h1
   have h2:=hy.swap hd qX (hfree j oj qX hji yR hnot) (fun cs b=>hsel i oi cs b hi) (fun cs b=>hsel j oj cs b qX) hQ (H.2 j (ready_mono hj hji));have hir:i∈Region.ready md ops (l.setIfInBounds j true):=ready_mono hr (iJ hji);refine wpOpIn_mono (fun a' w' h3=>?_) h2;have yS:∀k ok,ops[k]? = some ok->k≠i->(l.setIfInBounds j true).getD k true=false->(∀e∈ok.after,Region.binds md e=true->e.on≠i)->oi.apart ops ok=true:=fun k ok hk hki EL hno=>by
    refine hfree k ok hk hki ?_ hno;by_cases hjk:j=k
    ·rw [<- hjk];exact yR
    ·rw [getD_set_ne true hjk] at EL;exact EL
   have hcm:(l.setIfInBounds i true).setIfInBounds j true=(l.setIfInBounds j true).setIfInBounds i true:=Array.setIfInBounds_comm _ _ (iJ hji);obtain ⟨k,jt,hk⟩:=dx.1 hwt;have jt:=bu.1 jt;simp only [eF,zV] at hk;obtain ⟨hk1,hk2⟩:=hk;obtain ⟨ok',Pq⟩:∃o,ops[k]? = some o:=by
    cases h:ops[k]? with
    | none=>rw [h] at hk2;cases hk2
    | some o=>exact ⟨o,rfl⟩
   rw [Pq] at hk2;obtain ⟨x,hx,e,Ml⟩:=(by simpa using Array.any_eq_true.1 hk2:∃x,∃(hx:x<ok'.after.size),Region.binds md ok'.after[x]=true/\ok'.after[x].on=i);have hkj:k≠j:=fun e2=>by subst e2;rw [Pq] at qX;injection qX with qX;refine hnot ok'.after[x] ?_ e Ml;rw [<- qX];exact Array.getElem_mem hx
   have hki:k≠i:=fun e2=>by
    subst e2;obtain ⟨_,o3,EM,h4⟩:=mem_ready.1 hr;rw [Pq] at EM;injection EM with EM;have h5:=h4 ok'.after[x] (by rw [<- EM];exact Array.getElem_mem hx) e;rw [Ml] at h5;by_cases h':k<l.size
    ·simp [h'] at hun h5;rw [hun] at h5;cases h5
    ·simp [h'] at h5
   have XM:S w':=h3.2.1 ⟨k,jt,by rw [getD_set_ne true (iJ hkj),getD_set_ne true (iJ hki)];exact hk1⟩
   have aaO:ox t md ops (l.setIfInBounds j true) i=true:=dx.2 ⟨k,bu.2 jt,by
    rw [getD_set_ne true (iJ hkj),hk1,Pq];simpa using hk2⟩
   exact ⟨fun _=>XM,ih _ a' w' yS hir aaO h3.1 XM (by rw [<- hcm];exact h3.2.2)⟩
theorem cr.VH {i:Nat} {oi:Oper} {v:Value} (hti:t<=i) (hd:vk ops=true) (hi:ops[i]? = some oi) (hsel:∀(j:Nat) (o:Oper) cs b,ops[j]? = some o->o.op≠.select cs b)
  (hQ:∀c a w,Q (.panic c) (a.put oi.dst v) w->Q (.panic c) a w):∀(m:Nat) (l:Array Bool) (a:Act) (w:World),
   (∀j oj,ops[j]? = some oj->j≠i->l.getD j true=false->(∀e∈oj.after,Region.binds md e=true->e.on≠i)->oi.apart ops oj=true) ->
   i∈Region.ready md ops l->YR P ops (fun _=>True) oi v a->(kV t (l.setIfInBounds i true)->S w)->cr F n P md ops Q S t m (l.setIfInBounds i true) (a.put oi.dst v) w->cr F n P md ops Q S t (m+1) l a w:=by
 intro m
 induction m with
 | zero =>
  intro l a w _ hr hy hS H;refine ⟨fun h=>absurd hr (by rw [h];simp),fun j hj=>?_⟩;by_cases hji:j=i
  ·subst hji;exact hy.step hd hi trivial ⟨hS,H⟩
  ·exact absurd (ready_mono hj hji) (by rw [H.1];simp)
 | succ m ih =>
  intro l a w hfree hr hy hS H;refine ⟨fun h=>absurd hr (by rw [h];simp),fun j hj=>?_⟩;by_cases hji:j=i
  ·subst hji;exact hy.step hd hi trivial ⟨hS,H⟩
  ·have hun:=(mem_ready.1 hr).1
   obtain ⟨yR,oj,qX,hall⟩:=mem_ready.1 hj;have hnot:∀e∈oj.after,Region.binds md e=true->e.on≠i:=fun e he hb heq=>by
    have h1:=hall e he hb;rw [heq] at h1;by_cases h':i<l.size
    ·simp [h'] at hun h1;rw [hun] at h1;cases h1
    ·simp [h'] at h1
   have h2:=hy.swap hd qX (hfree j oj qX hji yR hnot) (fun cs b=>hsel i oi cs b hi) (fun cs b=>hsel j oj cs b qX) hQ (H.2 j (ready_mono hj hji));have hir:i∈Region.ready md ops (l.setIfInBounds j true):=ready_mono hr (iJ hji);refine wpOpIn_mono (fun a' w' h3=>?_) h2;have yS:∀k ok,ops[k]? = some ok->k≠i->(l.setIfInBounds j true).getD k true=false->(∀e∈ok.after,Region.binds md e=true->e.on≠i)->oi.apart ops ok=true:=fun k ok hk hki EL hno=>by
    refine hfree k ok hk hki ?_ hno;by_cases hjk:j=k
    ·rw [<- hjk];exact yR
    ·rw [getD_set_ne true hjk] at EL;exact EL
   have hcm:(l.setIfInBounds i true).setIfInBounds j true=(l.setIfInBounds j true).setIfInBounds i true:=Array.setIfInBounds_comm _ _ (iJ hji)
   have hmo:kV t (l.setIfInBounds j true)->S w':=fun ⟨k,hk,jt⟩=>h3.2.1 ⟨k,hk,by
    rw [hcm,getD_set_ne true (by omega)];exact jt⟩
   refine ⟨hmo,ih _ a' w' yS hir h3.1 (fun ⟨k,hk,jt⟩=>hmo ⟨k,hk,?_⟩) (by rw [<- hcm];exact h3.2.2)⟩;rw [getD_set_ne true (by omega)] at jt;exact jt
theorem cr.free {i:Nat} {oi:Oper} {v:Value} {m:Nat} {l:Array Bool} {a:Act} {w:World} (gO:ops.toList[i]? = some oi)
  (hc:(decide (t<=i)&&vk ops&&Region.noSelect ops&&Region.free md ops l i&&(Region.ready md ops l).contains i)=true)
  (hQ:∀c a w,Q (.panic c) (a.put oi.dst v) w->Q (.panic c) a w) (hg:Region.wanted oi (yielded ops a.tmps)=true) (hb:∀w,oi.about P w a.eval=none) (hy:∀w,(execOp a.eval oi).run P w=.ok (.value v) w) (hS:kV t (l.setIfInBounds i true)->S w)
  (h:cr F n P md ops Q S t m (l.setIfInBounds i true) (a.put oi.dst v) w):cr F n P md ops Q S t (m+1) l a w:=by
 have hi:ops[i]? = some oi:=by rw [<- o7];exact gO
 simp only [eF,decide_eq_true_eq] at hc;obtain ⟨⟨⟨⟨h0,h4⟩,h1⟩,h2⟩,h3⟩:=hc;exact cr.VH h0 h4 hi (Region.noSelect_spec h1) hQ m l a w (Region.free_spec hi h2) (by simpa using h3) ⟨hg,fun w _=>hy w,hb⟩ hS h
theorem cr.take {i:Nat} {oi:Oper} {v:Value} {m:Nat} {l:Array Bool} {a:Act} {w:World} (gO:ops.toList[i]? = some oi)
  (hc:(vk ops&&Region.noSelect ops&&Region.free md ops l i&&(Region.ready md ops l).contains i&&ox t md ops l i)=true)
  (hQ:∀c a w,Q (.panic c) (a.put oi.dst v) w->Q (.panic c) a w) (hg:Region.wanted oi (yielded ops a.tmps)=true) (hb:∀w,oi.about P w a.eval=none) (hy:∀w,S w->(execOp a.eval oi).run P w=.ok (.value v) w) (hS:S w)
  (h:cr F n P md ops Q S t m (l.setIfInBounds i true) (a.put oi.dst v) w):cr F n P md ops Q S t (m+1) l a w:=by
 have hi:ops[i]? = some oi:=by rw [<- o7];exact gO
 simp only [eF] at hc;obtain ⟨⟨⟨⟨h0,h1⟩,h2⟩,h3⟩,h4⟩:=hc;exact cr.first h0 hi (Region.noSelect_spec h1) hQ m l a w (Region.free_spec hi h2) (by simpa using h3) h4 ⟨hg,hy,hb⟩ hS h
theorem cr.step {i:Nat} {oi:Oper} {m:Nat} {l:Array Bool} {a:Act} {w:World} (gO:ops.toList[i]? = some oi) (hr:Region.ready md ops l=[i])
  (h:∀K':Act->World->Prop,Shut (∀a w,(kV t (l.setIfInBounds i true)->S w)->((kV t (l.setIfInBounds i true)->S w)->cr F n P md ops Q S t m (l.setIfInBounds i true) a w)->K' a w)->if Region.wanted oi (yielded ops a.tmps)=true then Oper.wpIn F n P oi a w K' Q else (∀f,oi.about P w a.eval=some f->F.fn f)/\K' (a.put oi.dst undef) w) :
  cr F n P md ops Q S t (m+1) l a w :=
 ⟨fun h0=>absurd (h0.symm.trans hr) (by simp),fun j hj=>by
  rw [hr] at hj
  obtain rfl:j=i:=by simpa using hj
  exact wpOpIn_step (by rw [<- o7];exact gO) fun K' hK=>h K' fun a w hS hW=>hK a w ⟨hS,hW hS⟩⟩
theorem cr.C8 {i i2:Nat} {oi Gz:Oper} {m:Nat} {l:Array Bool} {a:Act} {w:World} (gO:ops.toList[i]? = some oi) (aaP:ops.toList[i2]? = some Gz) (hr:Region.ready md ops l=[i,i2])
  (h:∀K':Act->World->Prop,Shut (∀a w,(kV t (l.setIfInBounds i true)->S w)->((kV t (l.setIfInBounds i true)->S w)->cr F n P md ops Q S t m (l.setIfInBounds i true) a w)->K' a w)->if Region.wanted oi (yielded ops a.tmps)=true then Oper.wpIn F n P oi a w K' Q else (∀f,oi.about P w a.eval=some f->F.fn f)/\K' (a.put oi.dst undef) w)
  (h2:∀K':Act->World->Prop,Shut (∀a w,(kV t (l.setIfInBounds i2 true)->S w)->((kV t (l.setIfInBounds i2 true)->S w)->cr F n P md ops Q S t m (l.setIfInBounds i2 true) a w)->K' a w)->if Region.wanted Gz (yielded ops a.tmps)=true then Oper.wpIn F n P Gz a w K' Q else (∀f,Gz.about P w a.eval=some f->F.fn f)/\K' (a.put Gz.dst undef) w) :
  cr F n P md ops Q S t (m+1) l a w :=
 ⟨fun h0=>absurd (h0.symm.trans hr) (by simp),fun j hj=>by
  rw [hr] at hj
  rcases bA.1 hj with rfl | hj
  ·exact wpOpIn_step (by rw [<- o7];exact gO) fun K' hK=>h K' fun a w hS hW=>hK a w ⟨hS,hW hS⟩
  ·obtain rfl:j=i2:=by simpa using hj
   exact wpOpIn_step (by rw [<- o7];exact aaP) fun K' hK=>h2 K' fun a w hS hW=>hK a w ⟨hS,hW hS⟩⟩
theorem cr.done {l:Array Bool} {a:Act} {w:World} {m:Nat} (hr:Region.ready md ops l=[]) (h:Q .normal a w):cr F n P md ops Q S t m l a w:=by
 cases m with
 | zero=>exact ⟨hr,h⟩
 | succ m=>exact ⟨fun _=>h,fun j hj=>(by rw [hr] at hj;cases hj)⟩
theorem Pr {id:Nat} {a:Act} {w:World} (hm:P.follows .mixedOrders=true) (t:Nat) (S:World->Prop) (hS:S w.drew)
  (h:S w.drew->cr F n P .any ops Q S t ops.size (Array.replicate ops.size false) a w.drew):(Code.region id ops true).wpIn F n P Q a w:=wpIn_region_any hm (cr.any _ _ _ _ (h hS))
end
def Bu (l:List (Option Nat×Value)) (k:Option Nat) (v:Value):List (Option Nat×Value):=if (l.lookup k).isNone then l++[(k,v)] else l.map fun x=>if x.1=k then (k,v) else x
section
variable {P:Program} {w:World}
theorem aaW (k:Option Nat):Instr.sameBits 10000 (pk k) (pk k)=true:=by
 cases k<;>simp [pk,Instr.sameBits]
theorem XS (k:Option Nat):(Instr.keyThatStays (pk k) (pk k)).run P w=.ok (pk k) w:=by
 unfold Instr.keyThatStays;rw [if_pos (aaW k)];rfl
theorem Pt {t e:TypeId} (ht:P.underlying t=some (.pointer e)) (he:∀w,(sizeOf e).run P w=.ok 3 w) {k:Option Nat} (hk:kA w k):∀(es:List MapEntry) (l:List (Option Nat×Value)) (i:Nat),
  es.map (fun x=>(x.key,x.val))=l.map (fun x=>(pk x.1,x.2))->(∀x∈l,kA w x.1)->(l.lookup k).isSome ->
   ∃j v,l.lookup k=some v/\(l[j]?).map (·.1)=some k/\(∀m,m<j->(l[m]?).map (·.1)≠some k)/\(Instr.findAsking t (pk k) es i).run P w=.ok (some (i+j,v)) w:=by
 intro es
 induction es with
 | nil =>
  intro l i hl _ hs;cases l with
  | nil=>cases hs
  | cons=>cases hl
 | cons x es ih =>
  intro l i hl hok hs;cases l with
  | nil=>cases hl
  | cons y l =>
   simp only [dV,List.cons.injEq,kX] at hl;obtain ⟨⟨h1,h2⟩,h3⟩:=hl;have heq:=TB (w:=w) ht he hk (hok y (by simp));rw [<- h1] at heq;by_cases h:k=y.1
   ·subst h
    refine ⟨0,y.2,?_,rfl,fun m hm=>absurd hm (aZ _),?_⟩
    ·obtain ⟨y1,y2⟩:=y;simp
    ·simp [Instr.findAsking,heq,h2]
   ·have hb:(k==y.1)=false:=by simpa using h
    (have hs':(l.lookup k).isSome:=by obtain ⟨y1,y2⟩:=y;rw [gm,hb] at hs;exact hs);obtain ⟨j,v,h4,h5,h6,h7⟩:=ih l (i+1) h3 (fun z hz=>hok z (by simp [hz])) hs';refine ⟨j+1,v,?_,by simpa using h5,fun m hm=>?_,?_⟩
    ·obtain ⟨y1,y2⟩:=y;rw [gm,hb];exact h4
    ·cases m with
     | zero=>simpa using fun e=>h e.symm
     | succ m=>simpa using h6 m (by omega)
    ·simp [Instr.findAsking,heq,h,h7];omega
def Db (l:List (Option Nat×Value)):Prop:=(l.map (·.1)).Nodup
theorem JC {l:List (Option Nat×Value)} {k:Option Nat}:l.lookup k=none↔k∉l.map (·.1):=by
 induction l with
 | nil=>simp
 | cons y l ih =>
  obtain ⟨y1,y2⟩:=y
  rw [gm]
  by_cases h:k=y1
  ·subst h;simp
  ·have hb:(k==y1)=false:=by simpa using h
   rw [hb];simp only [dV,bA,not_or]
   exact ⟨fun h2=>⟨h,ih.1 h2⟩,fun h2=>ih.2 h2.2⟩
theorem XT (l:List (Option Nat×Value)) (k:Option Nat) (v:Value):(Bu l k v).map (·.1)=if (l.lookup k).isNone then l.map (·.1)++[k] else l.map (·.1):=by
 unfold Bu;split
 ·simp
 ·rw [jA]
  refine lz fun x _=>?_;show (if x.1=k then (k,v) else x).1=x.1;split
  ·rename_i h;exact h.symm
  ·rfl
theorem XU {l:List (Option Nat×Value)} (h:Db l) (k:Option Nat) (v:Value):Db (Bu l k v):=by
 unfold Db;rw [XT];split
 ·rename_i h2
  have h3:k∉l.map (·.1):=JC.1 (by simpa using h2);rw [ua];refine ⟨h,by simp,fun a ha b hb=>?_⟩;have:b=k:=by simpa using hb
  subst this;exact fun e=>h3 (by rw [<- e];exact ha)
 ·exact h
theorem S4 {l:List (Option Nat×Value)} (h:Db l) {k:Option Nat} (v:Value) {j:Nat} (hj:(l[j]?).map (·.1)=some k):(l.map fun x=>if x.1=k then (k,v) else x)=l.set j (k,v):=by
 apply xL;intro m;have hjl:j<l.length:=by
  cases hlj:l[j]? with
  | none=>rw [hlj] at hj;cases hj
  | some y=>exact (o8.1 hlj).1
 rw [kr,List.getElem?_set];by_cases e:j=m
 ·subst e
  rw [if_pos rfl,if_pos hjl];rw [kQ hjl] at hj ⊢;have h3:(l[j]).1=k:=by simpa using hj
  simp [h3]
 ·rw [if_neg e]
  cases hm:l[m]? with
  | none=>rfl
  | some y =>
   have hml:=(o8.1 hm).1;(have hne:y.1≠k:=fun h4=>by (have h5:(l.map (·.1))[m]? = (l.map (·.1))[j]?:=by rw [kr,kr,hm,hj];simp [h4]);(have h6:m<(l.map (·.1)).length:=by simpa using hml);(have h7:j<(l.map (·.1)).length:=by simpa using hjl);rw [kQ h6,kQ h7] at h5;injection h5 with h5;exact e ((List.getElem_inj h).1 h5).symm);simp [hne]
theorem Pu {mt t e el:TypeId} (hm:P.underlying mt=some (.map t el)) (ht:P.underlying t=some (.pointer e)) (he:∀w,(sizeOf e).run P w=.ok 3 w) {b:Nat} {l:List (Option Nat×Value)} (h:ou w b l) (hu:Db l) {k:Option Nat} (v:Value)
  (hk:kA w k) (hok:∀x∈l,kA w x.1) :
  ∃w',(Instr.mapUpdate mt (.map (some b)) (pk k) v).run P w=.ok () w'/\ou w' b (Bu l k v)/\w'.heap.size=w.heap.size/\w'.os=w.os/\w'.tape=w.tape/\w'.output=w.output/\∀j,j≠b->w'.heap[j]? = w.heap[j]?:=by
 cases hl0:l.lookup k with
 | none =>
  obtain ⟨w',h1,h2,h3⟩:=Pe hm ht he h v hk hok hl0;refine ⟨w',h1,?_,h3⟩;unfold Bu;rw [hl0];exact h2
 | some v0 =>
  obtain ⟨es,clock,hb,hl⟩:=h;have bK:=run_underlying (w:=w) hm;have aI:=run_underlying (w:=w) ht;have hg:=BX (P:=P) hb;obtain ⟨j,v',h4,h5,h6,h7⟩:=Pt ht he hk es.toList l 0 hl hok (by rw [hl0];rfl);have hne:es.toList≠[]:=fun h0=>by rw [h0] at hl;cases l with | nil=>cases hl0 | cons=>cases hl
  have hfk:(Instr.findKey t (pk k) es.toList).run P w=.ok (some (j,v')) w:=by
   cases hes:es.toList with
   | nil=>exact absurd hes hne
   | cons x xs =>
    (have hn:Instr.findNow (.pointer e) (pk k) (x::xs) 0=none:=by simp [Instr.findNow,Instr.sameNow]);rw [hes] at h7;simp [Instr.findKey,aI,hn,h7]
  have hkey:((es[j]?).map (·.key))=some (pk k):=by
   have h8:=congrArg (fun q=>(q[j]?).map (·.1)) hl;simp only [kr,Option.map_map] at h8;have h9:(l[j]?).map (fun x=>pk x.1)=some (pk k):=by
    cases hlj:l[j]? with
    | none=>rw [hlj] at h5;cases h5
    | some y=>rw [hlj] at h5;simp at h5;simp [h5]
   have h10:(es.toList[j]?).map (·.key)=(l[j]?).map (fun x=>pk x.1):=h8;rw [<- o7,h10,h9]
  have hst:(Instr.keyThatStays (((es[j]?).map (·.key)).getD (pk k)) (pk k)).run P w=.ok (pk k) w:=by rw [hkey];exact XS k
  have hs:=MapKept.run_setObj_map (P:=P) (.map (es.modify j fun e=>{ e with key:=pk k,val:=v }) clock) hb;refine ⟨{ w with heap:=w.heap.setIfInBounds b (.map (es.modify j fun e=>{ e with key:=pk k,val:=v }) clock) },by simp [Instr.mapUpdate,bK,hg,run_checkKey ht,hfk,hst,hs],⟨es.modify j fun e=>{ e with key:=pk k,val:=v },clock,?_,?_⟩,by simp,rfl,rfl,rfl,fun m hm=>?_⟩
  ·have:=(fq.1 hb).1
   simp [this]
  ·have hpl:Bu l k v=l.set j (k,v):=by
    unfold Bu;rw [hl0]
    exact S4 hu v h5
   rw [hpl]
   apply xL
   intro m
   have h8:=congrArg (fun q=>q[m]?) hl
   simp only [kr] at h8
   rw [kr,kr,o7,afB,List.getElem?_set]
   have hjl:j<l.length:=by
    cases hlj:l[j]? with
    | none=>rw [hlj] at h5;cases h5
    | some y=>exact (o8.1 hlj).1
   have hje:j<es.size:=by have:=congrArg List.length hl;simp at this;omega
   by_cases e:j=m
   ·subst e
    rw [if_pos rfl,if_pos rfl,if_pos hjl,Array.getElem?_eq_getElem hje]
    rfl
   ·rw [if_neg e,if_neg e,<- o7];exact h8
  ·simp [Ne.symm hm]
theorem XV {mt t e el:TypeId} (hm:P.underlying mt=some (.map t el)) (ht:P.underlying t=some (.pointer e)) (he:∀w,(sizeOf e).run P w=.ok 3 w) {z:Value} (hz:∀w,(zeroValue el).run P w=.ok z w) {b:Nat} {l:List (Option Nat×Value)} (h:ou w b l) {k:Option Nat}
  (hk:kA w k) (hok:∀x∈l,kA w x.1):(Instr.lookup mt (.map (some b)) (pk k) false).run P w=.ok ((l.lookup k).getD z) w:=by
 cases hl0:l.lookup k with
 | some v=>exact C7 hm ht he h hk hok hl0
 | none =>
  obtain ⟨es,clock,hb,hl⟩:=h;have hu:=run_underlying (w:=w) hm;have hg:=BX (P:=P) hb;rcases run_findKey ht he hk es.toList l hl hok with ⟨h1,h2⟩ | ⟨j,v',h1,h2⟩
  ·simp [Instr.lookup,hu,hg,run_checkKey ht,h2,hz]
  ·rw [h1] at hl0;cases hl0
end
section
variable {F:Fence} {nF:Nat} {P:Program} {ops:Array Oper} {o:Oper} {a:Act} {w:World} {K:Act->World->Prop} {Q:Exit->Act->World->Prop} {E:Prop}
theorem rU (hgd:o.guard=none) (s x:Operand) (t:TypeId) (ho:o.op=.call { callee:=.builtin .append,args:=#[s,x],argTypes:=#[t,t] })
  (base:Nat) (e:TypeId) (z:Value) (bytes:Nat) (ht:P.underlying t=some (.slice e)) (hinfo:(P.info? e).map (fun i=>(i.zero,i.size,i.bytes))=some (some z,1,bytes))
  (hz1:z.cells.size=1) (lN:bytes<=64) {v:Value} {vs:List Value} (hs:a.eval s=v) (hown:au base e w v vs) (u:Value) (B:Nat)
  (hx:a.eval x=.slice (some ⟨B,0,none⟩) 1 1) (hB:w.cell? ⟨B,0,none⟩=some u) (h1:u.oneCell'=true) (hn:vs.length<=1000000) (hbase:base<=w.heap.size)
  (h:∀g cap w',au base e w' (.slice (some ⟨g,0,none⟩) (vs.length+1) cap) (vs++[u])->w.grownBy w' v.ownBlock->(v.ownBlock=some g\/g=w.heap.size)->Below base w w'->K (a.put o.dst (.slice (some ⟨g,0,none⟩) (vs.length+1) cap)) w') :
  if Region.wanted o (yielded ops a.tmps)=true then Oper.wpIn F nF P o a w K Q else E:=by
 have hw:Region.wanted o (yielded ops a.tmps)=true:=by simp [Region.wanted,hgd]
 rw [if_pos hw];obtain ⟨i,hi,hzz⟩:=jR.1 hinfo;simp only [kX] at hzz;obtain ⟨hz,hs1,hb⟩:=hzz
 obtain ⟨g,cap,w',hr,h2,h3,h4,_⟩:=run_append_lies (P:=P) w t o.type base e i z 1 bytes ht hi hz hs1 hb hz1 (by omega) v vs.length vs hown ⟨B,0,none⟩ 1 1 [u] rfl (fun j u' hj=>by
  cases j with
  | zero=>(simp at hj;subst hj;simpa [Addr.add] using hB)
  | succ j=>simp at hj) (by simpa using h1) (by omega) (by unfold maxLen;omega) (by have:(vs.length+1)*bytes<=(vs.length+1)*64:=qO _ lN;omega) hbase _ rfl
 unfold Oper.wpIn;refine ⟨by simp [Oper.about,ho,resolve,Target.leads,Sem.run_pure],?_⟩;rw [Oper.semAt_plain F _ _ (by rw [ho];intro c hc';cases hc')];simp [execOp,ho,resolve,invoke,builtin,hs,hx,hr,Result.andThen];exact h g cap w' (by unfold au;rw [bg];exact h2) h3 h4 (hown.fF h3 hbase)
end
end
end Go.Proofs.YthgabkgmkolobaaGreat
