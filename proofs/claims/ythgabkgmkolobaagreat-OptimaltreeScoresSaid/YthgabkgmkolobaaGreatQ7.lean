/- A region that draws its order and only reads, within a round of a loop over a function. A .. -/
import Derived.OrdersHeld
import Derived.Deep.RegionHeld
import Derived.StillTail
import Derived.Test.YthgabkgmkolobaaGreatQ6
set_option maxRecDepth 100000
namespace Go.Proofs.YthgabkgmkolobaaGreat
section
open Go.RowKit Go.Shelf Go.Deep
section
variable {F:Fence} {n:Nat} {P:Program} {ops:Array Oper} {C:World→Prop}
theorem JJ {o:Oper} {a:Act} {K:Act→Prop} {K':Act→World→Prop} {Q':Exit→Act→World→Prop} {w:World} (hs:∀ρ,Oper.semAt F.round ρ o=execOp ρ o) (hw:C w)
  (h:∀a w',C w'→K a→K' a w') (ha:o.askedIn F P a C) (hh:o.quietIn F n P a C K):o.wpIn F n P a w K' Q':=by
 obtain ⟨v,hv,hk⟩:=hh;have hv:=hv w hw;refine ⟨ha w hw,?_⟩;rw [hs];unfold Oper.quietAtIn at hv;cases hr:(execOp a.eval o).run P w with
 | halt x w'=>rw [hr] at hv;exact hv.elim
 | ok x w' =>
  rw [hr] at hv;cases x with
  | value u=>obtain ⟨rfl,rfl⟩:=hv;exact h _ _ hw hk
  | skip=>obtain ⟨rfl,rfl⟩:=hv;exact h _ _ hw hk
  | enter f args=>obtain ⟨rfl,hd,hc⟩:=hv;exact ⟨hd,hc.mono fun e w'' ⟨he,hw2⟩=>by subst he;exact h _ _ hw2 hk⟩
  | _=>exact hv.elim
theorem JK {i:Nat} {a:Act} {K:Act→Prop} {K':Act→World→Prop} {Q':Exit→Act→World→Prop} {w:World} (hs:∀o:Oper,ops[i]? = some o→∀ρ,Oper.semAt F.round ρ o=execOp ρ o) (hC:C w)
  (h:∀a w',C w'→K a→K' a w') (hh:qOpIn F n P ops C i K a):wpOpIn F n P ops Q' i K' a w:=by
 cases ho:ops[i]? with
 | none=>simp only [qOpIn,wpOpIn,ho] at hh ⊢;exact h _ _ hC hh
 | some o =>
  simp only [qOpIn,wpOpIn,ho] at hh ⊢;by_cases hg:Region.wanted o (yielded ops a.tmps)=true
  ·rw [if_pos hg] at hh ⊢;exact JJ (hs o ho) hC h hh.1 hh.2
  ·rw [if_neg hg] at hh ⊢;exact ⟨hh.1 w hC,h _ _ hC hh.2⟩
theorem G4 {Q:Act→Prop} {Q':Exit→Act→World→Prop} {md:Region.Mode} (hs:∀(i:Nat) (o:Oper),ops[i]? = some o→∀ρ,Oper.semAt F.round ρ o=execOp ρ o) (hQ:∀a w,C w→Q a→Q' .normal a w) (fuel:Nat) :
  ∀(listed:Array Bool) (a:Act) (w:World),C w→wpAnyQIn F n P md ops C Q fuel listed a→wpAnyIn F n P md ops Q' fuel listed a w:=by
 induction fuel with
 | zero=>intro _ a w hw h;exact ⟨h.1,hQ a w hw h.2⟩
 | succ k ih=>intro _ a w hw h;exact ⟨fun h0=>hQ a w hw (h.1 h0),fun i hi=>JK (hs i) hw (fun a' w' hw'=>ih _ a' w' hw') (h.2 i hi)⟩
theorem Bo {id l₀:Nat} {Q:Exit→Act→World→Prop} {a:Act} {w:World} {l:List Oper} (hro:F.round=some l₀) (hm:P.follows .mixedOrders=true) (hB:Region.lexB .any l.toArray=true)
  (hd:l.all (fun o=>match o.op with | .defer _=>false | _=>true)=true)
  (h:wpQuietIn F n P l.toArray (fun w'=>∃n,w'=w.drewN n) (fun a'=>∀w',(∃n,w'=w.drewN n)→Q .normal a' w') l a):(Code.region id l.toArray true).wpIn F n P Q a w:=by
 have hs:∀(i:Nat) o,l.toArray[i]? = some o→∀ρ,Oper.semAt F.round ρ o=execOp ρ o:=fun i o ho ρ=>by rw [hro];refine Oper.semAt_some l₀ ρ o fun c e=>?_;have h1:=List.all_eq_true.1 hd o (List.mem_of_getElem? (by simpa using ho));rw [e] at h1;cases h1
 simp only [Region.lexB,Bool.and_eq_true] at hB;refine wpIn_region_any hm (G4 (C:=fun w'=>∃n,w'=w.drewN n) (Q:=fun a'=>∀w',(∃n,w'=w.drewN n)→Q .normal a' w') hs (fun _ w' hw' h=>h w' hw') _ _ _ _ ⟨1,rfl⟩ ?_);have h2:=wpAnyQIn_lex (F:=F) (n:=n) (C:=fun w'=>∃n,w'=w.drewN n) (md:=.any) hB.1 l.toArray.toList 0 (Array.replicate l.toArray.size false) a (by simp) (by simpa using hB.2) (by simpa using h);simpa using h2
end
end
section
open Go.RowKit Go.Deep
section
variable {P:Program} {ops:Array Oper} {Q:Exit→Act→World→Prop} {md:Region.Mode} {S:World→Prop} {t:Nat}
def gW (t:Nat) (l:Array Bool):Prop:=∃m,m<t∧l.getD m true=false
def waitsB (t:Nat) (md:Region.Mode) (ops:Array Oper) (l:Array Bool) (i:Nat):Bool:=(List.range t).any fun m=>!l.getD m true&&(match ops[m]? with | some o=>o.after.any fun e=>Region.binds md e&&e.on==i | none=>false)
def af (P:Program) (md:Region.Mode) (ops:Array Oper) (Q:Exit→Act→World→Prop) (S:World→Prop) (t:Nat):Nat→Array Bool→Act→World→Prop
 | 0,l,a,w=>Region.ready md ops l=[]∧Q .normal a w
 | n+1,l,a,w=>(Region.ready md ops l=[]→Q .normal a w) ∧
  ∀i∈Region.ready md ops l,wpOp P ops Q i (fun a' w'=>(gW t (l.setIfInBounds i true)→S w')∧af P md ops Q S t n (l.setIfInBounds i true) a' w') a w
theorem af.any:∀(n:Nat) (l:Array Bool) (a:Act) (w:World),af P md ops Q S t n l a w→wpAny P md ops Q n l a w
 | 0,_,_,_,h=>h
 | n+1,_,_,_,h=>⟨h.1,fun i hi=>wpOp_mono (fun a' w' h'=>af.any n _ a' w' h'.2) (h.2 i hi)⟩
theorem af.first {i:Nat} {oi:Oper} {v:Value} (hi:ops[i]? = some oi) (hsel:∀(j:Nat) (o:Oper) cs b,ops[j]? = some o→o.op≠.select cs b)
  (hQ:∀c a w,Q (.panic c) (a.put oi.dst v) w→Q (.panic c) a w):∀(n:Nat) (l:Array Bool) (a:Act) (w:World),
   (∀j oj,ops[j]? = some oj→j≠i→l.getD j true=false→(∀e∈oj.after,Region.binds md e=true→e.on≠i)→oi.apart ops oj=true) →
   i∈Region.ready md ops l→waitsB t md ops l i=true→YieldsIf P ops S oi v a→S w→af P md ops Q S t n (l.setIfInBounds i true) (a.put oi.dst v) w→af P md ops Q S t (n+1) l a w:=by
 intro n
 induction n with
 | zero =>
  intro l a w _ hr _ hy hS H;refine ⟨fun h=>absurd hr (by rw [h];simp),fun j hj=>?_⟩;by_cases hji:j=i
  ·subst hji;exact hy.wpOp hi hS ⟨fun _=>hS,H⟩
  ·exact absurd (ready_mono hj hji) (by rw [H.1];simp)
 | succ n ih =>
  intro l a w hfree hr hwt hy hS H;refine ⟨fun h=>absurd hr (by rw [h];simp),fun j hj=>?_⟩;by_cases hji:j=i
  ·subst hji;exact hy.wpOp hi hS ⟨fun _=>hS,H⟩
  ·have hun:=(mem_ready.1 hr).1
   obtain ⟨qE,oj,j8,hall⟩:=mem_ready.1 hj;have hnot:∀e∈oj.after,Region.binds md e=true→e.on≠i:=fun e he hb heq=>by
    have h1:=hall e he hb;rw [heq] at h1;by_cases h':i<l.size
    ·simp [h'] at hun h1;rw [hun] at h1;cases h1
    ·simp [h'] at h1
   have h2:=wpOp_putIf j8 (hfree j oj j8 hji qE hnot) (fun cs b=>hsel i oi cs b hi) (fun cs b=>hsel j oj cs b j8) hQ hy (H.2 j (ready_mono hj hji));have hir:i∈Region.ready md ops (l.setIfInBounds j true):=ready_mono hr (Ne.symm hji);refine wpOp_mono (fun a' w' h3=>?_) h2;have qF:∀k ok,ops[k]? = some ok→k≠i→(l.setIfInBounds j true).getD k true=false→(∀e∈ok.after,Region.binds md e=true→e.on≠i)→oi.apart ops ok=true:=fun k ok hk hki wL hno=>by
    refine hfree k ok hk hki ?_ hno;by_cases hjk:j=k
    ·rw [← hjk];exact qE
    ·rw [getD_set_ne true hjk] at wL;exact wL
   have hcm:(l.setIfInBounds i true).setIfInBounds j true=(l.setIfInBounds j true).setIfInBounds i true:=Array.setIfInBounds_comm _ _ (Ne.symm hji);obtain ⟨m,hml,hm⟩:=List.any_eq_true.1 hwt;have hml:=List.mem_range.1 hml;simp only [Bool.and_eq_true,Bool.not_eq_true'] at hm;obtain ⟨Iw,hm2⟩:=hm;obtain ⟨om,hmo⟩:∃om,ops[m]? = some om:=by
    cases h:ops[m]? with
    | none=>rw [h] at hm2;cases hm2
    | some o=>exact ⟨o,rfl⟩
   rw [hmo] at hm2;obtain ⟨x,hx,e,Lj⟩:=(by simpa using Array.any_eq_true.1 hm2:∃x,∃(hx:x<om.after.size),Region.binds md om.after[x]=true∧om.after[x].on=i);have Yh:m≠j:=fun e2=>by subst e2;rw [hmo] at j8;injection j8 with j8;refine hnot om.after[x] ?_ e Lj;rw [← j8];exact Array.getElem_mem hx
   have hmi:m≠i:=fun e2=>by
    subst e2;obtain ⟨_,o3,wM,h4⟩:=mem_ready.1 hr;rw [hmo] at wM;injection wM with wM;have h5:=h4 om.after[x] (by rw [← wM];exact Array.getElem_mem hx) e;rw [Lj] at h5;by_cases h':m<l.size
    ·simp [h'] at hun h5;rw [hun] at h5;cases h5
    ·simp [h'] at h5
   have Ll:S w':=h3.2.1 ⟨m,hml,by rw [getD_set_ne true (Ne.symm Yh),getD_set_ne true (Ne.symm hmi)];exact Iw⟩
   have Ol:waitsB t md ops (l.setIfInBounds j true) i=true:=List.any_eq_true.2 ⟨m,List.mem_range.2 hml,by
    rw [getD_set_ne true (Ne.symm Yh),Iw,hmo];simpa using hm2⟩
   exact ⟨fun _=>Ll,ih _ a' w' qF hir Ol h3.1 Ll (by rw [← hcm];exact h3.2.2)⟩
theorem af.JL {i:Nat} {oi:Oper} {v:Value} (hti:t≤i) (hi:ops[i]? = some oi) (hsel:∀(j:Nat) (o:Oper) cs b,ops[j]? = some o→o.op≠.select cs b)
  (hQ:∀c a w,Q (.panic c) (a.put oi.dst v) w→Q (.panic c) a w):∀(n:Nat) (l:Array Bool) (a:Act) (w:World),
   (∀j oj,ops[j]? = some oj→j≠i→l.getD j true=false→(∀e∈oj.after,Region.binds md e=true→e.on≠i)→oi.apart ops oj=true) →
   i∈Region.ready md ops l→YieldsIf P ops (fun _=>True) oi v a→(gW t (l.setIfInBounds i true)→S w)→af P md ops Q S t n (l.setIfInBounds i true) (a.put oi.dst v) w→af P md ops Q S t (n+1) l a w:=by
 intro n
 induction n with
 | zero =>
  intro l a w _ hr hy hS H;refine ⟨fun h=>absurd hr (by rw [h];simp),fun j hj=>?_⟩;by_cases hji:j=i
  ·subst hji;exact hy.wpOp hi trivial ⟨hS,H⟩
  ·exact absurd (ready_mono hj hji) (by rw [H.1];simp)
 | succ n ih =>
  intro l a w hfree hr hy hS H;refine ⟨fun h=>absurd hr (by rw [h];simp),fun j hj=>?_⟩;by_cases hji:j=i
  ·subst hji;exact hy.wpOp hi trivial ⟨hS,H⟩
  ·have hun:=(mem_ready.1 hr).1
   obtain ⟨qE,oj,j8,hall⟩:=mem_ready.1 hj;have hnot:∀e∈oj.after,Region.binds md e=true→e.on≠i:=fun e he hb heq=>by
    have h1:=hall e he hb;rw [heq] at h1;by_cases h':i<l.size
    ·simp [h'] at hun h1;rw [hun] at h1;cases h1
    ·simp [h'] at h1
   have h2:=wpOp_putIf j8 (hfree j oj j8 hji qE hnot) (fun cs b=>hsel i oi cs b hi) (fun cs b=>hsel j oj cs b j8) hQ hy (H.2 j (ready_mono hj hji));have hir:i∈Region.ready md ops (l.setIfInBounds j true):=ready_mono hr (Ne.symm hji);refine wpOp_mono (fun a' w' h3=>?_) h2;have qF:∀k ok,ops[k]? = some ok→k≠i→(l.setIfInBounds j true).getD k true=false→(∀e∈ok.after,Region.binds md e=true→e.on≠i)→oi.apart ops ok=true:=fun k ok hk hki wL hno=>by
    refine hfree k ok hk hki ?_ hno;by_cases hjk:j=k
    ·rw [← hjk];exact qE
    ·rw [getD_set_ne true hjk] at wL;exact wL
   have hcm:(l.setIfInBounds i true).setIfInBounds j true=(l.setIfInBounds j true).setIfInBounds i true:=Array.setIfInBounds_comm _ _ (Ne.symm hji)
   have hmo:gW t (l.setIfInBounds j true)→S w':=fun ⟨m,hm,hml⟩=>h3.2.1 ⟨m,hm,by
    rw [hcm,getD_set_ne true (by omega)];exact hml⟩
   refine ⟨hmo,ih _ a' w' qF hir h3.1 (fun ⟨m,hm,hml⟩=>hmo ⟨m,hm,?_⟩) (by rw [← hcm];exact h3.2.2)⟩;rw [getD_set_ne true (by omega)] at hml;exact hml
theorem af.free {i:Nat} {oi:Oper} {v:Value} {n:Nat} {l:Array Bool} {a:Act} {w:World} (gP:ops.toList[i]? = some oi)
  (hc:(decide (t≤i)&&Region.noSelect ops&&Region.free md ops l i&&(Region.ready md ops l).contains i)=true)
  (hQ:∀c a w,Q (.panic c) (a.put oi.dst v) w→Q (.panic c) a w) (hg:Region.wanted oi (yielded ops a.tmps)=true) (hy:∀w,(execOp a.eval oi).run P w=.ok (.value v) w) (hS:gW t (l.setIfInBounds i true)→S w)
  (h:af P md ops Q S t n (l.setIfInBounds i true) (a.put oi.dst v) w):af P md ops Q S t (n+1) l a w:=by
 have hi:ops[i]? = some oi:=by rw [← Array.getElem?_toList];exact gP
 simp only [Bool.and_eq_true,decide_eq_true_eq] at hc;obtain ⟨⟨⟨h0,h1⟩,h2⟩,h3⟩:=hc;exact af.JL h0 hi (Region.noSelect_spec h1) hQ n l a w (Region.free_spec hi h2) (by simpa using h3) (.inl ⟨hg,fun w _=>hy w⟩) hS h
theorem af.take {i:Nat} {oi:Oper} {v:Value} {n:Nat} {l:Array Bool} {a:Act} {w:World} (gP:ops.toList[i]? = some oi)
  (hc:(Region.noSelect ops&&Region.free md ops l i&&(Region.ready md ops l).contains i&&waitsB t md ops l i)=true)
  (hQ:∀c a w,Q (.panic c) (a.put oi.dst v) w→Q (.panic c) a w) (hg:Region.wanted oi (yielded ops a.tmps)=true) (hy:∀w,S w→(execOp a.eval oi).run P w=.ok (.value v) w) (hS:S w)
  (h:af P md ops Q S t n (l.setIfInBounds i true) (a.put oi.dst v) w):af P md ops Q S t (n+1) l a w:=by
 have hi:ops[i]? = some oi:=by rw [← Array.getElem?_toList];exact gP
 simp only [Bool.and_eq_true] at hc;obtain ⟨⟨⟨h1,h2⟩,h3⟩,h4⟩:=hc;exact af.first hi (Region.noSelect_spec h1) hQ n l a w (Region.free_spec hi h2) (by simpa using h3) h4 (.inl ⟨hg,hy⟩) hS h
theorem af.step {i:Nat} {oi:Oper} {n:Nat} {l:Array Bool} {a:Act} {w:World} (gP:ops.toList[i]? = some oi) (hr:Region.ready md ops l=[i])
  (h:∀K':Act→World→Prop,Shut (∀a w,(gW t (l.setIfInBounds i true)→S w)→((gW t (l.setIfInBounds i true)→S w)→af P md ops Q S t n (l.setIfInBounds i true) a w)→K' a w)→if Region.wanted oi (yielded ops a.tmps)=true then Oper.wp P oi a w K' Q else K' (a.put oi.dst undef) w) :
  af P md ops Q S t (n+1) l a w :=
 ⟨fun h0=>absurd (h0.symm.trans hr) (by simp),fun j hj=>by
  rw [hr] at hj
  obtain rfl:j=i:=by simpa using hj
  exact wpOp_step (by rw [← Array.getElem?_toList];exact gP) fun K' hK=>h K' fun a w hS hW=>hK a w ⟨hS,hW hS⟩⟩
theorem af.xU {i i2:Nat} {oi yz:Oper} {n:Nat} {l:Array Bool} {a:Act} {w:World} (gP:ops.toList[i]? = some oi) (Om:ops.toList[i2]? = some yz) (hr:Region.ready md ops l=[i,i2])
  (h:∀K':Act→World→Prop,Shut (∀a w,(gW t (l.setIfInBounds i true)→S w)→((gW t (l.setIfInBounds i true)→S w)→af P md ops Q S t n (l.setIfInBounds i true) a w)→K' a w)→if Region.wanted oi (yielded ops a.tmps)=true then Oper.wp P oi a w K' Q else K' (a.put oi.dst undef) w)
  (h2:∀K':Act→World→Prop,Shut (∀a w,(gW t (l.setIfInBounds i2 true)→S w)→((gW t (l.setIfInBounds i2 true)→S w)→af P md ops Q S t n (l.setIfInBounds i2 true) a w)→K' a w)→if Region.wanted yz (yielded ops a.tmps)=true then Oper.wp P yz a w K' Q else K' (a.put yz.dst undef) w) :
  af P md ops Q S t (n+1) l a w :=
 ⟨fun h0=>absurd (h0.symm.trans hr) (by simp),fun j hj=>by
  rw [hr] at hj
  rcases List.mem_cons.1 hj with rfl | hj
  ·exact wpOp_step (by rw [← Array.getElem?_toList];exact gP) fun K' hK=>h K' fun a w hS hW=>hK a w ⟨hS,hW hS⟩
  ·obtain rfl:j=i2:=by simpa using hj
   exact wpOp_step (by rw [← Array.getElem?_toList];exact Om) fun K' hK=>h2 K' fun a w hS hW=>hK a w ⟨hS,hW hS⟩⟩
theorem af.done {l:Array Bool} {a:Act} {w:World} {n:Nat} (hr:Region.ready md ops l=[]) (h:Q .normal a w):af P md ops Q S t n l a w:=by
 cases n with
 | zero=>exact ⟨hr,h⟩
 | succ n=>exact ⟨fun _=>h,fun j hj=>(by rw [hr] at hj;cases hj)⟩
theorem aM {t:Nat} {l:Array Bool} (h:((List.range t).all fun m=>l.getD m true)=true) {p:Prop}:gW t l→p:=fun ⟨m,hm,hl⟩=>by
 have:=List.all_eq_true.1 h m (List.mem_range.2 hm)
 rw [hl] at this;cases this
theorem dG {id:Nat} {a:Act} {w:World} (hm:P.follows .mixedOrders=true) (t:Nat) (S:World→Prop) (hS:S w.drew)
  (h:S w.drew→af P .any ops Q S t ops.size (Array.replicate ops.size false) a w.drew):(Code.region id ops true).wp P Q a w:=wp_region_any hm (af.any _ _ _ _ (h hS))
end
section
variable {P:Program} {ops:Array Oper} {md:Region.Mode} {Q:Exit→Act→World→Prop} {S:World→Prop} {t:Nat}
theorem af.tk (i:Nat) {oi:Oper} {v:Value} {n:Nat} {l:Array Bool} {a:Act} {w:World} (hS:S w)
  (h:af P md ops Q S t n (l.setIfInBounds i true) (a.put oi.dst v) w) (gP:ops.toList[i]? = some oi:=by rfl)
  (hc:(Region.noSelect ops&&Region.free md ops l i&&(Region.ready md ops l).contains i&&waitsB t md ops l i)=true:=by kernel_rfl)
  (hQ:∀c a w,Q (.panic c) (a.put oi.dst v) w→Q (.panic c) a w:=by exact (fun _ _ _ h=>h)) (hg:Region.wanted oi (yielded ops a.tmps)=true:=by rfl)
  (hy:∀w,S w→(execOp a.eval oi).run P w=.ok (.value v) w:=by (intro w hSw;(try dsimp only at hSw);go_simp;(try with_reducible rfl))):af P md ops Q S t (n+1) l a w :=
 af.take gP hc hQ hg hy hS h
theorem af.fr (i:Nat) {oi:Oper} {v:Value} {n:Nat} {l:Array Bool} {a:Act} {w:World} (hS:gW t (l.setIfInBounds i true)→S w)
  (h:af P md ops Q S t n (l.setIfInBounds i true) (a.put oi.dst v) w) (gP:ops.toList[i]? = some oi:=by rfl)
  (hc:(decide (t≤i)&&Region.noSelect ops&&Region.free md ops l i&&(Region.ready md ops l).contains i)=true:=by kernel_rfl)
  (hQ:∀c a w,Q (.panic c) (a.put oi.dst v) w→Q (.panic c) a w:=by exact (fun _ _ _ h=>h)) (hg:Region.wanted oi (yielded ops a.tmps)=true:=by rfl)
  (hy:∀w,(execOp a.eval oi).run P w=.ok (.value v) w:=by (intro w;go_simp;(try with_reducible rfl))):af P md ops Q S t (n+1) l a w :=
 af.free gP hc hQ hg hy hS h
end
end
section
open Go.RowKit Go.Shelf Go.Deep
section
variable {F:Fence} {n:Nat} {P:Program} {C:World→Prop}
def fJ (o:Oper):Oper:={ o with op:=.move (.const undef) }
def blankAt (l:List Oper) (m:Nat):List Oper:=match l[m]? with | some o=>l.set m (fJ o) | none=>l
def JM (l:List Oper):Bool:=(List.range l.length).all fun i=>match l[i]? with | some o=>o.after.all fun e=>!Region.binds .any e || decide (e.on<i) | none=>true
def tailB (l:List Oper) (m:Nat):Bool :=
 decide (l.length=m+1)&&Region.lexB .any (blankAt l m).toArray&&JM l&&Region.sinkB .any l.toArray m&&Region.chainB .any l.toArray m &&
 (l.all fun o=>match o.op with | .defer _=>false | _=>true)&&(match l[m]? with | some o=>o.guard.isNone&&o.dst.isNone | none=>false)
theorem og (l:List Oper) (m i:Nat):(blankAt l m).toArray[i]? = if i=m then (l[m]?).map fJ else l.toArray[i]?:=by
 unfold blankAt;by_cases e:i=m
 ·subst e
  cases h:l[i]? with
  | none=>simp [h]
  | some o=>have hl:i<l.length:=(List.getElem?_eq_some_iff.1 h).1;simp [hl]
 ·rw [if_neg e]
  cases h:l[m]? with
  | none=>rfl
  | some o=>simp [Ne.symm e]
theorem qG (l:List Oper) (m:Nat):(blankAt l m).toArray.size=l.toArray.size:=by
 unfold blankAt;split<;>simp
theorem G5 (l:List Oper) (m i:Nat):((blankAt l m).toArray[i]?).map (·.after)=(l.toArray[i]?).map (·.after):=by
 rw [og];by_cases e:i=m
 ·subst e;rw [if_pos rfl];cases h:l[i]?<;>simp [h,fJ]
 ·rw [if_neg e]
theorem sI (l:List Oper) (m:Nat) (listed:Array Bool):Region.ready .any (blankAt l m).toArray listed=Region.ready .any l.toArray listed:=by
 unfold Region.ready;rw [qG];refine List.filter_congr fun i _=>?_;have h:=G5 l m i;cases h1:(blankAt l m).toArray[i]?<;>cases h2:l.toArray[i]?<;>rw [h1,h2] at h<;>simp at h ⊢;rw [h]
theorem vh (l:List Oper) (m:Nat):yielded (blankAt l m).toArray=yielded l.toArray:=by
 funext tmps j;unfold yielded;rw [og];by_cases e:j=m
 ·subst e;rw [if_pos rfl];cases h:l[j]?<;>simp [h,fJ]
 ·rw [if_neg e]
theorem zY {l:List Oper} {m:Nat} (hl:l.length=m+1) (hb:JM l=true) {listed:Array Bool} (hsz:listed.size=l.toArray.size) (hun:∃i,i≤m∧listed.getD i true=false):Region.ready .any l.toArray listed≠[]:=by
 obtain ⟨i,hi,hun⟩:=hun
 induction i using Nat.strongRecOn with
 | _ i ih =>
  by_cases sJ:∃j,j<i∧listed.getD j true=false
  ·obtain ⟨j,hj,hj2⟩:=sJ
   exact ih j hj (by omega) hj2
  ·refine List.ne_nil_of_mem (a:=i) (mem_ready.2 ⟨hun,l[i]'(by omega),by simp,fun e he hbd=>?_⟩)
   have h1:=List.all_eq_true.1 hb i (List.mem_range.2 (by omega));rw [List.getElem?_eq_getElem (by omega)] at h1;have h2:=Array.all_eq_true_iff_forall_mem.1 h1 e he;simp [hbd] at h2;cases h3:listed.getD e.on true with
   | false=>exact absurd ⟨e.on,h2,h3⟩ sJ
   | true =>
    (have:e.on<listed.size:=by rw [hsz];simp;omega);simpa [this] using h3
end
end
end Go.Proofs.YthgabkgmkolobaaGreat
