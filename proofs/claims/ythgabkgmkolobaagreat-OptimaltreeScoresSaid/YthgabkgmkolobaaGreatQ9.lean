/- A region that draws its order, only reads, and ends in one operation that may write: .. -/
import Derived.OrdersIn
import Derived.Test.YthgabkgmkolobaaGreatQ7
set_option maxRecDepth 100000
namespace Go.Proofs.YthgabkgmkolobaaGreat
section
open Go.RowKit Go.Shelf Go.Deep
section
variable {P:Program} {C:World→Prop}
theorem mH {ops:Array Oper} {Q:Act→Prop}:∀ {l₁ l₂:List Oper} {a:Act},wpQuiet P ops C (fun a=>wpQuiet P ops C Q l₂ a) l₁ a→wpQuiet P ops C Q (l₁++l₂) a
 | [],_,_,h=>h
 | o::l₁,l₂,a,h=>by
  have h2:=h
  unfold wpQuiet at h2
  show (if _ then _ else _)
  split
  ·rename_i hw;rw [if_pos hw] at h2;exact Oper.quiet_mono (fun a h=>mH h) h2
  ·rename_i hw;rw [if_neg hw] at h2;exact mH h2
theorem qJ {ops ops':Array Oper} (hy:yielded ops'=yielded ops) {Q:Act→Prop}:∀ {l:List Oper} {a:Act},wpQuiet P ops C Q l a→wpQuiet P ops' C Q l a
 | [],_,h=>h
 | o::l,a,h=>by
  have h2:=h
  unfold wpQuiet at h2
  show (if _ then _ else _)
  rw [hy]
  split
  ·rename_i hw;rw [if_pos hw] at h2;exact Oper.quiet_mono (fun a h=>qJ hy h) h2
  ·rename_i hw;rw [if_neg hw] at h2;exact qJ hy h2
theorem Lv {l:List Oper} {m:Nat} {Q:Exit→Act→World→Prop} (hl:l.length=m+1) (hb:JM l=true) (hsk:Region.sinkB .any l.toArray m=true) (hch:Region.chainB .any l.toArray m=true) (uk:∀o,l[m]? = some o→o.guard=none∧o.dst=none) (fuel:Nat) :
  ∀(listed:Array Bool) (a:Act) (w:World),C w→HeadInv .any l.toArray m listed →
   wpAnyQ P .any (blankAt l m).toArray C (fun a=>∀w,C w→wpOp P l.toArray Q m (fun a w=>Q .normal a w) a w) fuel listed a→wpAny P .any l.toArray Q fuel listed a w:=by
 have hm:m<l.toArray.size:=by simp;omega
 induction fuel with
 | zero =>
  intro listed a w _ inv h;have h1:=h.1;rw [sI] at h1;exact absurd h1 (zY hl hb inv.size ⟨m,Nat.le_refl _,inv.tail m (Nat.le_refl _) hm⟩)
 | succ fuel ih =>
  intro listed a w hw inv h;refine ⟨fun h0=>absurd h0 (zY hl hb inv.size ⟨m,Nat.le_refl _,inv.tail m (Nat.le_refl _) hm⟩),fun i hi=>?_⟩;have h2:=h.2 i (by rw [sI];exact hi);have hil:i<l.toArray.size:=(Array.getElem?_eq_some_iff.1 (mem_ready.1 hi).2.choose_spec.1).1;by_cases e:i=m
  ·subst e
   have hall:∀j,j<i→listed.getD j true=true:=fun j hj=>by
    cases hx:listed.getD j true with
    | true=>rfl
    | false=>exact absurd hi (tail_waits hsk hch hm inv _ j rfl hj hx i (Nat.le_refl _))
   have hnil:Region.ready .any l.toArray (listed.setIfInBounds i true)=[]:=by
    rw [List.eq_nil_iff_forall_not_mem];intro j hj;obtain ⟨hj1,o,ho,_⟩:=mem_ready.1 hj;have hjl:j<l.toArray.size:=(Array.getElem?_eq_some_iff.1 ho).1;(have hjl2:j<i+1:=by simp at hjl;omega);by_cases e2:j=i
    ·subst e2
     (have:j<listed.size:=by rw [inv.size];exact hjl);simp [this] at hj1
    ·rw [getD_set_ne true (by omega)] at hj1
     rw [hall j (by omega)] at hj1;cases hj1
   (have hlt:i<l.length:=by omega);(have Ud:(blankAt l i).toArray[i]? = some (fJ l[i]):=by rw [og,if_pos rfl,List.getElem?_eq_getElem hlt];rfl);obtain ⟨hg,hd⟩:=uk l[i] (List.getElem?_eq_getElem hlt);unfold qOp at h2;simp only [Ud] at h2;have h3:=h2;(have hwt:∀y,Region.wanted (fJ l[i]) y=true:=fun y=>by unfold Region.wanted fJ;simp only [hg]);rw [if_pos (hwt _)] at h3;obtain ⟨v,_,h4⟩:=h3;(have hput:a.put (fJ l[i]).dst v=a:=by unfold fJ;simp only [hd];rfl);rw [hput] at h4;have h5:wpOp P l.toArray Q i (fun a w=>Q .normal a w) a w:=by
    cases fuel with
    | zero=>exact h4.2 w hw
    | succ f=>exact h4.1 (by rw [sI];exact hnil) w hw
   refine wpOp_mono (fun a w hq=>?_) h5;cases fuel with
   | zero=>exact ⟨hnil,hq⟩
   | succ f=>exact ⟨fun _=>hq,fun j hj=>by rw [hnil] at hj;cases hj⟩
  ·have him:i<m:=by simp at hil;omega
   (have Ud:(blankAt l m).toArray[i]? = l.toArray[i]?:=by rw [og,if_neg e]);(have h3:qOp P l.toArray C i (wpAnyQ P .any (blankAt l m).toArray C (fun a=>∀w,C w→wpOp P l.toArray Q m (fun a w=>Q .normal a w) a w) fuel (listed.setIfInBounds i true)) a:=by unfold qOp at h2 ⊢;rw [Ud,vh] at h2;exact h2);exact wpOp_of_qOp hw (fun a' w' hw' hk=>ih _ a' w' hw' (inv.set hi him) hk) h3
theorem DG {id:Nat} {Q:Exit→Act→World→Prop} {a:Act} {w:World} {l:List Oper} (m:Nat) (hm:P.follows .mixedOrders=true) (hB:tailB l m=true)
  (h:wpQuiet P l.toArray (fun w'=>∃n,w'=w.drewN n) (fun a'=>∀w',(∃n,w'=w.drewN n)→wpList P l.toArray Q (l.drop m) a' w') (l.take m) a):(Code.region id l.toArray true).wp P Q a w:=by
 unfold tailB at hB;simp only [Bool.and_eq_true,decide_eq_true_eq] at hB;obtain ⟨⟨⟨⟨⟨⟨hl,Oz⟩,hbk⟩,hsk⟩,hch⟩,hdf⟩,uk⟩:=hB;have hmem:l[m]? = some (l[m]'(by omega)):=List.getElem?_eq_getElem (by omega);rw [hmem] at uk;simp only [Bool.and_eq_true,Option.isNone_iff_eq_none] at uk;simp only [Region.lexB,Bool.and_eq_true] at Oz;have inv0:HeadInv .any l.toArray m (Array.replicate l.toArray.size false) :=
  ⟨by simp,fun j oj _ hl=>(by rw [getD_replicate_false] at hl;cases hl),fun t _ ht=>getD_in (by simpa using ht) (getD_replicate_false _ _)⟩
 refine wp_region_any hm (Lv (C:=fun w'=>∃n,w'=w.drewN n) hl hbk hsk hch (fun o ho=>by rw [hmem] at ho;cases ho;exact uk) _ _ _ _ ⟨1,rfl⟩ inv0 ?_);have hsplit:blankAt l m=l.take m++[fJ (l[m]'(by omega))]:=by unfold blankAt;rw [hmem];simp only;rw [List.set_eq_take_append_cons_drop,if_pos (by omega),List.drop_of_length_le (by omega)]
 have h1:wpQuiet P (blankAt l m).toArray (fun w'=>∃n,w'=w.drewN n) (fun a=>∀w',(∃n,w'=w.drewN n)→wpOp P l.toArray Q m (fun a w=>Q .normal a w) a w') (blankAt l m) a:=by
  refine qJ (vh l m) ?_;rw [hsplit];refine mH ?_;have hd:l.drop m=[l[m]'(by omega)]:=by rw [List.drop_eq_getElem_cons (by omega),List.drop_of_length_le (by omega)]
  rw [hd] at h;have hmono:∀ {Q Q':Act→Prop} (hq:∀a,Q a→Q' a) {l':List Oper} {a:Act},wpQuiet P l.toArray (fun w'=>∃n,w'=w.drewN n) Q l' a→wpQuiet P l.toArray (fun w'=>∃n,w'=w.drewN n) Q' l' a:=by
   intro Q Q' hq l'
   induction l' with
   | nil=>intro a h;exact hq a h
   | cons o l' ih =>
    intro a h;have h2:=h;unfold wpQuiet at h2;show (if _ then _ else _);split
    ·rename_i hw;rw [if_pos hw] at h2;exact Oper.quiet_mono (fun a h=>ih h) h2
    ·rename_i hw;rw [if_neg hw] at h2;exact ih h2
  refine hmono (fun a' hq=>?_) h;show (if _ then _ else _);have hwt:∀y,Region.wanted (fJ (l[m]'(by omega))) y=true:=fun y=>by unfold Region.wanted fJ;simp only [uk.1]
  rw [if_pos (hwt _)];refine ⟨undef,fun w' _=>?_,fun w' hw'=>?_⟩
  ·exact ⟨rfl,rfl⟩
  ·have hput:a'.put (fJ (l[m]'(by omega))).dst undef=a':=by unfold fJ;simp only [uk.2];rfl
   rw [hput];have h2:=hq w' hw';unfold wpOp;(have hma:l.toArray[m]? = some (l[m]'(by omega)):=by simp);rw [hma];simp only;exact h2
 have h2:=wpAnyQ_lex (C:=fun w'=>∃n,w'=w.drewN n) (md:=.any) Oz.1 (blankAt l m) 0 (Array.replicate (blankAt l m).toArray.size false) a (by simp) (by simpa using Oz.2) h1;have hlen:(blankAt l m).length=l.toArray.size:=by rw [← qG l m];simp
 rw [hlen,qG] at h2;exact h2
end
end
section
open Go.RowKit Go.Deep
section
variable {F:Fence} {n:Nat} {P:Program} {ops:Array Oper} {Q:Exit→Act→World→Prop} {md:Region.Mode} {S:World→Prop} {t:Nat}
structure YR (P:Program) (ops:Array Oper) (S:World→Prop) (o:Oper) (v:Value) (a:Act):Prop where
 want:Region.wanted o (yielded ops a.tmps)=true
 run:∀w,S w→(execOp a.eval o).run P w=.ok (.value v) w
 calm:∀w,o.about P w a.eval=none
def nG (ops:Array Oper):Bool:=ops.toList.all fun o=>match o.op with | .defer _=>false | _=>true
theorem Bp {ops:Array Oper} (h:nG ops=true) {i:Nat} {o:Oper} (hi:ops[i]? = some o) (r:Option Nat) (ρ:Operand→Value):Oper.semAt r ρ o=execOp ρ o:=by
 refine Oper.semAt_eq r ρ o fun c e=>?_;have h1:=List.all_eq_true.1 h o (List.mem_of_getElem? (by simpa using hi));rw [e] at h1;cases h1
theorem YR.step {i:Nat} {o:Oper} {v:Value} {a:Act} (hd:nG ops=true) (hi:ops[i]? = some o) (hy:YR P ops S o v a) {K:Act→World→Prop} {w:World} (hS:S w) (h:K (a.put o.dst v) w):wpOpIn F n P ops Q i K a w:=by
 unfold wpOpIn;simp only [hi];rw [if_pos hy.want];refine ⟨fun f hf=>(by rw [hy.calm w] at hf;cases hf),?_⟩;rw [Bp hd hi,hy.run w hS];exact h
theorem YR.swap {j:Nat} {oi oj:Oper} {v:Value} (hd:nG ops=true) (hj:ops[j]? = some oj) (hap:oi.apart ops oj=true) (hsi:∀cs b,oi.op≠.select cs b) (hsj:∀cs b,oj.op≠.select cs b)
  (hQ:∀c a w,Q (.panic c) (a.put oi.dst v) w→Q (.panic c) a w) {K:Act→World→Prop} {a:Act} {w:World} (hy:YR P ops S oi v a) (h:wpOpIn F n P ops Q j K (a.put oi.dst v) w) :
  wpOpIn F n P ops Q j (fun a' w'=>YR P ops S oi v a'∧K (a'.put oi.dst v) w') a w:=by
 obtain ⟨h1,h2,h3⟩:=Oper.apart_spec hap;have stays:∀(b:Act) u,YR P ops S oi v b→YR P ops S oi v (b.put oj.dst u):=fun b u hb =>
  ⟨by rw [wanted_put oi b oj.dst u h3];exact hb.want,fun w hS=>by rw [execOp_put oi hsi b oj.dst u h3];exact hb.run w hS,fun w=>by rw [about_put oi w b oj.dst u h3];exact hb.calm w⟩
 have comm:∀u,(a.put oi.dst v).put oj.dst u=(a.put oj.dst u).put oi.dst v:=fun u=>Act.put_comm a v u h2;unfold wpOpIn at h ⊢;simp only [hj] at h ⊢;rw [wanted_put oj a oi.dst v h1] at h;by_cases hw:Region.wanted oj (yielded ops a.tmps)=true
 ·rw [if_pos hw] at h ⊢
  obtain ⟨hb,hu⟩:=h;rw [about_put oj w a oi.dst v h1] at hb;rw [Bp hd hj,execOp_put oj hsj a oi.dst v h1] at hu;refine ⟨hb,?_⟩;rw [Bp hd hj];generalize (execOp a.eval oj).run P w=r at hu ⊢;rcases r with ⟨x,w'⟩ | ⟨x,w'⟩
  ·cases x with
   | value u=>exact ⟨stays a u hy,by rw [← comm];exact hu⟩
   | skip=>exact ⟨stays a undef hy,by rw [← comm];exact hu⟩
   | defer d =>
    refine ⟨stays { a with defers:=d::a.defers } undef ⟨hy.want,hy.run,hy.calm⟩,?_⟩;(have e:(({ a with defers:=d::a.defers }:Act).put oj.dst undef).put oi.dst v=({ (a.put oi.dst v) with defers:=d::(a.put oi.dst v).defers }:Act).put oj.dst undef:=by rw [← Act.put_comm _ v undef h2,← Act.put_defers]);rw [e];exact hu
   | enter f args =>
    refine ⟨hu.1,CallsIn.mono hu.2 fun e w'' he=>?_⟩;cases e with
    | returned u=>exact ⟨stays a u hy,by rw [← comm];exact he⟩
    | panicked c=>exact hQ _ _ _ he
    | outgrown=>exact he
   | row row args=>exact ⟨hu.1,RowsIn.mono hu.2 fun u w'' he=>⟨stays a u hy,by rw [← comm];exact he⟩⟩
   | round l f tmps assign body =>
    refine ⟨hu.1,RoundIn.mono hu.2 fun e w'' he=>?_⟩;cases e with
    | returned u=>exact ⟨stays a u hy,by rw [← comm];exact he⟩
    | panicked c=>exact hQ _ _ _ he
    | outgrown=>exact he
   | _=>exact hu
  ·cases x with
   | panic u=>exact hQ _ _ _ hu
   | _=>exact hu
 ·rw [if_neg hw] at h ⊢
  exact ⟨by rw [about_put oj w a oi.dst v h1] at h;exact h.1,stays a undef hy,by rw [← comm];exact h.2⟩
def bw (F:Fence) (n:Nat) (P:Program) (md:Region.Mode) (ops:Array Oper) (Q:Exit→Act→World→Prop) (S:World→Prop) (t:Nat):Nat→Array Bool→Act→World→Prop
 | 0,l,a,w=>Region.ready md ops l=[]∧Q .normal a w
 | m+1,l,a,w=>(Region.ready md ops l=[]→Q .normal a w) ∧
  ∀i∈Region.ready md ops l,wpOpIn F n P ops Q i (fun a' w'=>(gW t (l.setIfInBounds i true)→S w')∧bw F n P md ops Q S t m (l.setIfInBounds i true) a' w') a w
theorem bw.any:∀(m:Nat) (l:Array Bool) (a:Act) (w:World),bw F n P md ops Q S t m l a w→wpAnyIn F n P md ops Q m l a w
 | 0,_,_,_,h=>h
 | m+1,_,_,_,h=>⟨h.1,fun i hi=>wpOpIn_mono (fun a' w' h'=>bw.any m _ a' w' h'.2) (h.2 i hi)⟩
theorem bw.first {i:Nat} {oi:Oper} {v:Value} (hd:nG ops=true) (hi:ops[i]? = some oi) (hsel:∀(j:Nat) (o:Oper) cs b,ops[j]? = some o→o.op≠.select cs b)
  (hQ:∀c a w,Q (.panic c) (a.put oi.dst v) w→Q (.panic c) a w):∀(m:Nat) (l:Array Bool) (a:Act) (w:World),
   (∀j oj,ops[j]? = some oj→j≠i→l.getD j true=false→(∀e∈oj.after,Region.binds md e=true→e.on≠i)→oi.apart ops oj=true) →
   i∈Region.ready md ops l→waitsB t md ops l i=true→YR P ops S oi v a→S w→bw F n P md ops Q S t m (l.setIfInBounds i true) (a.put oi.dst v) w→bw F n P md ops Q S t (m+1) l a w:=by
 intro m
 induction m with
 | zero =>
  intro l a w _ hr _ hy hS H;refine ⟨fun h=>absurd hr (by rw [h];simp),fun j hj=>?_⟩;by_cases hji:j=i
  ·subst hji;exact hy.step hd hi hS ⟨fun _=>hS,H⟩
  ·exact absurd (ready_mono hj hji) (by rw [H.1];simp)
 | succ m ih =>
  intro l a w hfree hr hwt hy hS H;refine ⟨fun h=>absurd hr (by rw [h];simp),fun j hj=>?_⟩;by_cases hji:j=i
  ·subst hji;exact hy.step hd hi hS ⟨fun _=>hS,H⟩
  ·have hun:=(mem_ready.1 hr).1
   obtain ⟨qE,oj,j8,hall⟩:=mem_ready.1 hj;have hnot:∀e∈oj.after,Region.binds md e=true→e.on≠i:=fun e he hb heq=>by
    have h1:=hall e he hb;rw [heq] at h1;by_cases h':i<l.size
    ·simp [h'] at hun h1;rw [hun] at h1;cases h1
    ·simp [h'] at h1
   have h2:=hy.swap hd j8 (hfree j oj j8 hji qE hnot) (fun cs b=>hsel i oi cs b hi) (fun cs b=>hsel j oj cs b j8) hQ (H.2 j (ready_mono hj hji));have hir:i∈Region.ready md ops (l.setIfInBounds j true):=ready_mono hr (Ne.symm hji);refine wpOpIn_mono (fun a' w' h3=>?_) h2;have qF:∀k ok,ops[k]? = some ok→k≠i→(l.setIfInBounds j true).getD k true=false→(∀e∈ok.after,Region.binds md e=true→e.on≠i)→oi.apart ops ok=true:=fun k ok hk hki wL hno=>by
    refine hfree k ok hk hki ?_ hno;by_cases hjk:j=k
    ·rw [← hjk];exact qE
    ·rw [getD_set_ne true hjk] at wL;exact wL
   have hcm:(l.setIfInBounds i true).setIfInBounds j true=(l.setIfInBounds j true).setIfInBounds i true:=Array.setIfInBounds_comm _ _ (Ne.symm hji);obtain ⟨k,fK,hk⟩:=List.any_eq_true.1 hwt;have fK:=List.mem_range.1 fK;simp only [Bool.and_eq_true,Bool.not_eq_true'] at hk;obtain ⟨hk1,hk2⟩:=hk;obtain ⟨ok',Lx⟩:∃o,ops[k]? = some o:=by
    cases h:ops[k]? with
    | none=>rw [h] at hk2;cases hk2
    | some o=>exact ⟨o,rfl⟩
   rw [Lx] at hk2;obtain ⟨x,hx,e,Lj⟩:=(by simpa using Array.any_eq_true.1 hk2:∃x,∃(hx:x<ok'.after.size),Region.binds md ok'.after[x]=true∧ok'.after[x].on=i);have hkj:k≠j:=fun e2=>by subst e2;rw [Lx] at j8;injection j8 with j8;refine hnot ok'.after[x] ?_ e Lj;rw [← j8];exact Array.getElem_mem hx
   have hki:k≠i:=fun e2=>by
    subst e2;obtain ⟨_,o3,wM,h4⟩:=mem_ready.1 hr;rw [Lx] at wM;injection wM with wM;have h5:=h4 ok'.after[x] (by rw [← wM];exact Array.getElem_mem hx) e;rw [Lj] at h5;by_cases h':k<l.size
    ·simp [h'] at hun h5;rw [hun] at h5;cases h5
    ·simp [h'] at h5
   have Ll:S w':=h3.2.1 ⟨k,fK,by rw [getD_set_ne true (Ne.symm hkj),getD_set_ne true (Ne.symm hki)];exact hk1⟩
   have Ol:waitsB t md ops (l.setIfInBounds j true) i=true:=List.any_eq_true.2 ⟨k,List.mem_range.2 fK,by
    rw [getD_set_ne true (Ne.symm hkj),hk1,Lx];simpa using hk2⟩
   exact ⟨fun _=>Ll,ih _ a' w' qF hir Ol h3.1 Ll (by rw [← hcm];exact h3.2.2)⟩
theorem bw.JL {i:Nat} {oi:Oper} {v:Value} (hti:t≤i) (hd:nG ops=true) (hi:ops[i]? = some oi) (hsel:∀(j:Nat) (o:Oper) cs b,ops[j]? = some o→o.op≠.select cs b)
  (hQ:∀c a w,Q (.panic c) (a.put oi.dst v) w→Q (.panic c) a w):∀(m:Nat) (l:Array Bool) (a:Act) (w:World),
   (∀j oj,ops[j]? = some oj→j≠i→l.getD j true=false→(∀e∈oj.after,Region.binds md e=true→e.on≠i)→oi.apart ops oj=true) →
   i∈Region.ready md ops l→YR P ops (fun _=>True) oi v a→(gW t (l.setIfInBounds i true)→S w)→bw F n P md ops Q S t m (l.setIfInBounds i true) (a.put oi.dst v) w→bw F n P md ops Q S t (m+1) l a w:=by
 intro m
 induction m with
 | zero =>
  intro l a w _ hr hy hS H;refine ⟨fun h=>absurd hr (by rw [h];simp),fun j hj=>?_⟩;by_cases hji:j=i
  ·subst hji;exact hy.step hd hi trivial ⟨hS,H⟩
  ·exact absurd (ready_mono hj hji) (by rw [H.1];simp)
 | succ m ih =>
  intro l a w hfree hr hy hS H;refine ⟨fun h=>absurd hr (by rw [h];simp),fun j hj=>?_⟩;by_cases hji:j=i
  ·subst hji;exact hy.step hd hi trivial ⟨hS,H⟩
  ·have hun:=(mem_ready.1 hr).1
   obtain ⟨qE,oj,j8,hall⟩:=mem_ready.1 hj;have hnot:∀e∈oj.after,Region.binds md e=true→e.on≠i:=fun e he hb heq=>by
    have h1:=hall e he hb;rw [heq] at h1;by_cases h':i<l.size
    ·simp [h'] at hun h1;rw [hun] at h1;cases h1
    ·simp [h'] at h1
   have h2:=hy.swap hd j8 (hfree j oj j8 hji qE hnot) (fun cs b=>hsel i oi cs b hi) (fun cs b=>hsel j oj cs b j8) hQ (H.2 j (ready_mono hj hji));have hir:i∈Region.ready md ops (l.setIfInBounds j true):=ready_mono hr (Ne.symm hji);refine wpOpIn_mono (fun a' w' h3=>?_) h2;have qF:∀k ok,ops[k]? = some ok→k≠i→(l.setIfInBounds j true).getD k true=false→(∀e∈ok.after,Region.binds md e=true→e.on≠i)→oi.apart ops ok=true:=fun k ok hk hki wL hno=>by
    refine hfree k ok hk hki ?_ hno;by_cases hjk:j=k
    ·rw [← hjk];exact qE
    ·rw [getD_set_ne true hjk] at wL;exact wL
   have hcm:(l.setIfInBounds i true).setIfInBounds j true=(l.setIfInBounds j true).setIfInBounds i true:=Array.setIfInBounds_comm _ _ (Ne.symm hji)
   have hmo:gW t (l.setIfInBounds j true)→S w':=fun ⟨k,hk,fK⟩=>h3.2.1 ⟨k,hk,by
    rw [hcm,getD_set_ne true (by omega)];exact fK⟩
   refine ⟨hmo,ih _ a' w' qF hir h3.1 (fun ⟨k,hk,fK⟩=>hmo ⟨k,hk,?_⟩) (by rw [← hcm];exact h3.2.2)⟩;rw [getD_set_ne true (by omega)] at fK;exact fK
theorem bw.free {i:Nat} {oi:Oper} {v:Value} {m:Nat} {l:Array Bool} {a:Act} {w:World} (gP:ops.toList[i]? = some oi)
  (hc:(decide (t≤i)&&nG ops&&Region.noSelect ops&&Region.free md ops l i&&(Region.ready md ops l).contains i)=true)
  (hQ:∀c a w,Q (.panic c) (a.put oi.dst v) w→Q (.panic c) a w) (hg:Region.wanted oi (yielded ops a.tmps)=true) (hb:∀w,oi.about P w a.eval=none) (hy:∀w,(execOp a.eval oi).run P w=.ok (.value v) w) (hS:gW t (l.setIfInBounds i true)→S w)
  (h:bw F n P md ops Q S t m (l.setIfInBounds i true) (a.put oi.dst v) w):bw F n P md ops Q S t (m+1) l a w:=by
 have hi:ops[i]? = some oi:=by rw [← Array.getElem?_toList];exact gP
 simp only [Bool.and_eq_true,decide_eq_true_eq] at hc;obtain ⟨⟨⟨⟨h0,h4⟩,h1⟩,h2⟩,h3⟩:=hc;exact bw.JL h0 h4 hi (Region.noSelect_spec h1) hQ m l a w (Region.free_spec hi h2) (by simpa using h3) ⟨hg,fun w _=>hy w,hb⟩ hS h
theorem bw.take {i:Nat} {oi:Oper} {v:Value} {m:Nat} {l:Array Bool} {a:Act} {w:World} (gP:ops.toList[i]? = some oi)
  (hc:(nG ops&&Region.noSelect ops&&Region.free md ops l i&&(Region.ready md ops l).contains i&&waitsB t md ops l i)=true)
  (hQ:∀c a w,Q (.panic c) (a.put oi.dst v) w→Q (.panic c) a w) (hg:Region.wanted oi (yielded ops a.tmps)=true) (hb:∀w,oi.about P w a.eval=none) (hy:∀w,S w→(execOp a.eval oi).run P w=.ok (.value v) w) (hS:S w)
  (h:bw F n P md ops Q S t m (l.setIfInBounds i true) (a.put oi.dst v) w):bw F n P md ops Q S t (m+1) l a w:=by
 have hi:ops[i]? = some oi:=by rw [← Array.getElem?_toList];exact gP
 simp only [Bool.and_eq_true] at hc;obtain ⟨⟨⟨⟨h0,h1⟩,h2⟩,h3⟩,h4⟩:=hc;exact bw.first h0 hi (Region.noSelect_spec h1) hQ m l a w (Region.free_spec hi h2) (by simpa using h3) h4 ⟨hg,hy,hb⟩ hS h
theorem bw.step {i:Nat} {oi:Oper} {m:Nat} {l:Array Bool} {a:Act} {w:World} (gP:ops.toList[i]? = some oi) (hr:Region.ready md ops l=[i])
  (h:∀K':Act→World→Prop,Shut (∀a w,(gW t (l.setIfInBounds i true)→S w)→((gW t (l.setIfInBounds i true)→S w)→bw F n P md ops Q S t m (l.setIfInBounds i true) a w)→K' a w)→if Region.wanted oi (yielded ops a.tmps)=true then Oper.wpIn F n P oi a w K' Q else (∀f,oi.about P w a.eval=some f→F.fn f)∧K' (a.put oi.dst undef) w) :
  bw F n P md ops Q S t (m+1) l a w :=
 ⟨fun h0=>absurd (h0.symm.trans hr) (by simp),fun j hj=>by
  rw [hr] at hj
  obtain rfl:j=i:=by simpa using hj
  exact wpOpIn_step (by rw [← Array.getElem?_toList];exact gP) fun K' hK=>h K' fun a w hS hW=>hK a w ⟨hS,hW hS⟩⟩
theorem bw.xU {i i2:Nat} {oi yz:Oper} {m:Nat} {l:Array Bool} {a:Act} {w:World} (gP:ops.toList[i]? = some oi) (Om:ops.toList[i2]? = some yz) (hr:Region.ready md ops l=[i,i2])
  (h:∀K':Act→World→Prop,Shut (∀a w,(gW t (l.setIfInBounds i true)→S w)→((gW t (l.setIfInBounds i true)→S w)→bw F n P md ops Q S t m (l.setIfInBounds i true) a w)→K' a w)→if Region.wanted oi (yielded ops a.tmps)=true then Oper.wpIn F n P oi a w K' Q else (∀f,oi.about P w a.eval=some f→F.fn f)∧K' (a.put oi.dst undef) w)
  (h2:∀K':Act→World→Prop,Shut (∀a w,(gW t (l.setIfInBounds i2 true)→S w)→((gW t (l.setIfInBounds i2 true)→S w)→bw F n P md ops Q S t m (l.setIfInBounds i2 true) a w)→K' a w)→if Region.wanted yz (yielded ops a.tmps)=true then Oper.wpIn F n P yz a w K' Q else (∀f,yz.about P w a.eval=some f→F.fn f)∧K' (a.put yz.dst undef) w) :
  bw F n P md ops Q S t (m+1) l a w :=
 ⟨fun h0=>absurd (h0.symm.trans hr) (by simp),fun j hj=>by
  rw [hr] at hj
  rcases List.mem_cons.1 hj with rfl | hj
  ·exact wpOpIn_step (by rw [← Array.getElem?_toList];exact gP) fun K' hK=>h K' fun a w hS hW=>hK a w ⟨hS,hW hS⟩
  ·obtain rfl:j=i2:=by simpa using hj
   exact wpOpIn_step (by rw [← Array.getElem?_toList];exact Om) fun K' hK=>h2 K' fun a w hS hW=>hK a w ⟨hS,hW hS⟩⟩
theorem bw.done {l:Array Bool} {a:Act} {w:World} {m:Nat} (hr:Region.ready md ops l=[]) (h:Q .normal a w):bw F n P md ops Q S t m l a w:=by
 cases m with
 | zero=>exact ⟨hr,h⟩
 | succ m=>exact ⟨fun _=>h,fun j hj=>(by rw [hr] at hj;cases hj)⟩
theorem OA {id:Nat} {a:Act} {w:World} (hm:P.follows .mixedOrders=true) (t:Nat) (S:World→Prop) (hS:S w.drew)
  (h:S w.drew→bw F n P .any ops Q S t ops.size (Array.replicate ops.size false) a w.drew):(Code.region id ops true).wpIn F n P Q a w:=wpIn_region_any hm (bw.any _ _ _ _ (h hS))
end
end
end Go.Proofs.YthgabkgmkolobaaGreat
