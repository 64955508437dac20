/- The contract of phylotree.below: an iterator over the nodes below a node, depth first, .. -/
import Derived.RangeFuncKeeps
import Derived.Laws.EntriesVeiled
import Derived.OrdersIn
import Derived.Test.YthgabkgmkolobaaGreatQ7
set_option maxRecDepth 100000
set_option maxHeartbeats 2000000
namespace Go.Proofs.YthgabkgmkolobaaGreat
section
open Go.RowKit Go.Shelf Go.Deep
attribute [local go_sem] y5
def FI (F:ct):Nat->Nat->Option Nat->List (Nat×Option Nat)
 | 0,i,p=>[(i,p)]
 | d+1,i,p=>(i,p)::(F.kids i).flatMap fun k=>FI F d k (some i)
def iW (F:ct) (rk:Nat->Nat) (i:Nat) (p:Option Nat):List (Nat×Option Nat):=FI F (rk i) i p
theorem nO {α β:Type} {f g:α->List β}:∀ {l:List α},(∀x∈l,f x=g x)->l.flatMap f=l.flatMap g
 | [],_=>rfl
 | x::l,h=>by rw [gU,gU,h x (by simp),nO fun y hy=>h y (by simp [hy])]
theorem Qw {F:ct} {n:Nat} {rk:Nat->Nat} (h:Wf F n rk):∀ {d e i:Nat} {p:Option Nat},i<n->rk i<=d->rk i<=e->FI F d i p=FI F e i p:=by
 intro d
 induction d with
 | zero =>
  intro e i p hi hd he;have hk:F.kids i=[]:=by
   cases hk:F.kids i with
   | nil=>rfl
   | cons k l=>have:=(h.kid i hi k (by rw [hk];simp)).2;omega
  cases e with
  | zero=>rfl
  | succ e=>simp [FI,hk]
 | succ d ih =>
  intro e i p hi hd he;cases e with
  | zero =>
   have hk:F.kids i=[]:=by
    cases hk:F.kids i with
    | nil=>rfl
    | cons k l=>have:=(h.kid i hi k (by rw [hk];simp)).2;omega
   simp [FI,hk]
  | succ e =>
   simp only [FI];congr 1;exact nO fun k hk=>by have:=h.kid i hi k hk;exact ih this.1 (by omega) (by omega)
theorem mI {F:ct} {n:Nat} {rk:Nat->Nat} (h:Wf F n rk) {i:Nat} (hi:i<n) (p:Option Nat):iW F rk i p=(i,p)::(F.kids i).flatMap fun k=>iW F rk k (some i):=by
 have h1:iW F rk i p=FI F (rk i+1) i p:=Qw h hi (af _) (lz _);rw [h1];simp only [FI];congr 1;exact nO fun k hk=>by have:=h.kid i hi k hk;exact Qw h this.1 (by omega) (af _)
abbrev uh (n:Nat):={ x:Nat×Option Nat // x.1<n/\∀p,x.2=some p->p<n }
def eY {n:Nat} (l:List (uh n)):List (Nat×Option Nat):=l.map Subtype.val
theorem Ew {n:Nat} (l m:List (uh n)):eY (l++m)=eY l++eY m:=by simp [eY]
def O6 (A:Nat->Nat):Option Nat->Value
 | none=>.pointer none
 | some p=>.pointer (some ⟨A p,0,none⟩)
def O7 (A:Nat->Nat) {n:Nat} (x:uh n):Array Value:=#[.pointer (some ⟨A x.1.1,0,none⟩),O6 A x.1.2]
def KN (T:Nat->Prop) (w w':World):Prop:=KS T w w'/\∀(b:Nat) (c:Array Value) (z:Nat×Nat),w.heap[b]? = some (Obj.cells c 258 z)->w'.heap[b]? = w.heap[b]?
theorem KN.trans {T:Nat->Prop} {a b c:World} (h:KN T a b) (k:KN T b c):KN T a c:=⟨h.1.trans k.1,fun i x z hi=>(k.2 i x z ((h.2 i x z hi).trans hi)).trans (h.2 i x z hi)⟩
def wX (w:World) (b:Nat) (v:Value):Prop:=w.heap[b]? = some (Obj.cells #[v] 258 (0,0))
theorem wX.keep {T:Nat->Prop} {w w':World} {b:Nat} {v:Value} (h:wX w b v) (k:KN T w w'):wX w' b v:=(k.2 b _ _ h).trans h
theorem wX.cell {w:World} {b:Nat} {v:Value} (h:wX w b v):w.cell? ⟨b,0,none⟩=some v:=by
 have h:w.heap[b]? = _:=h;simp [World.cell?,h]
theorem cU.keepKN {base n:Nat} {A:Nat->Nat} {kv:Nat->Value} {F:ct} {T:Nat->Prop} {w w':World} (h:cU base n A kv F w) (k:KN T w w') (hA:∀i,i<n->T (A i)) (hk:∀i b,i<n->(kv i).ownBlock=some b->T b):cU base n A kv F w' :=
 h.same (fun i hi=>k.1 _ (hA i hi)) (fun i b hi hb=>k.1 b (hk i b hi hb))
section
variable {n base:Nat} {A:Nat->Nat} {kv:Nat->Value} {F:ct} {rk:Nat->Nat} {T:Nat->Prop}
def EachPost (T:Nat->Prop) (J Jx:List (uh n)->World->Prop) (pre:List (uh n)) (full:List (Nat×Option Nat)) (W:World) (e:Ending) (W':World):Prop :=
 (e=.returned (.bool true)/\∃xs,eY xs=full/\J (pre++xs) W'/\KN T W W')\/(e=.returned (.bool false)/\∃q,eY q <+: full/\Jx (pre++q) W')
theorem SK {α β:Type} (f:α->List β) (l:List α) {k:Nat} {c:α} (h:l[k]? = some c):((l.take k).flatMap f).length+(f c).length<=(l.flatMap f).length:=by
 have h1:l=l.take (k+1)++l.drop (k+1):=(wR _ _).symm;have h2:(l.flatMap f).length=((l.take (k+1)).flatMap f).length+((l.drop (k+1)).flatMap f).length:=by
  conv=>lhs;rw [h1]
  rw [sF,aZ]
 rw [h2,List.take_add_one,h,sF,aZ];simp
theorem Qx {α β:Type} (f:α->List β) (l:List α) {k:Nat} {c:α} (h:l[k]? = some c):(l.take (k+1)).flatMap f=(l.take k).flatMap f++f c:=by
 rw [List.take_add_one,h,sF];simp
theorem LI {α β:Type} (f:α->List β) (l:List α) {k:Nat} {c:α} (h:l[k]? = some c) {q:List β} (hq:q <+: f c):(l.take k).flatMap f++q <+: l.flatMap f:=by
 have h1:l=l.take (k+1)++l.drop (k+1):=(wR _ _).symm;have h2:l.flatMap f=(l.take (k+1)).flatMap f++(l.drop (k+1)).flatMap f:=by
  conv=>lhs;rw [h1]
  rw [sF]
 rw [h2,Qx f l h,dN];exact (List.prefix_append_right_inj _).2 (hq.trans (List.prefix_append _ _))
theorem FJ {e:Ending} {X Y:Prop} (h:(e=.returned (.bool true)/\X)\/(e=.returned (.bool false)/\Y)):∃bb,e=.returned (.bool bb)/\Hid ((bb=true/\X)\/(bb=false/\Y)):=by
 rcases h with ⟨h1,h2⟩ | ⟨h1,h2⟩
 ·exact ⟨true,h1,.inl ⟨rfl,h2⟩⟩
 ·exact ⟨false,h1,.inr ⟨rfl,h2⟩⟩
def TG (n base:Nat) (A:Nat->Nat) (kv:Nat->Value) (F:ct) (rk:Nat->Nat) (T:Nat->Prop) (l Bq Be N:Nat) (J Jx:List (uh n)->World->Prop) (i:Nat):Prop :=
 ∀(par:Option Nat) (m:Nat) (pre:List (uh n)) (W:World),(∀p,par=some p->p<n)->cU base n A kv F W->wX W Bq (.func (.yield l) #[] #[])->wX W Be (.func (.func 260) #[] #[.pointer (some ⟨Bq,0,none⟩),.pointer (some ⟨Be,0,none⟩)]) ->
   J pre W->pre.length+(iW F rk i par).length<=N ->
   CallsIn Fence.wide m Tryz.prog 260 #[.pointer (some ⟨A i,0,none⟩),O6 A par,.pointer (some ⟨Bq,0,none⟩),.pointer (some ⟨Be,0,none⟩)] W (EachPost T J Jx pre (iW F rk i par) W)
theorem Qy (hwf:Wf F n rk) (hlen:∀i,i<n->(F.kids i).length<=1000) (hA:∀i,i<n->T (A i)) (hk:∀i b,i<n->(kv i).ownBlock=some b->T b) (l Bq Be N:Nat) (J Jx:List (uh n)->World->Prop)
  (hY:∀m pre x W,J pre W->pre.length<N->YieldAt Fence.wide m Tryz.prog l (O7 A x) W fun e W'=>(e=.returned (.bool true)/\J (pre++[x]) W'/\KN T W W')\/(e=.returned (.bool false)/\Jx (pre++[x]) W'))
  {i:Nat} (hi:i<n) (ih:∀c∈F.kids i,TG n base A kv F rk T l Bq Be N J Jx c):TG n base A kv F rk T l Bq Be N J Jx i:=by
 intro par m pre W hpar hF hq he hJ hN;obtain ⟨fn,tmps,assign,body,hy,hR⟩:=hY (m - 1) pre ⟨(i,par),hi,hpar⟩ W hJ (by rw [mI hwf hi] at hN;simp at hN;omega);simp only [O7] at hy;have hqc:=hq.cell;have HQ:=aa hq;have HE:=aa he;have HF:=aa hF;have HN:=aa hN;have qu:=aa ih;have TH:=aa hwf;have ue:=hlen i hi;have HKEEP:Hid (∀W',KN T W W'->cU base n A kv F W'):=fun W' k=>hF.keepKN k hA hk;clear hJ hq he hF hN ih hwf hlen hA hk;refine callsIn_of_wp Tryz.func260 rfl trivial ?_ rfl
 simp only [Tryz.ntmps260,eW,aT,dO,Nat.reduceAdd,Nat.reduceSub,ji,jk,eV,ve,cH,cr];gi_wp2;refine ⟨fun h=>(by cases h),?_⟩;refine hR.mono ?_;rintro e W1 dD;obtain ⟨bb,rfl,hq⟩:=FJ dD;clear dD hR;cases bb
 ·gi_wp2
  go_ret;have h2:Jx (pre++[⟨(i,par),hi,hpar⟩]) W1:=by
   rcases hq.out with ⟨h1,_⟩ | ⟨_,h2⟩
   ·cases h1
   ·exact h2
  exact .inr ⟨rfl,[⟨(i,par),hi,hpar⟩],⟨_,by rw [mI TH.out hi];rfl⟩,h2⟩
 ·have y6:J (pre++[⟨(i,par),hi,hpar⟩]) W1/\KN T W W1:=by
   rcases hq.out with ⟨_,h2⟩ | ⟨h1,_⟩
   ·exact h2
   ·cases h1
  obtain ⟨hJ1,hk1⟩:=y6
  have Qz:=HKEEP.out W1 hk1
  have hown:=Qz.own i hi
  obtain ⟨q,cap,hv,hqq⟩:=hown.form (n:=(F.kids i).length) (by simp)
  have hkc:=Qz.zB hi
  rw [hv] at hkc
  have HV:=aa hv
  have HQQ:=aa hqq
  have FH:Hid ((F.kids i).length=0\/∃g,q=some ⟨g,0,none⟩):=by
   rcases hqq with rfl | h
   ·obtain ⟨_,h | ⟨g,_,_,h,_⟩⟩:=hown
    ·left;have:=h.2;rw [aG] at this;exact this
    ·rw [hv] at h;cases h
   ·exact .inr h
  have HJ1:=aa hJ1
  have Nr:=aa hk1
  clear hqc hq Qz hown hv hqq hJ1 hk1
  gi_wp2
  gi_loopw [19] (fun i' wr=>∃(k:Nat) (done:List (uh n)),k<=(F.kids i).length/\i'=.int .i64 k/\Hid (eY done=((F.kids i).take k).flatMap fun c=>iW F rk c (some i))/\Hid (J (pre++[⟨(i,par),hi,hpar⟩]++done) wr)/\Hid (KN T W wr)) (fun i' _=>(F.kids i).length - (intOf i').toNat)
  case atStart=>exact ⟨0,[],aL _,rfl,rfl,by unfold Hid;rw [gN];exact HJ1.out,Nr⟩
  case round =>
   obtain ⟨k,done,hk,rfl,hD,hJr,hKr⟩:=hrel
   by_cases hlt:k<(F.kids i).length
   ·obtain ⟨g,rfl⟩:∃g,q=some ⟨g,0,none⟩:=by
     rcases FH.out with h | h
     ·omega
     ·exact h
    have hc:(F.kids i)[k]? = some (F.kids i)[k]:=iQ hlt
    have hFr:=HKEEP.out wr hKr.out
    have hrow:=hFr.SZ (j:=k) (c:=(F.kids i)[k]) hi HV.out hc
    have heb:=(HE.out.keep hKr.out).cell
    have hdl:done.length=(((F.kids i).take k).flatMap fun c=>iW F rk c (some i)).length:=by rw [<- hD.out];simp [eY]
    have yH:=qu.out (F.kids i)[k] (lg hlt) (some i) (m - 1) (pre++[⟨(i,par),hi,hpar⟩]++done) wr (fun p hp=>by cases hp;exact hi) hFr (HQ.out.keep hKr.out) (HE.out.keep hKr.out) hJr.out (by
     have h1:=SK (fun c=>iW F rk c (some i)) (F.kids i) hc
     have h2:=HN.out
     rw [mI TH.out hi] at h2
     simp only [aZ,aT,dO] at h2 ⊢
     omega)
    simp only [O6] at yH
    have jq:=aa yH
    have HC:=aa hc
    have jt:Hid ((F.kids i)[k]<n):=(TH.out.kid i hi _ (lg hlt)).1
    clear hc hFr yH hdl
    generalize (F.kids i)[k]=c at *
    gi_wp2
    refine ⟨trivial,fun h=>(by cases h),?_⟩
    refine jq.out.mono ?_
    rintro e W3 dD
    obtain ⟨bb,rfl,hq⟩:=FJ dD
    clear dD jq
    cases bb
    ·gi_wp2
     go_ret
     obtain ⟨qs,hqs,hx⟩:∃qs,eY qs <+: iW F rk c (some i)/\Jx (pre++[⟨(i,par),hi,hpar⟩]++done++qs) W3:=by
      rcases hq.out with ⟨h1,_⟩ | ⟨_,h2⟩
      ·cases h1
      ·exact h2
     refine .inr ⟨rfl,⟨(i,par),hi,hpar⟩::(done++qs),?_,by simpa using hx⟩
     rw [mI TH.out hi,show eY (⟨(i,par),hi,hpar⟩::(done++qs))=(i,par)::eY (done++qs) from rfl,Ew,hD.out]
     exact (List.prefix_cons_inj _).2 (LI _ _ HC.out hqs)
    ·obtain ⟨xs,hxs,hJ3,hK3⟩:∃xs,eY xs=iW F rk c (some i)/\J (pre++[⟨(i,par),hi,hpar⟩]++done++xs) W3/\KN T wr W3:=by
      rcases hq.out with ⟨_,h2⟩ | ⟨h1,_⟩
      ·exact h2
      ·cases h1
     have HJ3:Hid (J (pre++[⟨(i,par),hi,hpar⟩]++(done++xs)) W3):=by unfold Hid;rw [<- dN];exact hJ3
     have HD3:Hid (eY (done++xs)=((F.kids i).take (k+1)).flatMap fun c=>iW F rk c (some i)):=by unfold Hid;rw [Ew,hD.out,hxs,Qx _ _ HC.out]
     have TI:Hid (KN T W W3):=hKr.out.trans hK3
     clear hq hxs hJ3 hK3
     gi_wp2
     go_roundw
     case rel=>exact ⟨k+1,done++xs,by omega,by go_num,HD3,HJ3,TI⟩
     case measure=>simp [intOf];omega
   ·gi_wp2
    go_ret
    obtain rfl:k=(F.kids i).length:=by omega
    refine .inl ⟨rfl,⟨(i,par),hi,hpar⟩::done,?_,by simpa using hJr.out,hKr.out⟩
    rw [mI TH.out hi,show eY (⟨(i,par),hi,hpar⟩::done)=(i,par)::eY done from rfl,hD.out,gh]
theorem each_in (hwf:Wf F n rk) (hlen:∀i,i<n->(F.kids i).length<=1000) (hA:∀i,i<n->T (A i)) (hk:∀i b,i<n->(kv i).ownBlock=some b->T b) (l Bq Be N:Nat) (J Jx:List (uh n)->World->Prop)
  (hY:∀m pre x W,J pre W->pre.length<N->YieldAt Fence.wide m Tryz.prog l (O7 A x) W fun e W'=>(e=.returned (.bool true)/\J (pre++[x]) W'/\KN T W W')\/(e=.returned (.bool false)/\Jx (pre++[x]) W')) :
  ∀(d i:Nat),i<n->rk i<=d->TG n base A kv F rk T l Bq Be N J Jx i:=by
 intro d
 induction d with
 | zero=>exact fun i hi Kz=>Qy hwf hlen hA hk l Bq Be N J Jx hY hi fun c hc=>absurd (hwf.kid i hi c hc).2 (by omega)
 | succ d ih=>exact fun i hi Kz=>Qy hwf hlen hA hk l Bq Be N J Jx hY hi fun c hc=>ih c (hwf.kid i hi c hc).1 (by have:=(hwf.kid i hi c hc).2;omega)
theorem TJ {F:Fence} (hd:F.depth=none) (k:Nat):F.room k:=fun d h=>by rw [hd] at h;cases h
theorem YieldAt.TK {F:Fence} (hd:F.depth=none) {m:Nat} (m':Nat) {P:Program} {l:Nat} {args:Array Value} {W:World} {R:Ending->World->Prop} (h:YieldAt F m P l args W R):YieldAt F m' P l args W R:=by
 obtain ⟨fn,tmps,assign,body,hy,hR⟩:=h;exact ⟨fn,tmps,assign,body,hy,hR.1,fun c cs _=>hR.2 c cs (TJ hd _)⟩
theorem below1_in (hwf:Wf F n rk) (hlen:∀i,i<n->(F.kids i).length<=1000) (hA:∀i,i<n->T (A i)) (hk:∀i b,i<n->(kv i).ownBlock=some b->T b) (m l Bx i:Nat) (hi:i<n) (J Jx:List (uh n)->World->Prop)
  (hY:∀pre x W,J pre W->pre.length<(iW F rk i none).length->YieldAt Fence.wide (m - 1) Tryz.prog l (O7 A x) W fun e W'=>(e=.returned (.bool true)/\J (pre++[x]) W'/\KN T W W')\/(e=.returned (.bool false)/\Jx (pre++[x]) W'))
  (W:World) (Qi:AbidesFrom W.heap.size J) (hF:cU base n A kv F W) (hx:W.cell? ⟨Bx,0,none⟩=some (.pointer (some ⟨A i,0,none⟩))) (hJ:J [] W) :
  CallsIn Fence.wide m Tryz.prog 259 #[.func (.yield l) #[] #[],.pointer (some ⟨Bx,0,none⟩)] W fun e W'=>(∃v,e=.returned v) /\
   ((∃xs,eY xs=iW F rk i none/\J xs W')\/(∃q,eY q <+: iW F rk i none/\Jx q W')):=by
 have aK:Up W ((W.alloc (.cells #[.func (.yield l) #[] #[]] 258)).alloc (.cells #[.nilFunc] 258)):=(Up.alloc _ _).trans (Up.alloc _ _);have hnew:=blk_alloc_new (W.alloc (.cells #[.func (.yield l) #[] #[]] 258)) (.cells #[.nilFunc] 258);rw [aQ] at hnew;have y6:((W.alloc (.cells #[.func (.yield l) #[] #[]] 258)).alloc (.cells #[.nilFunc] 258)).heap[W.heap.size]? = some (.cells #[.func (.yield l) #[] #[]] 258 (0,0)):=by rw [blk_alloc_lt _ _ _ (by simp)];exact blk_alloc_new _ _
 have hxc:=aK.cell hx;generalize hW2:(W.alloc (.cells #[.func (.yield l) #[] #[]] 258)).alloc (.cells #[.nilFunc] 258)=W2 at *;have jt:W2.cell? ⟨W.heap.size+1,0,none⟩=some .nilFunc:=by simp [World.cell?,hnew]
 have hfn:W2.frozen? ⟨W.heap.size+1,0,none⟩=false:=by simp [World.frozen?,hnew]
 have dQ:Up W (W2.setCell ⟨W.heap.size+1,0,none⟩ (.func (.func 260) #[] #[.pointer (some ⟨W.heap.size,0,none⟩),.pointer (some ⟨W.heap.size+1,0,none⟩)])):=yC aK (p:=⟨W.heap.size+1,0,none⟩) (lz _) _;have hJ2:=Qi [] W _ none hJ (⟨dQ.os,dQ.tape,dQ.output,dQ.size,fun j hj _=>bI dQ j hj⟩:W.grownBy _ none) (fun r e=>by cases e)
 have hq:wX (W2.setCell ⟨W.heap.size+1,0,none⟩ (.func (.func 260) #[] #[.pointer (some ⟨W.heap.size,0,none⟩),.pointer (some ⟨W.heap.size+1,0,none⟩)])) W.heap.size (.func (.yield l) #[] #[]):=by unfold wX;rw [blk_setCell_other _ _ _ _ (by show W.heap.size≠W.heap.size+1;omega)];exact y6
 have he:wX (W2.setCell ⟨W.heap.size+1,0,none⟩ (.func (.func 260) #[] #[.pointer (some ⟨W.heap.size,0,none⟩),.pointer (some ⟨W.heap.size+1,0,none⟩)])) (W.heap.size+1) (.func (.func 260) #[] #[.pointer (some ⟨W.heap.size,0,none⟩),.pointer (some ⟨W.heap.size+1,0,none⟩)]):=by unfold wX;simp [World.setCell,Array.getElem?_modify,hnew]
 have yH:=each_in (base:=base) (A:=A) (kv:=kv) (T:=T) hwf hlen hA hk l W.heap.size (W.heap.size+1) (iW F rk i none).length J Jx (fun m' pre x W' h1 h2=>YieldAt.TK rfl m' (hY pre x W' h1 h2)) (rk i) i hi (af _) none (m - 1) [] _ (fun p hp=>by cases hp) (hF.up dQ) hq he hJ2 (by simp);simp only [O6] at yH;have hec:=he.cell;have hxc3:(W2.setCell ⟨W.heap.size+1,0,none⟩ (.func (.func 260) #[] #[.pointer (some ⟨W.heap.size,0,none⟩),.pointer (some ⟨W.heap.size+1,0,none⟩)])).cell? ⟨Bx,0,none⟩=some (.pointer (some ⟨A i,0,none⟩)):=dQ.cell hx;have jq:=aa yH
 clear yH hJ2 hq he Qi hF hJ dQ aK hY hnew y6;refine callsIn_of_wp Tryz.func259 rfl trivial ?_ rfl;simp only [Tryz.ntmps259,eW,aT,dO,Nat.reduceAdd,Nat.reduceSub,ji,jk,eV,ve,cH,cr];gi_wp2;refine ⟨trivial,fun h=>(by cases h),?_⟩;refine jq.out.mono ?_;rintro e W3 dD;obtain ⟨bb,rfl,hq⟩:=FJ dD;gi_wp2
 go_end0
 refine ⟨⟨_,rfl⟩,?_⟩;rcases hq.out with ⟨_,xs,h1,h2,_⟩ | ⟨_,q,h1,h2⟩
 ·exact .inl ⟨xs,h1,by simpa using h2⟩
 ·exact .inr ⟨q,h1,by simpa using h2⟩
theorem below_t (w:World) (p:Option Addr):Calls Tryz.prog 216 #[.pointer p] w fun e w'=>e=.returned (.func (.func 259) #[] #[.pointer (some ⟨w.heap.size,0,none⟩)])/\w'=w.alloc (.cells #[.pointer p] 119):=by
 go_enter Tryz.func216,Tryz.ntmps216
 go_wp2_with fail
 go_ret
 exact ⟨rfl,rfl⟩
theorem XJ (hwf:Wf F n rk) (hlen:∀i,i<n->(F.kids i).length<=1000) (hA:∀i,i<n->T (A i)) (hk:∀i b,i<n->(kv i).ownBlock=some b->T b) (m Bx i:Nat) (hi:i<n) (w:World) (hT:∀b,T b->b<w.heap.size)
  (hBx:T Bx) (hF:cU base n A kv F w) (hx:w.cell? ⟨Bx,0,none⟩=some (.pointer (some ⟨A i,0,none⟩))) :
  SeqStopsK Fence.wide m Tryz.prog 259 #[.pointer (some ⟨Bx,0,none⟩)] (fun x:uh n=>O7 A x) (KN T)
   (fun xs=>eY xs=iW F rk i none) (fun pre=>eY pre <+: iW F rk i none) (iW F rk i none).length w:=fun l J Jx W hW hJ _ hY h0 =>
 below1_in hwf hlen hA hk m l Bx i hi J Jx hY W hJ (hF.same (fun j hj=>hW.block _ (hT _ (hA j hj))) (fun j b hj hb=>hW.block b (hT b (hk j b hj hb)))) ((hW.cell (p:=⟨Bx,0,none⟩) (hT _ hBx)).trans hx) h0
end
end
section
open Go.RowKit Go.Deep
section
variable {F:Fence} {n:Nat} {P:Program} {ops:Array Oper} {Q:Exit->Act->World->Prop} {md:Region.Mode} {S:World->Prop} {t:Nat}
structure YR (P:Program) (ops:Array Oper) (S:World->Prop) (o:Oper) (v:Value) (a:Act):Prop where
 want:Region.wanted o (yielded ops a.tmps)=true
 run:∀w,S w->(execOp a.eval o).run P w=.ok (.value v) w
 calm:∀w,o.about P w a.eval=none
def xW (ops:Array Oper):Bool:=ops.toList.all fun o=>match o.op with | .defer _=>false | _=>true
theorem O8 {ops:Array Oper} (h:xW ops=true) {i:Nat} {o:Oper} (hi:ops[i]? = some o) (r:Option Nat) (ρ:Operand->Value):Oper.semAt r ρ o=execOp ρ o:=by
 refine iJ r ρ o fun c e=>?_;have h1:=wL.1 h o (M5 (by simpa using hi));rw [e] at h1;cases h1
theorem YR.step {i:Nat} {o:Oper} {v:Value} {a:Act} (hd:xW ops=true) (hi:ops[i]? = some o) (hy:YR P ops S o v a) {K:Act->World->Prop} {w:World} (hS:S w) (h:K (a.put o.dst v) w):wpOpIn F n P ops Q i K a w:=by
 unfold wpOpIn;simp only [hi];rw [if_pos hy.want];refine ⟨fun f hf=>(by rw [hy.calm w] at hf;cases hf),?_⟩;rw [O8 hd hi,hy.run w hS];exact h
theorem YR.swap {j:Nat} {oi oj:Oper} {v:Value} (hd:xW ops=true) (hj:ops[j]? = some oj) (hap:oi.apart ops oj=true) (hsi:∀cs b,oi.op≠.select cs b) (hsj:∀cs b,oj.op≠.select cs b)
  (hQ:∀c a w,Q (.panic c) (a.put oi.dst v) w->Q (.panic c) a w) {K:Act->World->Prop} {a:Act} {w:World} (hy:YR P ops S oi v a) (h:wpOpIn F n P ops Q j K (a.put oi.dst v) w) :
  wpOpIn F n P ops Q j (fun a' w'=>YR P ops S oi v a'/\K (a'.put oi.dst v) w') a w:=by
 obtain ⟨h1,h2,h3⟩:=Oper.apart_spec hap;have stays:∀(b:Act) u,YR P ops S oi v b->YR P ops S oi v (b.put oj.dst u):=fun b u hb =>
  ⟨by rw [wanted_put oi b oj.dst u h3];exact hb.want,fun w hS=>by rw [execOp_put oi hsi b oj.dst u h3];exact hb.run w hS,fun w=>by rw [about_put oi w b oj.dst u h3];exact hb.calm w⟩
 have comm:∀u,(a.put oi.dst v).put oj.dst u=(a.put oj.dst u).put oi.dst v:=fun u=>Act.put_comm a v u h2;unfold wpOpIn at h ⊢;simp only [hj] at h ⊢;rw [wanted_put oj a oi.dst v h1] at h;by_cases hw:Region.wanted oj (yielded ops a.tmps)=true
 ·rw [if_pos hw] at h ⊢
  obtain ⟨hb,hu⟩:=h;rw [about_put oj w a oi.dst v h1] at hb;rw [O8 hd hj,execOp_put oj hsj a oi.dst v h1] at hu;refine ⟨hb,?_⟩;rw [O8 hd hj];generalize (execOp a.eval oj).run P w=r at hu ⊢;rcases r with ⟨x,w'⟩ | ⟨x,w'⟩
  ·cases x with
   | value u=>exact ⟨stays a u hy,by rw [<- comm];exact hu⟩
   | skip=>exact ⟨stays a undef hy,by rw [<- comm];exact hu⟩
   | defer d =>
    refine ⟨stays { a with defers:=d::a.defers } undef ⟨hy.want,hy.run,hy.calm⟩,?_⟩;(have e:(({ a with defers:=d::a.defers }:Act).put oj.dst undef).put oi.dst v=({ (a.put oi.dst v) with defers:=d::(a.put oi.dst v).defers }:Act).put oj.dst undef:=by rw [<- Act.put_comm _ v undef h2,<- Act.put_defers]);rw [e];exact hu
   | enter f args =>
    refine ⟨hu.1,CallsIn.mono hu.2 fun e w'' he=>?_⟩;cases e with
    | returned u=>exact ⟨stays a u hy,by rw [<- comm];exact he⟩
    | panicked c=>exact hQ _ _ _ he
    | outgrown=>exact he
   | row row args=>exact ⟨hu.1,RowsIn.mono hu.2 fun u w'' he=>⟨stays a u hy,by rw [<- comm];exact he⟩⟩
   | round l f tmps assign body =>
    refine ⟨hu.1,RoundIn.mono hu.2 fun e w'' he=>?_⟩;cases e with
    | returned u=>exact ⟨stays a u hy,by rw [<- comm];exact he⟩
    | panicked c=>exact hQ _ _ _ he
    | outgrown=>exact he
   | _=>exact hu
  ·cases x with
   | panic u=>exact hQ _ _ _ hu
   | _=>exact hu
 ·rw [if_neg hw] at h ⊢
  exact ⟨by rw [about_put oj w a oi.dst v h1] at h;exact h.1,stays a undef hy,by rw [<- comm];exact h.2⟩
def cF (F:Fence) (n:Nat) (P:Program) (md:Region.Mode) (ops:Array Oper) (Q:Exit->Act->World->Prop) (S:World->Prop) (t:Nat):Nat->Array Bool->Act->World->Prop
 | 0,l,a,w=>Region.ready md ops l=[]/\Q .normal a w
 | m+1,l,a,w=>(Region.ready md ops l=[]->Q .normal a w) /\
  ∀i∈Region.ready md ops l,wpOpIn F n P ops Q i (fun a' w'=>(o6 t (l.setIfInBounds i true)->S w')/\cF F n P md ops Q S t m (l.setIfInBounds i true) a' w') a w
theorem cF.any:∀(m:Nat) (l:Array Bool) (a:Act) (w:World),cF F n P md ops Q S t m l a w->wpAnyIn F n P md ops Q m l a w
 | 0,_,_,_,h=>h
 | m+1,_,_,_,h=>⟨h.1,fun i hi=>wpOpIn_mono (fun a' w' h'=>cF.any m _ a' w' h'.2) (h.2 i hi)⟩
theorem cF.first {i:Nat} {oi:Oper} {v:Value} (hd:xW ops=true) (hi:ops[i]? = some oi) (hsel:∀(j:Nat) (o:Oper) cs b,ops[j]? = some o->o.op≠.select cs b)
  (hQ:∀c a w,Q (.panic c) (a.put oi.dst v) w->Q (.panic c) a w):∀(m:Nat) (l:Array Bool) (a:Act) (w:World),
   (∀j oj,ops[j]? = some oj->j≠i->l.getD j true=false->(∀e∈oj.after,Region.binds md e=true->e.on≠i)->oi.apart ops oj=true) ->
   i∈Region.ready md ops l->BG t md ops l i=true->YR P ops S oi v a->S w->cF F n P md ops Q S t m (l.setIfInBounds i true) (a.put oi.dst v) w->cF F n P md ops Q S t (m+1) l a w:=by
 intro m
 induction m with
 | zero =>
  intro l a w _ hr _ hy hS H;refine ⟨fun h=>absurd hr (by rw [h];simp),fun j hj=>?_⟩;by_cases hji:j=i
  ·subst hji;exact hy.step hd hi hS ⟨fun _=>hS,H⟩
  ·exact absurd (ready_mono hj hji) (by rw [H.1];simp)
 | succ m ih =>
  intro l a w hfree hr hwt hy hS H;refine ⟨fun h=>absurd hr (by rw [h];simp),fun j hj=>?_⟩;by_cases hji:j=i
  ·subst hji;exact hy.step hd hi hS ⟨fun _=>hS,H⟩
  ·have hun:=(mem_ready.1 hr).1
   obtain ⟨BH,oj,td,hall⟩:=mem_ready.1 hj;have hnot:∀e∈oj.after,Region.binds md e=true->e.on≠i:=fun e he hb heq=>by
    have h1:=hall e he hb;rw [heq] at h1;by_cases h':i<l.size
    ·simp [h'] at hun h1;rw [hun] at h1;cases h1
    ·simp [h'] at h1
   have h2:=hy.swap hd td (hfree j oj td hji BH hnot) (fun cs b=>hsel i oi cs b hi) (fun cs b=>hsel j oj cs b td) hQ (H.2 j (ready_mono hj hji));have hir:i∈Region.ready md ops (l.setIfInBounds j true):=ready_mono hr (gj hji);refine wpOpIn_mono (fun a' w' h3=>?_) h2;have BI:∀k ok,ops[k]? = some ok->k≠i->(l.setIfInBounds j true).getD k true=false->(∀e∈ok.after,Region.binds md e=true->e.on≠i)->oi.apart ops ok=true:=fun k ok hk hki Ic hno=>by
    refine hfree k ok hk hki ?_ hno;by_cases hjk:j=k
    ·rw [<- hjk];exact BH
    ·rw [getD_set_ne true hjk] at Ic;exact Ic
   have hcm:(l.setIfInBounds i true).setIfInBounds j true=(l.setIfInBounds j true).setIfInBounds i true:=Array.setIfInBounds_comm _ _ (gj hji);obtain ⟨k,gz,hk⟩:=eO.1 hwt;have gz:=bh.1 gz;simp only [gD,Ag] at hk;obtain ⟨hk1,hk2⟩:=hk;obtain ⟨ok',hko⟩:∃o,ops[k]? = some o:=by
    cases h:ops[k]? with
    | none=>rw [h] at hk2;cases hk2
    | some o=>exact ⟨o,rfl⟩
   rw [hko] at hk2;obtain ⟨x,hx,e,Qq⟩:=(by simpa using Array.any_eq_true.1 hk2:∃x,∃(hx:x<ok'.after.size),Region.binds md ok'.after[x]=true/\ok'.after[x].on=i);have hkj:k≠j:=fun e2=>by subst e2;rw [hko] at td;injection td with td;refine hnot ok'.after[x] ?_ e Qq;rw [<- td];exact Array.getElem_mem hx
   have hki:k≠i:=fun e2=>by
    subst e2;obtain ⟨_,o3,Ie,h4⟩:=mem_ready.1 hr;rw [hko] at Ie;injection Ie with Ie;have h5:=h4 ok'.after[x] (by rw [<- Ie];exact Array.getElem_mem hx) e;rw [Qq] at h5;by_cases h':k<l.size
    ·simp [h'] at hun h5;rw [hun] at h5;cases h5
    ·simp [h'] at h5
   have hS':S w':=h3.2.1 ⟨k,gz,by rw [getD_set_ne true (gj hkj),getD_set_ne true (gj hki)];exact hk1⟩
   have hwt':BG t md ops (l.setIfInBounds j true) i=true:=eO.2 ⟨k,bh.2 gz,by
    rw [getD_set_ne true (gj hkj),hk1,hko];simpa using hk2⟩
   exact ⟨fun _=>hS',ih _ a' w' BI hir hwt' h3.1 hS' (by rw [<- hcm];exact h3.2.2)⟩
theorem cF.free1 {i:Nat} {oi:Oper} {v:Value} (hti:t<=i) (hd:xW ops=true) (hi:ops[i]? = some oi) (hsel:∀(j:Nat) (o:Oper) cs b,ops[j]? = some o->o.op≠.select cs b)
  (hQ:∀c a w,Q (.panic c) (a.put oi.dst v) w->Q (.panic c) a w):∀(m:Nat) (l:Array Bool) (a:Act) (w:World),
   (∀j oj,ops[j]? = some oj->j≠i->l.getD j true=false->(∀e∈oj.after,Region.binds md e=true->e.on≠i)->oi.apart ops oj=true) ->
   i∈Region.ready md ops l->YR P ops (fun _=>True) oi v a->(o6 t (l.setIfInBounds i true)->S w)->cF F n P md ops Q S t m (l.setIfInBounds i true) (a.put oi.dst v) w->cF F n P md ops Q S t (m+1) l a w:=by
 intro m
 induction m with
 | zero =>
  intro l a w _ hr hy hS H;refine ⟨fun h=>absurd hr (by rw [h];simp),fun j hj=>?_⟩;by_cases hji:j=i
  ·subst hji;exact hy.step hd hi trivial ⟨hS,H⟩
  ·exact absurd (ready_mono hj hji) (by rw [H.1];simp)
 | succ m ih =>
  intro l a w hfree hr hy hS H;refine ⟨fun h=>absurd hr (by rw [h];simp),fun j hj=>?_⟩;by_cases hji:j=i
  ·subst hji;exact hy.step hd hi trivial ⟨hS,H⟩
  ·have hun:=(mem_ready.1 hr).1
   obtain ⟨BH,oj,td,hall⟩:=mem_ready.1 hj;have hnot:∀e∈oj.after,Region.binds md e=true->e.on≠i:=fun e he hb heq=>by
    have h1:=hall e he hb;rw [heq] at h1;by_cases h':i<l.size
    ·simp [h'] at hun h1;rw [hun] at h1;cases h1
    ·simp [h'] at h1
   have h2:=hy.swap hd td (hfree j oj td hji BH hnot) (fun cs b=>hsel i oi cs b hi) (fun cs b=>hsel j oj cs b td) hQ (H.2 j (ready_mono hj hji));have hir:i∈Region.ready md ops (l.setIfInBounds j true):=ready_mono hr (gj hji);refine wpOpIn_mono (fun a' w' h3=>?_) h2;have BI:∀k ok,ops[k]? = some ok->k≠i->(l.setIfInBounds j true).getD k true=false->(∀e∈ok.after,Region.binds md e=true->e.on≠i)->oi.apart ops ok=true:=fun k ok hk hki Ic hno=>by
    refine hfree k ok hk hki ?_ hno;by_cases hjk:j=k
    ·rw [<- hjk];exact BH
    ·rw [getD_set_ne true hjk] at Ic;exact Ic
   have hcm:(l.setIfInBounds i true).setIfInBounds j true=(l.setIfInBounds j true).setIfInBounds i true:=Array.setIfInBounds_comm _ _ (gj hji)
   have hmo:o6 t (l.setIfInBounds j true)->S w':=fun ⟨k,hk,gz⟩=>h3.2.1 ⟨k,hk,by
    rw [hcm,getD_set_ne true (by omega)];exact gz⟩
   refine ⟨hmo,ih _ a' w' BI hir h3.1 (fun ⟨k,hk,gz⟩=>hmo ⟨k,hk,?_⟩) (by rw [<- hcm];exact h3.2.2)⟩;rw [getD_set_ne true (by omega)] at gz;exact gz
theorem cF.free {i:Nat} {oi:Oper} {v:Value} {m:Nat} {l:Array Bool} {a:Act} {w:World} (jg:ops.toList[i]? = some oi)
  (hc:(decide (t<=i)&&xW ops&&Region.noSelect ops&&Region.free md ops l i&&(Region.ready md ops l).contains i)=true)
  (hQ:∀c a w,Q (.panic c) (a.put oi.dst v) w->Q (.panic c) a w) (hg:Region.wanted oi (yielded ops a.tmps)=true) (hb:∀w,oi.about P w a.eval=none) (hy:∀w,(execOp a.eval oi).run P w=.ok (.value v) w) (hS:o6 t (l.setIfInBounds i true)->S w)
  (h:cF F n P md ops Q S t m (l.setIfInBounds i true) (a.put oi.dst v) w):cF F n P md ops Q S t (m+1) l a w:=by
 have hi:ops[i]? = some oi:=by rw [<- oW];exact jg
 simp only [gD,decide_eq_true_eq] at hc;obtain ⟨⟨⟨⟨h0,h4⟩,h1⟩,h2⟩,h3⟩:=hc;exact cF.free1 h0 h4 hi (Region.noSelect_spec h1) hQ m l a w (Region.free_spec hi h2) (by simpa using h3) ⟨hg,fun w _=>hy w,hb⟩ hS h
theorem cF.take {i:Nat} {oi:Oper} {v:Value} {m:Nat} {l:Array Bool} {a:Act} {w:World} (jg:ops.toList[i]? = some oi)
  (hc:(xW ops&&Region.noSelect ops&&Region.free md ops l i&&(Region.ready md ops l).contains i&&BG t md ops l i)=true)
  (hQ:∀c a w,Q (.panic c) (a.put oi.dst v) w->Q (.panic c) a w) (hg:Region.wanted oi (yielded ops a.tmps)=true) (hb:∀w,oi.about P w a.eval=none) (hy:∀w,S w->(execOp a.eval oi).run P w=.ok (.value v) w) (hS:S w)
  (h:cF F n P md ops Q S t m (l.setIfInBounds i true) (a.put oi.dst v) w):cF F n P md ops Q S t (m+1) l a w:=by
 have hi:ops[i]? = some oi:=by rw [<- oW];exact jg
 simp only [gD] at hc;obtain ⟨⟨⟨⟨h0,h1⟩,h2⟩,h3⟩,h4⟩:=hc;exact cF.first h0 hi (Region.noSelect_spec h1) hQ m l a w (Region.free_spec hi h2) (by simpa using h3) h4 ⟨hg,hy,hb⟩ hS h
theorem cF.step {i:Nat} {oi:Oper} {m:Nat} {l:Array Bool} {a:Act} {w:World} (jg:ops.toList[i]? = some oi) (hr:Region.ready md ops l=[i])
  (h:∀K':Act->World->Prop,Shut (∀a w,(o6 t (l.setIfInBounds i true)->S w)->((o6 t (l.setIfInBounds i true)->S w)->cF F n P md ops Q S t m (l.setIfInBounds i true) a w)->K' a w)->if Region.wanted oi (yielded ops a.tmps)=true then Oper.wpIn F n P oi a w K' Q else (∀f,oi.about P w a.eval=some f->F.fn f)/\K' (a.put oi.dst undef) w) :
  cF F n P md ops Q S t (m+1) l a w :=
 ⟨fun h0=>absurd (h0.symm.trans hr) (by simp),fun j hj=>by
  rw [hr] at hj
  obtain rfl:j=i:=by simpa using hj
  exact wpOpIn_step (by rw [<- oW];exact jg) fun K' hK=>h K' fun a w hS hW=>hK a w ⟨hS,hW hS⟩⟩
theorem cF.yG {i i2:Nat} {oi KB:Oper} {m:Nat} {l:Array Bool} {a:Act} {w:World} (jg:ops.toList[i]? = some oi) (hi20:ops.toList[i2]? = some KB) (hr:Region.ready md ops l=[i,i2])
  (h:∀K':Act->World->Prop,Shut (∀a w,(o6 t (l.setIfInBounds i true)->S w)->((o6 t (l.setIfInBounds i true)->S w)->cF F n P md ops Q S t m (l.setIfInBounds i true) a w)->K' a w)->if Region.wanted oi (yielded ops a.tmps)=true then Oper.wpIn F n P oi a w K' Q else (∀f,oi.about P w a.eval=some f->F.fn f)/\K' (a.put oi.dst undef) w)
  (h2:∀K':Act->World->Prop,Shut (∀a w,(o6 t (l.setIfInBounds i2 true)->S w)->((o6 t (l.setIfInBounds i2 true)->S w)->cF F n P md ops Q S t m (l.setIfInBounds i2 true) a w)->K' a w)->if Region.wanted KB (yielded ops a.tmps)=true then Oper.wpIn F n P KB a w K' Q else (∀f,KB.about P w a.eval=some f->F.fn f)/\K' (a.put KB.dst undef) w) :
  cF F n P md ops Q S t (m+1) l a w :=
 ⟨fun h0=>absurd (h0.symm.trans hr) (by simp),fun j hj=>by
  rw [hr] at hj
  rcases aW.1 hj with rfl | hj
  ·exact wpOpIn_step (by rw [<- oW];exact jg) fun K' hK=>h K' fun a w hS hW=>hK a w ⟨hS,hW hS⟩
  ·obtain rfl:j=i2:=by simpa using hj
   exact wpOpIn_step (by rw [<- oW];exact hi20) fun K' hK=>h2 K' fun a w hS hW=>hK a w ⟨hS,hW hS⟩⟩
theorem cF.done {l:Array Bool} {a:Act} {w:World} {m:Nat} (hr:Region.ready md ops l=[]) (h:Q .normal a w):cF F n P md ops Q S t m l a w:=by
 cases m with
 | zero=>exact ⟨hr,h⟩
 | succ m=>exact ⟨fun _=>h,fun j hj=>(by rw [hr] at hj;cases hj)⟩
theorem TM {id:Nat} {a:Act} {w:World} (hm:P.follows .mixedOrders=true) (t:Nat) (S:World->Prop) (hS:S w.drew)
  (h:S w.drew->cF F n P .any ops Q S t ops.size (Array.replicate ops.size false) a w.drew):(Code.region id ops true).wpIn F n P Q a w:=wpIn_region_any hm (cF.any _ _ _ _ (h hS))
end
def DO (l:List (Option Nat×Value)) (k:Option Nat) (v:Value):List (Option Nat×Value):=if (l.lookup k).isNone then l++[(k,v)] else l.map fun x=>if x.1=k then (k,v) else x
section
variable {P:Program} {w:World}
theorem same_ptr (k:Option Nat):Instr.sameBits 10000 (pk k) (pk k)=true:=by
 cases k<;>simp [pk,Instr.sameBits]
theorem run_stays (k:Option Nat):(Instr.keyThatStays (pk k) (pk k)).run P w=.ok (pk k) w:=by
 unfold Instr.keyThatStays;rw [if_pos (same_ptr k)];rfl
theorem TN {t e:TypeId} (ht:P.underlying t=some (.pointer e)) (he:∀w,(sizeOf e).run P w=.ok 3 w) {k:Option Nat} (hk:lW w k):∀(es:List MapEntry) (l:List (Option Nat×Value)) (i:Nat),
  es.map (fun x=>(x.key,x.val))=l.map (fun x=>(pk x.1,x.2))->(∀x∈l,lW w x.1)->(l.lookup k).isSome ->
   ∃j v,l.lookup k=some v/\(l[j]?).map (·.1)=some k/\(∀m,m<j->(l[m]?).map (·.1)≠some k)/\(Instr.findAsking t (pk k) es i).run P w=.ok (some (i+j,v)) w:=by
 intro es
 induction es with
 | nil =>
  intro l i hl _ hs;cases l with
  | nil=>cases hs
  | cons=>cases hl
 | cons x es ih =>
  intro l i hl hok hs;cases l with
  | nil=>cases hl
  | cons y l =>
   simp only [cK,List.cons.injEq,mj] at hl;obtain ⟨⟨h1,h2⟩,h3⟩:=hl;have heq:=Yz (w:=w) ht he hk (hok y (by simp));rw [<- h1] at heq;by_cases h:k=y.1
   ·subst h
    refine ⟨0,y.2,?_,rfl,fun m hm=>absurd hm (bG _),?_⟩
    ·obtain ⟨y1,y2⟩:=y;simp
    ·simp [Instr.findAsking,heq,h2]
   ·have hb:(k==y.1)=false:=by simpa using h
    (have hs':(l.lookup k).isSome:=by obtain ⟨y1,y2⟩:=y;rw [eC,hb] at hs;exact hs);obtain ⟨j,v,h4,h5,h6,h7⟩:=ih l (i+1) h3 (fun z hz=>hok z (by simp [hz])) hs';refine ⟨j+1,v,?_,by simpa using h5,fun m hm=>?_,?_⟩
    ·obtain ⟨y1,y2⟩:=y;rw [eC,hb];exact h4
    ·cases m with
     | zero=>simpa using fun e=>h e.symm
     | succ m=>simpa using h6 m (by omega)
    ·simp [Instr.findAsking,heq,h,h7];omega
def FK (l:List (Option Nat×Value)):Prop:=(l.map (·.1)).Nodup
theorem Ns {l:List (Option Nat×Value)} {k:Option Nat}:l.lookup k=none↔k∉l.map (·.1):=by
 induction l with
 | nil=>simp
 | cons y l ih =>
  obtain ⟨y1,y2⟩:=y
  rw [eC]
  by_cases h:k=y1
  ·subst h;simp
  ·have hb:(k==y1)=false:=by simpa using h
   rw [hb];simp only [cK,aW,not_or]
   exact ⟨fun h2=>⟨h,ih.1 h2⟩,fun h2=>ih.2 h2.2⟩
theorem putL_keys (l:List (Option Nat×Value)) (k:Option Nat) (v:Value):(DO l k v).map (·.1)=if (l.lookup k).isNone then l.map (·.1)++[k] else l.map (·.1):=by
 unfold DO;split
 ·simp
 ·rw [jO]
  refine lU fun x _=>?_;show (if x.1=k then (k,v) else x).1=x.1;split
  ·rename_i h;exact h.symm
  ·rfl
theorem putL_uniq {l:List (Option Nat×Value)} (h:FK l) (k:Option Nat) (v:Value):FK (DO l k v):=by
 unfold FK;rw [putL_keys];split
 ·rename_i h2
  have h3:k∉l.map (·.1):=Ns.1 (by simpa using h2);rw [nR];refine ⟨h,by simp,fun a ha b hb=>?_⟩;have:b=k:=by simpa using hb
  subst this;exact fun e=>h3 (by rw [<- e];exact ha)
 ·exact h
theorem XK {l:List (Option Nat×Value)} (h:FK l) {k:Option Nat} (v:Value) {j:Nat} (hj:(l[j]?).map (·.1)=some k):(l.map fun x=>if x.1=k then (k,v) else x)=l.set j (k,v):=by
 apply wN;intro m;have hjl:j<l.length:=by
  cases hlj:l[j]? with
  | none=>rw [hlj] at hj;cases hj
  | some y=>exact (pF.1 hlj).1
 rw [jA,JR];by_cases e:j=m
 ·subst e
  rw [if_pos rfl,if_pos hjl];rw [iQ hjl] at hj ⊢;have h3:(l[j]).1=k:=by simpa using hj
  simp [h3]
 ·rw [if_neg e]
  cases hm:l[m]? with
  | none=>rfl
  | some y =>
   have hml:=(pF.1 hm).1;(have hne:y.1≠k:=fun h4=>by (have h5:(l.map (·.1))[m]? = (l.map (·.1))[j]?:=by rw [jA,jA,hm,hj];simp [h4]);(have h6:m<(l.map (·.1)).length:=by simpa using hml);(have h7:j<(l.map (·.1)).length:=by simpa using hjl);rw [iQ h6,iQ h7] at h5;injection h5 with h5;exact e ((List.getElem_inj h).1 h5).symm);simp [hne]
theorem TP {mt t e el:TypeId} (hm:P.underlying mt=some (.map t el)) (ht:P.underlying t=some (.pointer e)) (he:∀w,(sizeOf e).run P w=.ok 3 w) {b:Nat} {l:List (Option Nat×Value)} (h:qH w b l) (hu:FK l) {k:Option Nat} (v:Value)
  (hk:lW w k) (hok:∀x∈l,lW w x.1) :
  ∃w',(Instr.mapUpdate mt (.map (some b)) (pk k) v).run P w=.ok () w'/\qH w' b (DO l k v)/\w'.heap.size=w.heap.size/\w'.os=w.os/\w'.tape=w.tape/\w'.output=w.output/\∀j,j≠b->w'.heap[j]? = w.heap[j]?:=by
 cases hl0:l.lookup k with
 | none =>
  obtain ⟨w',h1,h2,h3⟩:=TB hm ht he h v hk hok hl0;refine ⟨w',h1,?_,h3⟩;unfold DO;rw [hl0];exact h2
 | some v0 =>
  obtain ⟨es,clock,hb,hl⟩:=h;have bA:=run_underlying (w:=w) hm;have aK:=run_underlying (w:=w) ht;have hg:=yX (P:=P) hb;obtain ⟨j,v',h4,h5,h6,h7⟩:=TN ht he hk es.toList l 0 hl hok (by rw [hl0];rfl);have hne:es.toList≠[]:=fun h0=>by rw [h0] at hl;cases l with | nil=>cases hl0 | cons=>cases hl
  have hfk:(Instr.findKey t (pk k) es.toList).run P w=.ok (some (j,v')) w:=by
   cases hes:es.toList with
   | nil=>exact absurd hes hne
   | cons x xs =>
    (have hn:Instr.findNow (.pointer e) (pk k) (x::xs) 0=none:=by simp [Instr.findNow,Instr.sameNow]);rw [hes] at h7;simp [Instr.findKey,aK,hn,h7]
  have hkey:((es[j]?).map (·.key))=some (pk k):=by
   have h8:=congrArg (fun q=>(q[j]?).map (·.1)) hl;simp only [jA,Option.map_map] at h8;have h9:(l[j]?).map (fun x=>pk x.1)=some (pk k):=by
    cases hlj:l[j]? with
    | none=>rw [hlj] at h5;cases h5
    | some y=>rw [hlj] at h5;simp at h5;simp [h5]
   have h10:(es.toList[j]?).map (·.key)=(l[j]?).map (fun x=>pk x.1):=h8;rw [<- oW,h10,h9]
  have hst:(Instr.keyThatStays (((es[j]?).map (·.key)).getD (pk k)) (pk k)).run P w=.ok (pk k) w:=by rw [hkey];exact run_stays k
  have hs:=Eg (P:=P) (.map (es.modify j fun e=>{ e with key:=pk k,val:=v }) clock) hb;refine ⟨{ w with heap:=w.heap.setIfInBounds b (.map (es.modify j fun e=>{ e with key:=pk k,val:=v }) clock) },by simp [Instr.mapUpdate,bA,hg,run_checkKey ht,hfk,hst,hs],⟨es.modify j fun e=>{ e with key:=pk k,val:=v },clock,?_,?_⟩,by simp,rfl,rfl,rfl,fun m hm=>?_⟩
  ·have:=(fR.1 hb).1
   simp [this]
  ·have hpl:DO l k v=l.set j (k,v):=by
    unfold DO;rw [hl0]
    exact XK hu v h5
   rw [hpl]
   apply wN
   intro m
   have h8:=congrArg (fun q=>q[m]?) hl
   simp only [jA] at h8
   rw [jA,jA,oW,zq2Q,JR]
   have hjl:j<l.length:=by
    cases hlj:l[j]? with
    | none=>rw [hlj] at h5;cases h5
    | some y=>exact (pF.1 hlj).1
   have hje:j<es.size:=by have:=congrArg List.length hl;simp at this;omega
   by_cases e:j=m
   ·subst e
    rw [if_pos rfl,if_pos rfl,if_pos hjl,Array.getElem?_eq_getElem hje]
    rfl
   ·rw [if_neg e,if_neg e,<- oW];exact h8
  ·simp [Ne.symm hm]
theorem run_plook {mt t e el:TypeId} (hm:P.underlying mt=some (.map t el)) (ht:P.underlying t=some (.pointer e)) (he:∀w,(sizeOf e).run P w=.ok 3 w) {z:Value} (hz:∀w,(zeroValue el).run P w=.ok z w) {b:Nat} {l:List (Option Nat×Value)} (h:qH w b l) {k:Option Nat}
  (hk:lW w k) (hok:∀x∈l,lW w x.1):(Instr.lookup mt (.map (some b)) (pk k) false).run P w=.ok ((l.lookup k).getD z) w:=by
 cases hl0:l.lookup k with
 | some v=>exact FE hm ht he h hk hok hl0
 | none =>
  obtain ⟨es,clock,hb,hl⟩:=h;have hu:=run_underlying (w:=w) hm;have hg:=yX (P:=P) hb;rcases run_findKey ht he hk es.toList l hl hok with ⟨h1,h2⟩ | ⟨j,v',h1,h2⟩
  ·simp [Instr.lookup,hu,hg,run_checkKey ht,h2,hz]
  ·rw [h1] at hl0;cases hl0
end
section
variable {F:Fence} {nF:Nat} {P:Program} {ops:Array Oper} {o:Oper} {a:Act} {w:World} {K:Act->World->Prop} {Q:Exit->Act->World->Prop} {E:Prop}
theorem tN (hgd:o.guard=none) (s x:Operand) (t:TypeId) (ho:o.op=.call { callee:=.builtin .append,args:=#[s,x],argTypes:=#[t,t] })
  (base:Nat) (e:TypeId) (z:Value) (bytes:Nat) (ht:P.underlying t=some (.slice e)) (hinfo:(P.info? e).map (fun i=>(i.zero,i.size,i.bytes))=some (some z,1,bytes))
  (hz1:z.cells.size=1) (qE:bytes<=64) {v:Value} {vs:List Value} (hs:a.eval s=v) (hown:ax base e w v vs) (u:Value) (B:Nat)
  (hx:a.eval x=.slice (some ⟨B,0,none⟩) 1 1) (hB:w.cell? ⟨B,0,none⟩=some u) (h1:u.oneCell'=true) (hn:vs.length<=1000000) (hbase:base<=w.heap.size)
  (h:∀g cap w',ax base e w' (.slice (some ⟨g,0,none⟩) (vs.length+1) cap) (vs++[u])->w.grownBy w' v.ownBlock->(v.ownBlock=some g\/g=w.heap.size)->Below base w w'->K (a.put o.dst (.slice (some ⟨g,0,none⟩) (vs.length+1) cap)) w') :
  if Region.wanted o (yielded ops a.tmps)=true then Oper.wpIn F nF P o a w K Q else E:=by
 have hw:Region.wanted o (yielded ops a.tmps)=true:=by simp [Region.wanted,hgd]
 rw [if_pos hw];obtain ⟨i,hi,hzz⟩:=mh.1 hinfo;simp only [mj] at hzz;obtain ⟨hz,hs1,hb⟩:=hzz
 obtain ⟨g,cap,w',hr,h2,h3,h4,_⟩:=run_append_lies (P:=P) w t o.type base e i z 1 bytes ht hi hz hs1 hb hz1 (by omega) v vs.length vs hown ⟨B,0,none⟩ 1 1 [u] rfl (fun j u' hj=>by
  cases j with
  | zero=>(simp at hj;subst hj;simpa [Addr.add] using hB)
  | succ j=>simp at hj) (by simpa using h1) (by omega) (by unfold maxLen;omega) (by have:(vs.length+1)*bytes<=(vs.length+1)*64:=sW _ qE;omega) hbase _ rfl
 unfold Oper.wpIn;refine ⟨by simp [Oper.about,ho,resolve,Target.leads,Sem.run_pure],?_⟩;rw [Oper.semAt_plain F _ _ (by rw [ho];intro c hc';cases hc')];simp [execOp,ho,resolve,invoke,builtin,hs,hx,hr,Result.andThen];exact h g cap w' (by unfold ax;rw [aZ];exact h2) h3 h4 (hown.fE h3 hbase)
end
end
end Go.Proofs.YthgabkgmkolobaaGreat
