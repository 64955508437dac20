/- The contract of phylotree.below: an iterator over the nodes below a node, depth first, .. -/
import Derived.RangeFuncKeeps
import Derived.Laws.EntriesVeiled
import Derived.Test.YthgabkgmkolobaaGreatQ11
set_option maxRecDepth 100000
set_option maxHeartbeats 2000000
namespace Go.Proofs.YthgabkgmkolobaaGreat
open Go.RowKit Go.Shelf Go.Deep
attribute [local go_sem] Oper.semAt_some
def wQ (F:aX):Nat->Nat->Option Nat->List (Nat×Option Nat)
 | 0,i,p=>[(i,p)]
 | d+1,i,p=>(i,p)::(F.kids i).flatMap fun k=>wQ F d k (some i)
def eD (F:aX) (rk:Nat->Nat) (i:Nat) (p:Option Nat):List (Nat×Option Nat):=wQ F (rk i) i p
theorem iK {α β:Type} {f g:α->List β}:∀ {l:List α},(∀x∈l,f x=g x)->l.flatMap f=l.flatMap g
 | [],_=>rfl
 | x::l,h=>by rw [fZ,fZ,h x (by simp),iK fun y hy=>h y (by simp [hy])]
theorem D7 {F:aX} {n:Nat} {rk:Nat->Nat} (h:Wf F n rk):∀ {d e i:Nat} {p:Option Nat},i<n->rk i<=d->rk i<=e->wQ F d i p=wQ F e i p:=by
 intro d
 induction d with
 | zero =>
  intro e i p hi hd he;have hk:F.kids i=[]:=by
   cases hk:F.kids i with
   | nil=>rfl
   | cons k l=>have:=(h.kid i hi k (by rw [hk];simp)).2;omega
  cases e with
  | zero=>rfl
  | succ e=>simp [wQ,hk]
 | succ d ih =>
  intro e i p hi hd he;cases e with
  | zero =>
   have hk:F.kids i=[]:=by
    cases hk:F.kids i with
    | nil=>rfl
    | cons k l=>have:=(h.kid i hi k (by rw [hk];simp)).2;omega
   simp [wQ,hk]
  | succ e =>
   simp only [wQ];congr 1;exact iK fun k hk=>by have:=h.kid i hi k hk;exact ih this.1 (by omega) (by omega)
theorem gW {F:aX} {n:Nat} {rk:Nat->Nat} (h:Wf F n rk) {i:Nat} (hi:i<n) (p:Option Nat):eD F rk i p=(i,p)::(F.kids i).flatMap fun k=>eD F rk k (some i):=by
 have h1:eD F rk i p=wQ F (rk i+1) i p:=D7 h hi (ah _) (kI _);rw [h1];simp only [wQ];congr 1;exact iK fun k hk=>by have:=h.kid i hi k hk;exact D7 h this.1 (by omega) (ah _)
abbrev mJ (n:Nat):={ x:Nat×Option Nat // x.1<n/\∀p,x.2=some p->p<n }
def dc {n:Nat} (l:List (mJ n)):List (Nat×Option Nat):=l.map Subtype.val
theorem vC {n:Nat} (l m:List (mJ n)):dc (l++m)=dc l++dc m:=by simp [dc]
def CW (A:Nat->Nat):Option Nat->Value
 | none=>.pointer none
 | some p=>.pointer (some ⟨A p,0,none⟩)
def CX (A:Nat->Nat) {n:Nat} (x:mJ n):Array Value:=#[.pointer (some ⟨A x.1.1,0,none⟩),CW A x.1.2]
def KN (T:Nat->Prop) (w w':World):Prop:=KS T w w'/\∀(b:Nat) (c:Array Value) (z:Nat×Nat),w.heap[b]? = some (Obj.cells c 258 z)->w'.heap[b]? = w.heap[b]?
theorem KN.trans {T:Nat->Prop} {a b c:World} (h:KN T a b) (k:KN T b c):KN T a c:=⟨h.1.trans k.1,fun i x z hi=>(k.2 i x z ((h.2 i x z hi).trans hi)).trans (h.2 i x z hi)⟩
def oH (w:World) (b:Nat) (v:Value):Prop:=w.heap[b]? = some (Obj.cells #[v] 258 (0,0))
theorem oH.keep {T:Nat->Prop} {w w':World} {b:Nat} {v:Value} (h:oH w b v) (k:KN T w w'):oH w' b v:=(k.2 b _ _ h).trans h
theorem oH.cell {w:World} {b:Nat} {v:Value} (h:oH w b v):w.cell? ⟨b,0,none⟩=some v:=by
 have h:w.heap[b]? = _:=h;simp [World.cell?,h]
theorem bB.VK {base n:Nat} {A:Nat->Nat} {kv:Nat->Value} {F:aX} {T:Nat->Prop} {w w':World} (h:bB base n A kv F w) (k:KN T w w') (hA:∀i,i<n->T (A i)) (hk:∀i b,i<n->(kv i).ownBlock=some b->T b):bB base n A kv F w' :=
 h.same (fun i hi=>k.1 _ (hA i hi)) (fun i b hi hb=>k.1 b (hk i b hi hb))
section
variable {n base:Nat} {A:Nat->Nat} {kv:Nat->Value} {F:aX} {rk:Nat->Nat} {T:Nat->Prop}
def Qz (T:Nat->Prop) (J Jx:List (mJ n)->World->Prop) (pre:List (mJ n)) (full:List (Nat×Option Nat)) (W:World) (e:Ending) (W':World):Prop :=
 (e=.returned (.bool true)/\∃xs,dc xs=full/\J (pre++xs) W'/\KN T W W')\/(e=.returned (.bool false)/\∃q,dc q <+: full/\Jx (pre++q) W')
theorem Fj {α β:Type} (f:α->List β) (l:List α) {k:Nat} {c:α} (h:l[k]? = some c):((l.take k).flatMap f).length+(f c).length<=(l.flatMap f).length:=by
 have h1:l=l.take (k+1)++l.drop (k+1):=(qm _ _).symm;have h2:(l.flatMap f).length=((l.take (k+1)).flatMap f).length+((l.drop (k+1)).flatMap f).length:=by
  conv=>lhs;rw [h1]
  rw [qh,bg]
 rw [h2,List.take_add_one,h,qh,bg];simp
theorem D8 {α β:Type} (f:α->List β) (l:List α) {k:Nat} {c:α} (h:l[k]? = some c):(l.take (k+1)).flatMap f=(l.take k).flatMap f++f c:=by
 rw [List.take_add_one,h,qh];simp
theorem AW {α β:Type} (f:α->List β) (l:List α) {k:Nat} {c:α} (h:l[k]? = some c) {q:List β} (hq:q <+: f c):(l.take k).flatMap f++q <+: l.flatMap f:=by
 have h1:l=l.take (k+1)++l.drop (k+1):=(qm _ _).symm;have h2:l.flatMap f=(l.take (k+1)).flatMap f++(l.drop (k+1)).flatMap f:=by
  conv=>lhs;rw [h1]
  rw [qh]
 rw [h2,D8 f l h,bZ];exact (List.prefix_append_right_inj _).2 (hq.trans (List.prefix_append _ _))
theorem wR {e:Ending} {X Y:Prop} (h:(e=.returned (.bool true)/\X)\/(e=.returned (.bool false)/\Y)):∃bb,e=.returned (.bool bb)/\Hid ((bb=true/\X)\/(bb=false/\Y)):=by
 rcases h with ⟨h1,h2⟩ | ⟨h1,h2⟩
 ·exact ⟨true,h1,.inl ⟨rfl,h2⟩⟩
 ·exact ⟨false,h1,.inr ⟨rfl,h2⟩⟩
def Ge (n base:Nat) (A:Nat->Nat) (kv:Nat->Value) (F:aX) (rk:Nat->Nat) (T:Nat->Prop) (l Bq Be N:Nat) (J Jx:List (mJ n)->World->Prop) (i:Nat):Prop :=
 ∀(par:Option Nat) (m:Nat) (pre:List (mJ n)) (W:World),(∀p,par=some p->p<n)->bB base n A kv F W->oH W Bq (.func (.yield l) #[] #[])->oH W Be (.func (.func 260) #[] #[.pointer (some ⟨Bq,0,none⟩),.pointer (some ⟨Be,0,none⟩)]) ->
   J pre W->pre.length+(eD F rk i par).length<=N ->
   CallsIn Fence.wide m Tryz.prog 260 #[.pointer (some ⟨A i,0,none⟩),CW A par,.pointer (some ⟨Bq,0,none⟩),.pointer (some ⟨Be,0,none⟩)] W (Qz T J Jx pre (eD F rk i par) W)
theorem D9 (hwf:Wf F n rk) (hlen:∀i,i<n->(F.kids i).length<=1000) (hA:∀i,i<n->T (A i)) (hk:∀i b,i<n->(kv i).ownBlock=some b->T b) (l Bq Be N:Nat) (J Jx:List (mJ n)->World->Prop)
  (hY:∀m pre x W,J pre W->pre.length<N->YieldAt Fence.wide m Tryz.prog l (CX A x) W fun e W'=>(e=.returned (.bool true)/\J (pre++[x]) W'/\KN T W W')\/(e=.returned (.bool false)/\Jx (pre++[x]) W'))
  {i:Nat} (hi:i<n) (ih:∀c∈F.kids i,Ge n base A kv F rk T l Bq Be N J Jx c):Ge n base A kv F rk T l Bq Be N J Jx i:=by
 intro par m pre W hpar hF hq he hJ hN;obtain ⟨fn,tmps,assign,body,hy,hR⟩:=hY (m - 1) pre ⟨(i,par),hi,hpar⟩ W hJ (by rw [gW hwf hi] at hN;simp at hN;omega);simp only [CX] at hy;have hqc:=hq.cell;have HQ:=aa hq;have HE:=aa he;have HF:=aa hF;have HN:=aa hN;have kD:=aa ih;have Gf:=aa hwf;have qE:=hlen i hi;have SL:Hid (∀W',KN T W W'->bB base n A kv F W'):=fun W' k=>hF.VK k hA hk;clear hJ hq he hF hN ih hwf hlen hA hk;refine callsIn_of_wp Tryz.func260 rfl trivial ?_ rfl
 simp only [Tryz.ntmps260,fo,aO,dz,Nat.reduceAdd,Nat.reduceSub,ic,ig,fk,wC,cw,bz];gi_wp2;refine ⟨fun h=>(by cases h),?_⟩;refine hR.mono ?_;rintro e W1 eZ;obtain ⟨bb,rfl,hq⟩:=wR eZ;clear eZ hR;cases bb
 ·gi_wp2
  go_ret;have h2:Jx (pre++[⟨(i,par),hi,hpar⟩]) W1:=by
   rcases hq.out with ⟨h1,_⟩ | ⟨_,h2⟩
   ·cases h1
   ·exact h2
  exact .inr ⟨rfl,[⟨(i,par),hi,hpar⟩],⟨_,by rw [gW Gf.out hi];rfl⟩,h2⟩
 ·have BP:J (pre++[⟨(i,par),hi,hpar⟩]) W1/\KN T W W1:=by
   rcases hq.out with ⟨_,h2⟩ | ⟨h1,_⟩
   ·exact h2
   ·cases h1
  obtain ⟨Z7,hk1⟩:=BP
  have Ea:=SL.out W1 hk1
  have hown:=Ea.own i hi
  obtain ⟨q,cap,hv,VL⟩:=hown.form (n:=(F.kids i).length) (by simp)
  have hkc:=Ea.qV hi
  rw [hv] at hkc
  have HV:=aa hv
  have HQQ:=aa VL
  have F8:Hid ((F.kids i).length=0\/∃g,q=some ⟨g,0,none⟩):=by
   rcases VL with rfl | h
   ·obtain ⟨_,h | ⟨g,_,_,h,_⟩⟩:=hown
    ·left;have:=h.2;rw [aD] at this;exact this
    ·rw [hv] at h;cases h
   ·exact .inr h
  have HJ1:=aa Z7
  have VM:=aa hk1
  clear hqc hq Ea hown hv VL Z7 hk1
  gi_wp2
  gi_loopw [19] (fun i' wr=>∃(k:Nat) (done:List (mJ n)),k<=(F.kids i).length/\i'=.int .i64 k/\Hid (dc done=((F.kids i).take k).flatMap fun c=>eD F rk c (some i))/\Hid (J (pre++[⟨(i,par),hi,hpar⟩]++done) wr)/\Hid (KN T W wr)) (fun i' _=>(F.kids i).length - (intOf i').toNat)
  case atStart=>exact ⟨0,[],aI _,rfl,rfl,by unfold Hid;rw [fM];exact HJ1.out,VM⟩
  case round =>
   obtain ⟨k,done,hk,rfl,hD,Z8,hKr⟩:=hrel
   by_cases hlt:k<(F.kids i).length
   ·obtain ⟨g,rfl⟩:∃g,q=some ⟨g,0,none⟩:=by
     rcases F8.out with h | h
     ·omega
     ·exact h
    have hc:(F.kids i)[k]? = some (F.kids i)[k]:=gP hlt
    have VN:=SL.out wr hKr.out
    have hrow:=VN.Fu (j:=k) (c:=(F.kids i)[k]) hi HV.out hc
    have heb:=(HE.out.keep hKr.out).cell
    have hdl:done.length=(((F.kids i).take k).flatMap fun c=>eD F rk c (some i)).length:=by rw [<- hD.out];simp [dc]
    have wS:=kD.out (F.kids i)[k] (lz hlt) (some i) (m - 1) (pre++[⟨(i,par),hi,hpar⟩]++done) wr (fun p hp=>by cases hp;exact hi) VN (HQ.out.keep hKr.out) (HE.out.keep hKr.out) Z8.out (by
     have h1:=Fj (fun c=>eD F rk c (some i)) (F.kids i) hc
     have h2:=HN.out
     rw [gW Gf.out hi] at h2
     simp only [bg,aO,dz] at h2 ⊢
     omega)
    simp only [CW] at wS
    have iB:=aa wS
    have HC:=aa hc
    have eY:Hid ((F.kids i)[k]<n):=(Gf.out.kid i hi _ (lz hlt)).1
    clear hc VN wS hdl
    generalize (F.kids i)[k]=c at *
    gi_wp2
    refine ⟨trivial,fun h=>(by cases h),?_⟩
    refine iB.out.mono ?_
    rintro e W3 eZ
    obtain ⟨bb,rfl,hq⟩:=wR eZ
    clear eZ iB
    cases bb
    ·gi_wp2
     go_ret
     obtain ⟨qs,VO,hx⟩:∃qs,dc qs <+: eD F rk c (some i)/\Jx (pre++[⟨(i,par),hi,hpar⟩]++done++qs) W3:=by
      rcases hq.out with ⟨h1,_⟩ | ⟨_,h2⟩
      ·cases h1
      ·exact h2
     refine .inr ⟨rfl,⟨(i,par),hi,hpar⟩::(done++qs),?_,by simpa using hx⟩
     rw [gW Gf.out hi,show dc (⟨(i,par),hi,hpar⟩::(done++qs))=(i,par)::dc (done++qs) from rfl,vC,hD.out]
     exact (List.prefix_cons_inj _).2 (AW _ _ HC.out VO)
    ·obtain ⟨xs,hxs,hJ3,hK3⟩:∃xs,dc xs=eD F rk c (some i)/\J (pre++[⟨(i,par),hi,hpar⟩]++done++xs) W3/\KN T wr W3:=by
      rcases hq.out with ⟨_,h2⟩ | ⟨h1,_⟩
      ·exact h2
      ·cases h1
     have HJ3:Hid (J (pre++[⟨(i,par),hi,hpar⟩]++(done++xs)) W3):=by unfold Hid;rw [<- bZ];exact hJ3
     have HD3:Hid (dc (done++xs)=((F.kids i).take (k+1)).flatMap fun c=>eD F rk c (some i)):=by unfold Hid;rw [vC,hD.out,hxs,D8 _ _ HC.out]
     have HK3:Hid (KN T W W3):=hKr.out.trans hK3
     clear hq hxs hJ3 hK3
     gi_wp2
     go_roundw
     case rel=>exact ⟨k+1,done++xs,by omega,by go_num,HD3,HJ3,HK3⟩
     case measure=>simp [intOf];omega
   ·gi_wp2
    go_ret
    obtain rfl:k=(F.kids i).length:=by omega
    refine .inl ⟨rfl,⟨(i,par),hi,hpar⟩::done,?_,by simpa using Z8.out,hKr.out⟩
    rw [gW Gf.out hi,show dc (⟨(i,par),hi,hpar⟩::done)=(i,par)::dc done from rfl,hD.out,eT]
theorem T5 (hwf:Wf F n rk) (hlen:∀i,i<n->(F.kids i).length<=1000) (hA:∀i,i<n->T (A i)) (hk:∀i b,i<n->(kv i).ownBlock=some b->T b) (l Bq Be N:Nat) (J Jx:List (mJ n)->World->Prop)
  (hY:∀m pre x W,J pre W->pre.length<N->YieldAt Fence.wide m Tryz.prog l (CX A x) W fun e W'=>(e=.returned (.bool true)/\J (pre++[x]) W'/\KN T W W')\/(e=.returned (.bool false)/\Jx (pre++[x]) W')) :
  ∀(d i:Nat),i<n->rk i<=d->Ge n base A kv F rk T l Bq Be N J Jx i:=by
 intro d
 induction d with
 | zero=>exact fun i hi Ae=>D9 hwf hlen hA hk l Bq Be N J Jx hY hi fun c hc=>absurd (hwf.kid i hi c hc).2 (by omega)
 | succ d ih=>exact fun i hi Ae=>D9 hwf hlen hA hk l Bq Be N J Jx hY hi fun c hc=>ih c (hwf.kid i hi c hc).1 (by have:=(hwf.kid i hi c hc).2;omega)
theorem Gg {F:Fence} (hd:F.depth=none) (k:Nat):F.room k:=fun d h=>by rw [hd] at h;cases h
theorem YieldAt.QA {F:Fence} (hd:F.depth=none) {m:Nat} (m':Nat) {P:Program} {l:Nat} {args:Array Value} {W:World} {R:Ending->World->Prop} (h:YieldAt F m P l args W R):YieldAt F m' P l args W R:=by
 obtain ⟨fn,tmps,assign,body,hy,hR⟩:=h;exact ⟨fn,tmps,assign,body,hy,hR.1,fun c cs _=>hR.2 c cs (Gg hd _)⟩
theorem Ns (hwf:Wf F n rk) (hlen:∀i,i<n->(F.kids i).length<=1000) (hA:∀i,i<n->T (A i)) (hk:∀i b,i<n->(kv i).ownBlock=some b->T b) (m l Bx i:Nat) (hi:i<n) (J Jx:List (mJ n)->World->Prop)
  (hY:∀pre x W,J pre W->pre.length<(eD F rk i none).length->YieldAt Fence.wide (m - 1) Tryz.prog l (CX A x) W fun e W'=>(e=.returned (.bool true)/\J (pre++[x]) W'/\KN T W W')\/(e=.returned (.bool false)/\Jx (pre++[x]) W'))
  (W:World) (M0:AbidesFrom W.heap.size J) (hF:bB base n A kv F W) (hx:W.cell? ⟨Bx,0,none⟩=some (.pointer (some ⟨A i,0,none⟩))) (hJ:J [] W) :
  CallsIn Fence.wide m Tryz.prog 259 #[.func (.yield l) #[] #[],.pointer (some ⟨Bx,0,none⟩)] W fun e W'=>(∃v,e=.returned v) /\
   ((∃xs,dc xs=eD F rk i none/\J xs W')\/(∃q,dc q <+: eD F rk i none/\Jx q W')):=by
 have aJ:Up W ((W.alloc (.cells #[.func (.yield l) #[] #[]] 258)).alloc (.cells #[.nilFunc] 258)):=(Up.alloc _ _).trans (Up.alloc _ _);have hnew:=blk_alloc_new (W.alloc (.cells #[.func (.yield l) #[] #[]] 258)) (.cells #[.nilFunc] 258);rw [aL] at hnew;have BP:((W.alloc (.cells #[.func (.yield l) #[] #[]] 258)).alloc (.cells #[.nilFunc] 258)).heap[W.heap.size]? = some (.cells #[.func (.yield l) #[] #[]] 258 (0,0)):=by rw [blk_alloc_lt _ _ _ (by simp)];exact blk_alloc_new _ _
 have hxc:=aJ.cell hx;generalize hW2:(W.alloc (.cells #[.func (.yield l) #[] #[]] 258)).alloc (.cells #[.nilFunc] 258)=W2 at *;have eY:W2.cell? ⟨W.heap.size+1,0,none⟩=some .nilFunc:=by simp [World.cell?,hnew]
 have hfn:W2.frozen? ⟨W.heap.size+1,0,none⟩=false:=by simp [World.frozen?,hnew]
 have dg:Up W (W2.setCell ⟨W.heap.size+1,0,none⟩ (.func (.func 260) #[] #[.pointer (some ⟨W.heap.size,0,none⟩),.pointer (some ⟨W.heap.size+1,0,none⟩)])):=Below.setCell aJ (p:=⟨W.heap.size+1,0,none⟩) (kI _) _;have hJ2:=M0 [] W _ none hJ (⟨dg.os,dg.tape,dg.output,dg.size,fun j hj _=>bH dg j hj⟩:W.grownBy _ none) (fun r e=>by cases e)
 have hq:oH (W2.setCell ⟨W.heap.size+1,0,none⟩ (.func (.func 260) #[] #[.pointer (some ⟨W.heap.size,0,none⟩),.pointer (some ⟨W.heap.size+1,0,none⟩)])) W.heap.size (.func (.yield l) #[] #[]):=by unfold oH;rw [blk_setCell_other _ _ _ _ (by show W.heap.size≠W.heap.size+1;omega)];exact BP
 have he:oH (W2.setCell ⟨W.heap.size+1,0,none⟩ (.func (.func 260) #[] #[.pointer (some ⟨W.heap.size,0,none⟩),.pointer (some ⟨W.heap.size+1,0,none⟩)])) (W.heap.size+1) (.func (.func 260) #[] #[.pointer (some ⟨W.heap.size,0,none⟩),.pointer (some ⟨W.heap.size+1,0,none⟩)]):=by unfold oH;simp [World.setCell,Array.getElem?_modify,hnew]
 have wS:=T5 (base:=base) (A:=A) (kv:=kv) (T:=T) hwf hlen hA hk l W.heap.size (W.heap.size+1) (eD F rk i none).length J Jx (fun m' pre x W' h1 h2=>YieldAt.QA rfl m' (hY pre x W' h1 h2)) (rk i) i hi (ah _) none (m - 1) [] _ (fun p hp=>by cases hp) (hF.up dg) hq he hJ2 (by simp);simp only [CW] at wS;have hec:=he.cell;have ab4:(W2.setCell ⟨W.heap.size+1,0,none⟩ (.func (.func 260) #[] #[.pointer (some ⟨W.heap.size,0,none⟩),.pointer (some ⟨W.heap.size+1,0,none⟩)])).cell? ⟨Bx,0,none⟩=some (.pointer (some ⟨A i,0,none⟩)):=dg.cell hx;have iB:=aa wS
 clear wS hJ2 hq he M0 hF hJ dg aJ hY hnew BP;refine callsIn_of_wp Tryz.func259 rfl trivial ?_ rfl;simp only [Tryz.ntmps259,fo,aO,dz,Nat.reduceAdd,Nat.reduceSub,ic,ig,fk,wC,cw,bz];gi_wp2;refine ⟨trivial,fun h=>(by cases h),?_⟩;refine iB.out.mono ?_;rintro e W3 eZ;obtain ⟨bb,rfl,hq⟩:=wR eZ;gi_wp2
 go_end0
 refine ⟨⟨_,rfl⟩,?_⟩;rcases hq.out with ⟨_,xs,h1,h2,_⟩ | ⟨_,q,h1,h2⟩
 ·exact .inl ⟨xs,h1,by simpa using h2⟩
 ·exact .inr ⟨q,h1,by simpa using h2⟩
theorem T6 (w:World) (p:Option Addr):Calls Tryz.prog 216 #[.pointer p] w fun e w'=>e=.returned (.func (.func 259) #[] #[.pointer (some ⟨w.heap.size,0,none⟩)])/\w'=w.alloc (.cells #[.pointer p] 119):=by
 go_enter Tryz.func216,Tryz.ntmps216
 go_wp2_with fail
 go_ret
 exact ⟨rfl,rfl⟩
theorem JB (hwf:Wf F n rk) (hlen:∀i,i<n->(F.kids i).length<=1000) (hA:∀i,i<n->T (A i)) (hk:∀i b,i<n->(kv i).ownBlock=some b->T b) (m Bx i:Nat) (hi:i<n) (w:World) (hT:∀b,T b->b<w.heap.size)
  (hBx:T Bx) (hF:bB base n A kv F w) (hx:w.cell? ⟨Bx,0,none⟩=some (.pointer (some ⟨A i,0,none⟩))) :
  SeqStopsK Fence.wide m Tryz.prog 259 #[.pointer (some ⟨Bx,0,none⟩)] (fun x:mJ n=>CX A x) (KN T)
   (fun xs=>dc xs=eD F rk i none) (fun pre=>dc pre <+: eD F rk i none) (eD F rk i none).length w:=fun l J Jx W hW hJ _ hY h0 =>
 Ns hwf hlen hA hk m l Bx i hi J Jx hY W hJ (hF.same (fun j hj=>hW.block _ (hT _ (hA j hj))) (fun j b hj hb=>hW.block b (hT b (hk j b hj hb)))) ((hW.cell (p:=⟨Bx,0,none⟩) (hT _ hBx)).trans hx) h0
end
end Go.Proofs.YthgabkgmkolobaaGreat
