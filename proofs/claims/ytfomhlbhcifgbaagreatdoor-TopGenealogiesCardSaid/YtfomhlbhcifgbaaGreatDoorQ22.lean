/- The contract of phylotree.below: an iterator over the nodes below a node, depth first, .. -/
import Derived.RangeFuncKeeps
import Derived.Test.YtfomhlbhcifgbaaGreatDoorQ20
set_option maxRecDepth 100000
set_option maxHeartbeats 2000000
namespace Go.Proofs.YtfomhlbhcifgbaaGreatDoor
open Go.RowKit Go.Shelf Go.Deep
attribute [local go_sem] vz
def vQ (F:aW):Nat->Nat->Option Nat->List (Nat×Option Nat)
 | 0,i,p=>[(i,p)]
 | d+1,i,p=>(i,p)::(F.kids i).flatMap fun k=>vQ F d k (some i)
def dW (F:aW) (rk:Nat->Nat) (i:Nat) (p:Option Nat):List (Nat×Option Nat):=vQ F (rk i) i p
theorem gW {α β:Type} {f g:α->List β}:∀ {l:List α},(∀x∈l,f x=g x)->l.flatMap f=l.flatMap g
 | [],_=>rfl
 | x::l,h=>by rw [iI,iI,h x (by simp),gW fun y hy=>h y (by simp [hy])]
theorem D4 {F:aW} {n:Nat} {rk:Nat->Nat} (h:Wf F n rk):∀ {d e i:Nat} {p:Option Nat},i<n->rk i<=d->rk i<=e->vQ F d i p=vQ F e i p:=by
 intro d
 induction d with
 | zero =>
  intro e i p hi hd he;have hk:F.kids i=[]:=by
   cases hk:F.kids i with
   | nil=>rfl
   | cons k l=>have:=(h.kid i hi k (by rw [hk];simp)).2;omega
  cases e with
  | zero=>rfl
  | succ e=>simp [vQ,hk]
 | succ d ih =>
  intro e i p hi hd he;cases e with
  | zero =>
   have hk:F.kids i=[]:=by
    cases hk:F.kids i with
    | nil=>rfl
    | cons k l=>have:=(h.kid i hi k (by rw [hk];simp)).2;omega
   simp [vQ,hk]
  | succ e =>
   simp only [vQ];congr 1;exact gW fun k hk=>by have:=h.kid i hi k hk;exact ih this.1 (by omega) (by omega)
theorem gw {F:aW} {n:Nat} {rk:Nat->Nat} (h:Wf F n rk) {i:Nat} (hi:i<n) (p:Option Nat):dW F rk i p=(i,p)::(F.kids i).flatMap fun k=>dW F rk k (some i):=by
 have h1:dW F rk i p=vQ F (rk i+1) i p:=D4 h hi (aj _) (jP _);rw [h1];simp only [vQ];congr 1;exact gW fun k hk=>by have:=h.kid i hi k hk;exact D4 h this.1 (by omega) (aj _)
abbrev l9 (n:Nat):={ x:Nat×Option Nat // x.1<n/\∀p,x.2=some p->p<n }
def cK {n:Nat} (l:List (l9 n)):List (Nat×Option Nat):=l.map Subtype.val
theorem uG {n:Nat} (l m:List (l9 n)):cK (l++m)=cK l++cK m:=by simp [cK]
def CP (A:Nat->Nat):Option Nat->Value
 | none=>.pointer none
 | some p=>.pointer (some ⟨A p,0,none⟩)
def CQ (A:Nat->Nat) {n:Nat} (x:l9 n):Array Value:=#[.pointer (some ⟨A x.1.1,0,none⟩),CP A x.1.2]
def KN (T:Nat->Prop) (w w':World):Prop:=KS T w w'/\∀(b:Nat) (c:Array Value) (z:Nat×Nat),w.heap[b]? = some (Obj.cells c 161 z)->w'.heap[b]? = w.heap[b]?
theorem KN.trans {T:Nat->Prop} {a b c:World} (h:KN T a b) (k:KN T b c):KN T a c:=⟨h.1.trans k.1,fun i x z hi=>(k.2 i x z ((h.2 i x z hi).trans hi)).trans (h.2 i x z hi)⟩
def od (w:World) (b:Nat) (v:Value):Prop:=w.heap[b]? = some (Obj.cells #[v] 161 (0,0))
theorem od.keep {T:Nat->Prop} {w w':World} {b:Nat} {v:Value} (h:od w b v) (k:KN T w w'):od w' b v:=(k.2 b _ _ h).trans h
theorem od.cell {w:World} {b:Nat} {v:Value} (h:od w b v):w.cell? ⟨b,0,none⟩=some v:=by
 have h:w.heap[b]? = _:=h;simp [World.cell?,h]
theorem bz.Xn {base n:Nat} {A:Nat->Nat} {kv:Nat->Value} {F:aW} {T:Nat->Prop} {w w':World} (h:bz base n A kv F w) (k:KN T w w') (hA:∀i,i<n->T (A i)) (hk:∀i b,i<n->(kv i).ownBlock=some b->T b):bz base n A kv F w' :=
 h.same (fun i hi=>k.1 _ (hA i hi)) (fun i b hi hb=>k.1 b (hk i b hi hb))
section
variable {n base:Nat} {A:Nat->Nat} {kv:Nat->Value} {F:aW} {rk:Nat->Nat} {T:Nat->Prop}
def QK (T:Nat->Prop) (J Jx:List (l9 n)->World->Prop) (pre:List (l9 n)) (full:List (Nat×Option Nat)) (W:World) (e:Ending) (W':World):Prop :=
 (e=.returned (.bool true)/\∃xs,cK xs=full/\J (pre++xs) W'/\KN T W W')\/(e=.returned (.bool false)/\∃q,cK q <+: full/\Jx (pre++q) W')
theorem ET {α β:Type} (f:α->List β) (l:List α) {k:Nat} {c:α} (h:l[k]? = some c):((l.take k).flatMap f).length+(f c).length<=(l.flatMap f).length:=by
 have h1:l=l.take (k+1)++l.drop (k+1):=(A5 _ _).symm;have h2:(l.flatMap f).length=((l.take (k+1)).flatMap f).length+((l.drop (k+1)).flatMap f).length:=by
  conv=>lhs;rw [h1]
  rw [o9,bG]
 rw [h2,List.take_add_one,h,o9,bG];simp
theorem D5 {α β:Type} (f:α->List β) (l:List α) {k:Nat} {c:α} (h:l[k]? = some c):(l.take (k+1)).flatMap f=(l.take k).flatMap f++f c:=by
 rw [List.take_add_one,h,o9];simp
theorem AA {α β:Type} (f:α->List β) (l:List α) {k:Nat} {c:α} (h:l[k]? = some c) {q:List β} (hq:q <+: f c):(l.take k).flatMap f++q <+: l.flatMap f:=by
 have h1:l=l.take (k+1)++l.drop (k+1):=(A5 _ _).symm;have h2:l.flatMap f=(l.take (k+1)).flatMap f++(l.drop (k+1)).flatMap f:=by
  conv=>lhs;rw [h1]
  rw [o9]
 rw [h2,D5 f l h,cU];exact (List.prefix_append_right_inj _).2 (hq.trans (List.prefix_append _ _))
theorem jX {e:Ending} {X Y:Prop} (h:(e=.returned (.bool true)/\X)\/(e=.returned (.bool false)/\Y)):∃bb,e=.returned (.bool bb)/\Hid ((bb=true/\X)\/(bb=false/\Y)):=by
 rcases h with ⟨h1,h2⟩ | ⟨h1,h2⟩
 ·exact ⟨true,h1,.inl ⟨rfl,h2⟩⟩
 ·exact ⟨false,h1,.inr ⟨rfl,h2⟩⟩
def GH (n base:Nat) (A:Nat->Nat) (kv:Nat->Value) (F:aW) (rk:Nat->Nat) (T:Nat->Prop) (l Bq Be N:Nat) (J Jx:List (l9 n)->World->Prop) (i:Nat):Prop :=
 ∀(par:Option Nat) (m:Nat) (pre:List (l9 n)) (W:World),(∀p,par=some p->p<n)->bz base n A kv F W->od W Bq (.func (.yield l) #[] #[])->od W Be (.func (.func 99) #[] #[.pointer (some ⟨Bq,0,none⟩),.pointer (some ⟨Be,0,none⟩)]) ->
   J pre W->pre.length+(dW F rk i par).length<=N ->
   CallsIn Fence.wide m Tryz.prog 99 #[.pointer (some ⟨A i,0,none⟩),CP A par,.pointer (some ⟨Bq,0,none⟩),.pointer (some ⟨Be,0,none⟩)] W (QK T J Jx pre (dW F rk i par) W)
theorem D6 (hwf:Wf F n rk) (hlen:∀i,i<n->(F.kids i).length<=1000) (hA:∀i,i<n->T (A i)) (hk:∀i b,i<n->(kv i).ownBlock=some b->T b) (l Bq Be N:Nat) (J Jx:List (l9 n)->World->Prop)
  (hY:∀m pre x W,J pre W->pre.length<N->YieldAt Fence.wide m Tryz.prog l (CQ A x) W fun e W'=>(e=.returned (.bool true)/\J (pre++[x]) W'/\KN T W W')\/(e=.returned (.bool false)/\Jx (pre++[x]) W'))
  {i:Nat} (hi:i<n) (ih:∀c∈F.kids i,GH n base A kv F rk T l Bq Be N J Jx c):GH n base A kv F rk T l Bq Be N J Jx i:=by
 intro par m pre W hpar hF hq he hJ hN;obtain ⟨fn,tmps,assign,body,hy,hR⟩:=hY (m - 1) pre ⟨(i,par),hi,hpar⟩ W hJ (by rw [gw hwf hi] at hN;simp at hN;omega);simp only [CQ] at hy;have hqc:=hq.cell;have HQ:=aa hq;have HE:=aa he;have HF:=aa hF;have HN:=aa hN;have tr:=aa ih;have GI:=aa hwf;have pW:=hlen i hi;have Th:Hid (∀W',KN T W W'->bz base n A kv F W'):=fun W' k=>hF.Xn k hA hk;clear hJ hq he hF hN ih hwf hlen hA hk;refine callsIn_of_wp Tryz.func99 rfl trivial ?_ rfl
 simp only [Tryz.ntmps99,gI,bB,eW,Nat.reduceAdd,Nat.reduceSub,jL,jM,gH,qI,dz,cw];gi_wp2;refine ⟨fun h=>(by cases h),?_⟩;refine hR.mono ?_;rintro e W1 dr;obtain ⟨bb,rfl,hq⟩:=jX dr;clear dr hR;cases bb
 ·gi_wp2
  go_ret;have h2:Jx (pre++[⟨(i,par),hi,hpar⟩]) W1:=by
   rcases hq.out with ⟨h1,_⟩ | ⟨_,h2⟩
   ·cases h1
   ·exact h2
  exact .inr ⟨rfl,[⟨(i,par),hi,hpar⟩],⟨_,by rw [gw GI.out hi];rfl⟩,h2⟩
 ·have xG:J (pre++[⟨(i,par),hi,hpar⟩]) W1/\KN T W W1:=by
   rcases hq.out with ⟨_,h2⟩ | ⟨h1,_⟩
   ·exact h2
   ·cases h1
  obtain ⟨hJ1,hk1⟩:=xG
  have D7:=Th.out W1 hk1
  have hown:=D7.own i hi
  obtain ⟨q,cap,hv,Xo⟩:=hown.form (n:=(F.kids i).length) (by simp)
  have hkc:=D7.rL hi
  rw [hv] at hkc
  have HV:=aa hv
  have HQQ:=aa Xo
  have Qw:Hid ((F.kids i).length=0\/∃g,q=some ⟨g,0,none⟩):=by
   rcases Xo with rfl | h
   ·obtain ⟨_,h | ⟨g,_,_,h,_⟩⟩:=hown
    ·left;have:=h.2;rw [aD] at this;exact this
    ·rw [hv] at h;cases h
   ·exact .inr h
  have HJ1:=aa hJ1
  have DW:=aa hk1
  clear hqc hq D7 hown hv Xo hJ1 hk1
  gi_wp2
  gi_loopw [19] (fun i' wr=>∃(k:Nat) (done:List (l9 n)),k<=(F.kids i).length/\i'=.int .i64 k/\Hid (cK done=((F.kids i).take k).flatMap fun c=>dW F rk c (some i))/\Hid (J (pre++[⟨(i,par),hi,hpar⟩]++done) wr)/\Hid (KN T W wr)) (fun i' _=>(F.kids i).length - (intOf i').toNat)
  case atStart=>exact ⟨0,[],bg _,rfl,rfl,by unfold Hid;rw [gm];exact HJ1.out,DW⟩
  case round =>
   obtain ⟨k,done,hk,rfl,hD,hJr,hKr⟩:=hrel
   by_cases hlt:k<(F.kids i).length
   ·obtain ⟨g,rfl⟩:∃g,q=some ⟨g,0,none⟩:=by
     rcases Qw.out with h | h
     ·omega
     ·exact h
    have hc:(F.kids i)[k]? = some (F.kids i)[k]:=kB hlt
    have Xp:=Th.out wr hKr.out
    have hrow:=Xp.E6 (j:=k) (c:=(F.kids i)[k]) hi HV.out hc
    have heb:=(HE.out.keep hKr.out).cell
    have hdl:done.length=(((F.kids i).take k).flatMap fun c=>dW F rk c (some i)).length:=by rw [<- hD.out];simp [cK]
    have vR:=tr.out (F.kids i)[k] (pg hlt) (some i) (m - 1) (pre++[⟨(i,par),hi,hpar⟩]++done) wr (fun p hp=>by cases hp;exact hi) Xp (HQ.out.keep hKr.out) (HE.out.keep hKr.out) hJr.out (by
     have h1:=ET (fun c=>dW F rk c (some i)) (F.kids i) hc
     have h2:=HN.out
     rw [gw GI.out hi] at h2
     simp only [bG,bB,eW] at h2 ⊢
     omega)
    simp only [CP] at vR
    have iz:=aa vR
    have HC:=aa hc
    have dZ:Hid ((F.kids i)[k]<n):=(GI.out.kid i hi _ (pg hlt)).1
    clear hc Xp vR hdl
    generalize (F.kids i)[k]=c at *
    gi_wp2
    refine ⟨trivial,fun h=>(by cases h),?_⟩
    refine iz.out.mono ?_
    rintro e W3 dr
    obtain ⟨bb,rfl,hq⟩:=jX dr
    clear dr iz
    cases bb
    ·gi_wp2
     go_ret
     obtain ⟨qs,hqs,hx⟩:∃qs,cK qs <+: dW F rk c (some i)/\Jx (pre++[⟨(i,par),hi,hpar⟩]++done++qs) W3:=by
      rcases hq.out with ⟨h1,_⟩ | ⟨_,h2⟩
      ·cases h1
      ·exact h2
     refine .inr ⟨rfl,⟨(i,par),hi,hpar⟩::(done++qs),?_,by simpa using hx⟩
     rw [gw GI.out hi,show cK (⟨(i,par),hi,hpar⟩::(done++qs))=(i,par)::cK (done++qs) from rfl,uG,hD.out]
     exact (List.prefix_cons_inj _).2 (AA _ _ HC.out hqs)
    ·obtain ⟨xs,hxs,hJ3,hK3⟩:∃xs,cK xs=dW F rk c (some i)/\J (pre++[⟨(i,par),hi,hpar⟩]++done++xs) W3/\KN T wr W3:=by
      rcases hq.out with ⟨_,h2⟩ | ⟨h1,_⟩
      ·exact h2
      ·cases h1
     have HJ3:Hid (J (pre++[⟨(i,par),hi,hpar⟩]++(done++xs)) W3):=by unfold Hid;rw [<- cU];exact hJ3
     have HD3:Hid (cK (done++xs)=((F.kids i).take (k+1)).flatMap fun c=>dW F rk c (some i)):=by unfold Hid;rw [uG,hD.out,hxs,D5 _ _ HC.out]
     have HK3:Hid (KN T W W3):=hKr.out.trans hK3
     clear hq hxs hJ3 hK3
     gi_wp2
     go_roundw
     case rel=>exact ⟨k+1,done++xs,by omega,by go_num,HD3,HJ3,HK3⟩
     case measure=>simp [intOf];omega
   ·gi_wp2
    go_ret
    obtain rfl:k=(F.kids i).length:=by omega
    refine .inl ⟨rfl,⟨(i,par),hi,hpar⟩::done,?_,by simpa using hJr.out,hKr.out⟩
    rw [gw GI.out hi,show cK (⟨(i,par),hi,hpar⟩::done)=(i,par)::cK done from rfl,hD.out,gq]
theorem Uv (hwf:Wf F n rk) (hlen:∀i,i<n->(F.kids i).length<=1000) (hA:∀i,i<n->T (A i)) (hk:∀i b,i<n->(kv i).ownBlock=some b->T b) (l Bq Be N:Nat) (J Jx:List (l9 n)->World->Prop)
  (hY:∀m pre x W,J pre W->pre.length<N->YieldAt Fence.wide m Tryz.prog l (CQ A x) W fun e W'=>(e=.returned (.bool true)/\J (pre++[x]) W'/\KN T W W')\/(e=.returned (.bool false)/\Jx (pre++[x]) W')) :
  ∀(d i:Nat),i<n->rk i<=d->GH n base A kv F rk T l Bq Be N J Jx i:=by
 intro d
 induction d with
 | zero=>exact fun i hi zq=>D6 hwf hlen hA hk l Bq Be N J Jx hY hi fun c hc=>absurd (hwf.kid i hi c hc).2 (by omega)
 | succ d ih=>exact fun i hi zq=>D6 hwf hlen hA hk l Bq Be N J Jx hY hi fun c hc=>ih c (hwf.kid i hi c hc).1 (by have:=(hwf.kid i hi c hc).2;omega)
theorem GJ {F:Fence} (hd:F.depth=none) (k:Nat):F.room k:=fun d h=>by rw [hd] at h;cases h
theorem YieldAt.GK {F:Fence} (hd:F.depth=none) {m:Nat} (m':Nat) {P:Program} {l:Nat} {args:Array Value} {W:World} {R:Ending->World->Prop} (h:YieldAt F m P l args W R):YieldAt F m' P l args W R:=by
 obtain ⟨fn,tmps,assign,body,hy,hR⟩:=h;exact ⟨fn,tmps,assign,body,hy,hR.1,fun c cs _=>hR.2 c cs (GJ hd _)⟩
theorem Ny (hwf:Wf F n rk) (hlen:∀i,i<n->(F.kids i).length<=1000) (hA:∀i,i<n->T (A i)) (hk:∀i b,i<n->(kv i).ownBlock=some b->T b) (m l Bx i:Nat) (hi:i<n) (J Jx:List (l9 n)->World->Prop)
  (hY:∀pre x W,J pre W->pre.length<(dW F rk i none).length->YieldAt Fence.wide (m - 1) Tryz.prog l (CQ A x) W fun e W'=>(e=.returned (.bool true)/\J (pre++[x]) W'/\KN T W W')\/(e=.returned (.bool false)/\Jx (pre++[x]) W'))
  (W:World) (Ms:AbidesFrom W.heap.size J) (hF:bz base n A kv F W) (hx:W.cell? ⟨Bx,0,none⟩=some (.pointer (some ⟨A i,0,none⟩))) (hJ:J [] W) :
  CallsIn Fence.wide m Tryz.prog 98 #[.func (.yield l) #[] #[],.pointer (some ⟨Bx,0,none⟩)] W fun e W'=>(∃v,e=.returned v) /\
   ((∃xs,cK xs=dW F rk i none/\J xs W')\/(∃q,cK q <+: dW F rk i none/\Jx q W')):=by
 have aK:Up W ((W.alloc (.cells #[.func (.yield l) #[] #[]] 161)).alloc (.cells #[.nilFunc] 161)):=(Up.alloc _ _).trans (Up.alloc _ _);have hnew:=blk_alloc_new (W.alloc (.cells #[.func (.yield l) #[] #[]] 161)) (.cells #[.nilFunc] 161);rw [aN] at hnew;have xG:((W.alloc (.cells #[.func (.yield l) #[] #[]] 161)).alloc (.cells #[.nilFunc] 161)).heap[W.heap.size]? = some (.cells #[.func (.yield l) #[] #[]] 161 (0,0)):=by rw [blk_alloc_lt _ _ _ (by simp)];exact blk_alloc_new _ _
 have hxc:=aK.cell hx;generalize hW2:(W.alloc (.cells #[.func (.yield l) #[] #[]] 161)).alloc (.cells #[.nilFunc] 161)=W2 at *;have dZ:W2.cell? ⟨W.heap.size+1,0,none⟩=some .nilFunc:=by simp [World.cell?,hnew]
 have hfn:W2.frozen? ⟨W.heap.size+1,0,none⟩=false:=by simp [World.frozen?,hnew]
 have ct:Up W (W2.setCell ⟨W.heap.size+1,0,none⟩ (.func (.func 99) #[] #[.pointer (some ⟨W.heap.size,0,none⟩),.pointer (some ⟨W.heap.size+1,0,none⟩)])):=jm aK (p:=⟨W.heap.size+1,0,none⟩) (jP _) _;have hJ2:=Ms [] W _ none hJ (⟨ct.os,ct.tape,ct.output,ct.size,fun j hj _=>aO ct j hj⟩:W.grownBy _ none) (fun r e=>by cases e)
 have hq:od (W2.setCell ⟨W.heap.size+1,0,none⟩ (.func (.func 99) #[] #[.pointer (some ⟨W.heap.size,0,none⟩),.pointer (some ⟨W.heap.size+1,0,none⟩)])) W.heap.size (.func (.yield l) #[] #[]):=by unfold od;rw [blk_setCell_other _ _ _ _ (by show W.heap.size≠W.heap.size+1;omega)];exact xG
 have he:od (W2.setCell ⟨W.heap.size+1,0,none⟩ (.func (.func 99) #[] #[.pointer (some ⟨W.heap.size,0,none⟩),.pointer (some ⟨W.heap.size+1,0,none⟩)])) (W.heap.size+1) (.func (.func 99) #[] #[.pointer (some ⟨W.heap.size,0,none⟩),.pointer (some ⟨W.heap.size+1,0,none⟩)]):=by unfold od;simp [World.setCell,Array.getElem?_modify,hnew]
 have vR:=Uv (base:=base) (A:=A) (kv:=kv) (T:=T) hwf hlen hA hk l W.heap.size (W.heap.size+1) (dW F rk i none).length J Jx (fun m' pre x W' h1 h2=>YieldAt.GK rfl m' (hY pre x W' h1 h2)) (rk i) i hi (aj _) none (m - 1) [] _ (fun p hp=>by cases hp) (hF.up ct) hq he hJ2 (by simp);simp only [CP] at vR;have hec:=he.cell;have acm:(W2.setCell ⟨W.heap.size+1,0,none⟩ (.func (.func 99) #[] #[.pointer (some ⟨W.heap.size,0,none⟩),.pointer (some ⟨W.heap.size+1,0,none⟩)])).cell? ⟨Bx,0,none⟩=some (.pointer (some ⟨A i,0,none⟩)):=ct.cell hx;have iz:=aa vR
 clear vR hJ2 hq he Ms hF hJ ct aK hY hnew xG;refine callsIn_of_wp Tryz.func98 rfl trivial ?_ rfl;simp only [Tryz.ntmps98,gI,bB,eW,Nat.reduceAdd,Nat.reduceSub,jL,jM,gH,qI,dz,cw];gi_wp2;refine ⟨trivial,fun h=>(by cases h),?_⟩;refine iz.out.mono ?_;rintro e W3 dr;obtain ⟨bb,rfl,hq⟩:=jX dr;gi_wp2
 go_end0
 refine ⟨⟨_,rfl⟩,?_⟩;rcases hq.out with ⟨_,xs,h1,h2,_⟩ | ⟨_,q,h1,h2⟩
 ·exact .inl ⟨xs,h1,by simpa using h2⟩
 ·exact .inr ⟨q,h1,by simpa using h2⟩
theorem Uw (w:World) (p:Option Addr):Calls Tryz.prog 59 #[.pointer p] w fun e w'=>e=.returned (.func (.func 98) #[] #[.pointer (some ⟨w.heap.size,0,none⟩)])/\w'=w.alloc (.cells #[.pointer p] 78):=by
 go_in;go_wp2;go_ret;exact ⟨rfl,rfl⟩
theorem Jl (hwf:Wf F n rk) (hlen:∀i,i<n->(F.kids i).length<=1000) (hA:∀i,i<n->T (A i)) (hk:∀i b,i<n->(kv i).ownBlock=some b->T b) (m Bx i:Nat) (hi:i<n) (w:World) (hT:∀b,T b->b<w.heap.size)
  (hBx:T Bx) (hF:bz base n A kv F w) (hx:w.cell? ⟨Bx,0,none⟩=some (.pointer (some ⟨A i,0,none⟩))) :
  SeqStopsK Fence.wide m Tryz.prog 98 #[.pointer (some ⟨Bx,0,none⟩)] (fun x:l9 n=>CQ A x) (KN T)
   (fun xs=>cK xs=dW F rk i none) (fun pre=>cK pre <+: dW F rk i none) (dW F rk i none).length w:=fun l J Jx W hW hJ _ hY h0 =>
 Ny hwf hlen hA hk m l Bx i hi J Jx hY W hJ (hF.same (fun j hj=>hW.block _ (hT _ (hA j hj))) (fun j b hj hb=>hW.block b (hT b (hk j b hj hb)))) ((hW.cell (p:=⟨Bx,0,none⟩) (hT _ hBx)).trans hx) h0
end
end Go.Proofs.YtfomhlbhcifgbaaGreatDoor
