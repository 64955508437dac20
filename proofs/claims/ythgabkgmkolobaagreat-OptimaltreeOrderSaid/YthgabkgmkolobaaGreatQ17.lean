/- Sorting rose trees keeps the parts; sorted twice is sorted once; the rose tree of a valid .. -/
import Derived.Test.YthgabkgmkolobaaGreatQ16
set_option maxRecDepth 100000
set_option maxHeartbeats 2000000
namespace Go.Proofs.YthgabkgmkolobaaGreat
section
theorem yK (a:RT):∀l,(ep a l).Perm (a::l)
 | []=>jP _
 | b::l=>by
  rw [ep]
  split
  ·exact jP _
  ·exact ((yK a l).cons b).trans (List.Perm.swap a b l)
theorem mZ:∀l:List RT,(cR l).Perm (l.map aY)
 | []=>jP _
 | r::rs=>by
  rw [cR,bI]
  exact (yK _ _).trans ((mZ rs).cons _)
theorem rQ (r:RT):(aY r).kids=cR r.kids:=by cases r;rfl
theorem sX (r:RT):(aY r).nm=r.nm:=by cases r;rfl
theorem kQ {l:List RT}:cR l=[]↔l=[]:=by
 constructor
 ·intro h
  have:=(mZ l).length_eq;rw [h,aD] at this;exact lu this.symm
 ·rintro rfl;rfl
theorem LP {l l':List RT} (h:l.Perm l'):(dh l).Perm (dh l'):=by
 rw [oO,oO];exact h.flatMap_right _
mutual
theorem l6:∀r:RT,(bW (aY r)).Perm ((bW r).map aY)
 | .node nm ks=>by
  rw [aY,bW,bW,bI]
  refine List.Perm.cons _ ?_
  exact (LP (mZ ks)).trans (B8 ks)
theorem B8:∀rs:List RT,(dh (rs.map aY)).Perm ((dh rs).map aY)
 | []=>jP _
 | r::rs=>by
  rw [bI,dh,dh,cm]
  exact (l6 r).append (B8 rs)
end
theorem LQ (r:RT):aK (aY r)=aK r:=by
 have:=(l6 r).length_eq;rw [aD,kO,kO] at this;exact this
theorem QN (r:RT):(dr (aY r)).Perm (dr r):=by
 rw [nU,nU];refine ((l6 r).map RT.nm).trans ?_;rw [jS];have:(RT.nm ∘ aY)=RT.nm:=funext sX;rw [this]
theorem rR (r:RT):(gH (aY r)).Perm (gH r):=(QN r).filter _
theorem kP.sort {r:RT} (h:kP r):kP (aY r):=by
 refine ⟨fun s hs hk=>?_,fun s hs hk=>?_,(rR r).nodup_iff.2 h.nd⟩
 ·obtain ⟨q,hq,rfl⟩:=di.1 ((l6 r).mem_iff.1 hs)
  rw [rQ] at hk;rw [sX];exact h.Ej q hq (fun e=>hk (kQ.2 e))
 ·obtain ⟨q,hq,rfl⟩:=di.1 ((l6 r).mem_iff.1 hs)
  rw [rQ] at hk;rw [sX];exact h.lf q hq (kQ.1 hk)
def wU:List RT->Prop
 | []=>True
 | [_]=>True
 | a::b::l=>cG (aQ a) (aQ b)<=0/\wU (b::l)
theorem wU.tail {a:RT} {l:List RT} (h:wU (a::l)):wU l:=by
 cases l with
 | nil=>trivial
 | cons b l=>exact h.2
theorem NP (a:RT) (l:List RT):∃c l',ep a l=c::l'/\(c=a\/∃t,l=c::t):=by
 cases l with
 | nil=>exact ⟨a,[],rfl,.inl rfl⟩
 | cons b l =>
  rw [ep];split
  ·exact ⟨a,b::l,rfl,.inl rfl⟩
  ·exact ⟨b,ep a l,rfl,.inr ⟨l,rfl⟩⟩
theorem Gx (a:RT):∀l,wU l->wU (ep a l)
 | [],_=>trivial
 | b::l,h=>by
  rw [ep]
  split
  ·rename_i h1;exact ⟨h1,h⟩
  ·rename_i h1
   have h2:=Gx a l h.tail
   obtain ⟨c,l',e,hc⟩:=NP a l
   rw [e] at h2 ⊢
   refine ⟨?_,h2⟩
   rcases hc with rfl | ⟨t,rfl⟩
   ·have:=iG (aQ c) (aQ b);omega
   ·exact h.1
theorem B9:∀l,wU (cR l)
 | []=>trivial
 | r::rs=>by rw [cR];exact Gx _ _ (B9 rs)
theorem Ua {a:RT} {l:List RT} (h:wU (a::l)):ep a l=a::l:=by
 cases l with
 | nil=>rfl
 | cons b l=>rw [ep,if_pos h.1]
theorem Ca:∀l:List RT,wU l->(∀r∈l,aY r=r)->cR l=l
 | [],_,_=>rfl
 | r::rs,h,hf=>by rw [cR,Ca rs h.tail (fun q hq=>hf q (by simp [hq])),hf r (by simp)];exact Ua h
mutual
theorem wV:∀r:RT,aY (aY r)=aY r
 | .node nm ks=>by
  rw [aY,aY]
  congr 1
  refine Ca _ (B9 ks) (fun q hq=>?_)
  obtain ⟨s,hs,rfl⟩:=di.1 ((mZ ks).mem_iff.1 hq)
  exact Ao ks s hs
theorem Ao:∀(rs:List RT) (s:RT),s∈rs->aY (aY s)=aY s
 | [],_,h=>by cases h
 | r::rs,s,h=>by
  by_cases e:s=r
  ·rw [e];exact wV r
  ·exact Ao rs s (by
    rcases bX.1 h with h | h
    ·exact absurd h e
    ·exact h)
end
section
variable {F:aX} {n:Nat} {rk:Nat->Nat}
theorem uo (h:Wf F n rk):∀ {d i:Nat},i<n->rk i<=d->bW (aV F rk i)=(b5 F rk i).map (aV F rk):=by
 intro d
 induction d with
 | zero =>
  intro i hi hd;have hk:F.kids i=[]:=by
   cases hk:F.kids i with
   | nil=>rfl
   | cons k l=>have:=(h.kid i hi k (by rw [hk];simp)).2;omega
  rw [cD h hi,hk];have e:aV F rk i=.node (F.nm i) []:=by rw [dY h hi,hk];rfl
  rw [e,bW,List.flatMap_nil,bI,e];rfl
 | succ d ih =>
  intro i hi hd;rw [cD h hi,bI,tX];have e:=dY h hi
  conv=>lhs;rw [e,bW,oO,zw]
  rw [<- e];congr 1;refine iK fun k hk=>?_;have:=h.kid i hi k hk;exact ih this.1 (by omega)
theorem vJ (h:Wf F n rk) {i:Nat} (hi:i<n):(aV F rk i).nm=F.nm i:=by rw [dY h hi];rfl
theorem yL (h:Wf F n rk) {i:Nat} (hi:i<n):(aV F rk i).kids=(F.kids i).map (aV F rk):=by rw [dY h hi];rfl
end
theorem iU {t:aF} (h:aB t=0) {j:Nat} (hj:j∈b5 (fU t) (dx t) 0):j<t.ps.length :=
 pR (eM h).wf (aM h).1 (ah _) ((eL (eM h).wf (aM h).1 (ah _)).1 hj)
theorem wW {t:aF} (h:aB t=0):bW (iy t)=(b5 (fU t) (dx t) 0).map (aV (fU t) (dx t)):=uo (eM h).wf (aM h).1 (ah _)
theorem Ek {t:aF} (h:aB t=0):aK (iy t)<=64:=by
 rw [<- kO,wW h,aD];have h1:=pU (j9 (eM h) (R:=t.ps.length) (fun i _=>vH t i) (aM h).1 (ah _)) (fun x hx=>iU h hx);have:=(aM h).2.1;omega
theorem Kn {t:aF} (h:aB t=0):dr (iy t)=(b5 (fU t) (dx t) 0).map (gs t.ns):=by
 rw [nU,wW h,jS];refine jR fun j hj=>?_;exact vJ (eM h).wf (iU h hj)
theorem Gy {ps:List Int} {ns:List ByteArray} {i:Nat} (h:jC ps ns i=0) (hi:isIn ps i=true):(gs ns i).size=0:=by
 unfold jC at h;rw [if_pos hi] at h;split at h
 ·assumption
 ·cases h
theorem NQ {ps:List Int} {ns:List ByteArray} {i:Nat} (h:jC ps ns i=0) (hi:isIn ps i=false):bu (gs ns i).data.toList=true/\dW ns i=false:=by
 unfold jC at h;rw [hi,if_neg (by simp)] at h;split at h
 ·rename_i h1
  refine ⟨h1,?_⟩;cases hs:dW ns i with
  | false=>rfl
  | true=>rw [hs] at h;cases h
 ·cases h
theorem Gz {t:aF} (h:aB t=0):kP (iy t):=by
 obtain ⟨hp,hl,hn,hok,he⟩:=aM h;have hwf:=(eM h).wf;refine ⟨fun s hs hk=>?_,fun s hs hk=>?_,?_⟩
 ·rw [wW h] at hs
  obtain ⟨j,hj,rfl⟩:=di.1 hs;have hjn:=iU h hj;rw [yL hwf hjn] at hk;rw [vJ hwf hjn];have:isIn t.ps j=true:=(lV hok j).1 (fun e=>hk (by rw [kM,e];rfl));exact Gy (he j hjn) this
 ·rw [wW h] at hs
  obtain ⟨j,hj,rfl⟩:=di.1 hs;have hjn:=iU h hj;rw [yL hwf hjn] at hk;rw [vJ hwf hjn];have:isIn t.ps j=false:=by
   cases hb:isIn t.ps j with
   | false=>rfl
   | true=>exact absurd (List.map_eq_nil_iff.1 hk) ((lV hok j).2 hb)
  exact (NQ (he j hjn) this).1
 ·unfold gH
  rw [Kn h,List.filter_map];have gV:=j9 (eM h) (R:=t.ps.length) (fun i _=>vH t i) hp (ah _);refine List.pairwise_map.2 (List.Pairwise.imp_of_mem ?_ (List.Pairwise.filter _ gV));intro a b ha hb hne e;have ha':=ny.1 ha;have hb':=ny.1 hb;have NK:=iU h ha'.1;have NR:=iU h hb'.1;have leaf:∀i,i<t.ps.length->(gs t.ns i).size≠0->(fU t).kids i=[]:=fun i hi hs=>by
   rw [kM];cases hk:b7 t.ps i with
   | nil=>rfl
   | cons x l=>exact absurd (Gy (he i hi) ((lV hok i).1 (by rw [hk];simp))) hs
  exact hne ((eM h).acw a b NK NR (leaf a NK (by simpa using ha'.2)) (leaf b NR (by simpa using hb'.2)) e)
end
section
open Go.RowKit Go.Deep
theorem Tryz.jF:(Tryz.prog.info? 9).map (fun i=>(i.zero,i.size,i.bytes))=some (some (.string ⟨#[]⟩),1,16):=by kernel_rfl
structure GK (tb:Nat) (w W:World) (P N P' N':Value):Prop where
 os:W.os=w.os
 tape:W.tape=w.tape
 output:W.output=w.output
 size:w.heap.size<=W.heap.size
 block:∀b,b<w.heap.size->b≠tb->some b≠P.ownBlock->some b≠N.ownBlock->W.heap[b]? = w.heap[b]?
 pW:∀b,P'.ownBlock=some b->P.ownBlock=some b\/w.heap.size<=b
 pX:∀b,N'.ownBlock=some b->N.ownBlock=some b\/w.heap.size<=b
theorem GK.refl (tb:Nat) (w:World) (P N:Value):GK tb w w P N P N:=⟨rfl,rfl,rfl,ah _,fun _ _ _ _ _=>rfl,fun _ h=>.inl h,fun _ h=>.inl h⟩
theorem GK.trans {tb:Nat} {w W X:World} {P N P' N' P2 N2:Value} (h:GK tb w W P N P' N') (k:GK tb W X P' N' P2 N2):GK tb w X P N P2 N2 :=
 ⟨k.os.trans h.os,k.tape.trans h.tape,k.output.trans h.output,aR h.size k.size,fun b hb h1 h2 h3=>by
  rw [<- h.block b hb h1 h2 h3]
  refine k.block b (mm hb h.size) h1 (fun e=>?_) (fun e=>?_)
  ·rcases h.pW b e.symm with h4 | h4
   ·exact h2 h4.symm
   ·omega
  ·rcases h.pX b e.symm with h4 | h4
   ·exact h3 h4.symm
   ·omega,
  fun b hb=>by
   rcases k.pW b hb with h4 | h4
   ·exact h.pW b h4
   ·exact .inr (aR h.size h4),
  fun b hb=>by
   rcases k.pX b hb with h4 | h4
   ·exact h.pX b h4
   ·exact .inr (aR h.size h4)⟩
theorem GK.up {tb:Nat} {w W X:World} {P N P' N':Value} (h:GK tb w W P N P' N') (k:Up W X):GK tb w X P N P' N' :=
 ⟨k.os.trans h.os,k.tape.trans h.tape,k.output.trans h.output,aR h.size k.size,fun b hb h1 h2 h3=>(bH k b (mm hb h.size)).trans (h.block b hb h1 h2 h3),h.pW,h.pX⟩
structure TL (B0:Nat) (W:World) (P N:Value) (ps:List Int) (ns:List ByteArray):Prop where
 dG:ax B0 3 W P (ps.map (Value.int .i64))
 en:ax B0 9 W N (ns.map Value.string)
 apart:∀b,P.ownBlock=some b->N.ownBlock≠some b
theorem ax.iC {base:Nat} {e:TypeId} {w w':World} {v:Value} {vs:List Value} (h:ax base e w v vs) (k:∀b,v.ownBlock=some b->w'.heap[b]? = w.heap[b]?):ax base e w' v vs:=by
 refine ⟨h.1,?_⟩;rcases h.2 with h0 | ⟨g,cap,cur,rfl,hg,hc,hr⟩
 ·exact .inl h0
 ·exact .inr ⟨g,cap,cur,rfl,hg,(k g rfl).trans hc,hr⟩
section
variable {tb B0:Nat} {w W W':World} {P N Pv Nv:Value} {ps:List Int} {ns:List ByteArray}
theorem TL.up (h:TL B0 W Pv Nv ps ns) (hu:Up W W'):TL B0 W' Pv Nv ps ns :=
 ⟨h.dG.iC fun b hb=>bH hu b (aG h.dG hb).2,h.en.iC fun b hb=>bH hu b (aG h.en hb).2,h.apart⟩
end
def aF.push (t:aF) (p:Int) (s:ByteArray):aF:=⟨t.ps++[p],t.ns++[s]⟩
end
section
open Go.RowKit Go.Deep
def vN (vs:List Value) (k:Nat):Value:=vs.getD k undef
mutual
def cK (S:Nat->Prop) (w:World):RT->Value->Prop
 | .node nm ks,v=>∃b kv vs,v=.pointer (some ⟨b,0,none⟩)/\S b/\w.heap[b]? = some (.cells #[.string nm,kv] 254 (0,0))/\aA S w kv ks.length (vN vs)/\aT S w ks vs
def aT (S:Nat->Prop) (w:World):List RT->List Value->Prop
 | [],vs=>vs=[]
 | r::rs,vs=>∃u us,vs=u::us/\cK S w r u/\aT S w rs us
end
mutual
theorem cK.keep {S:Nat->Prop} {w w':World} (k:Kept S w w'):∀(r:RT) {v:Value},cK S w r v->cK S w' r v
 | .node nm ks,v,h=>by
  unfold cK at h ⊢
  obtain ⟨b,kv,vs,rfl,hS,hb,hk,hs⟩:=h
  exact ⟨b,kv,vs,rfl,hS,(k b hS (fW.1 hb).1).trans hb,hk.keep k,aT.keep k ks hs⟩
theorem aT.keep {S:Nat->Prop} {w w':World} (k:Kept S w w'):∀(rs:List RT) {vs:List Value},aT S w rs vs->aT S w' rs vs
 | [],_,h=>by unfold aT at h ⊢;exact h
 | r::rs,vs,h=>by
  unfold aT at h ⊢
  obtain ⟨u,us,rfl,h1,h2⟩:=h
  exact ⟨u,us,rfl,cK.keep k r h1,aT.keep k rs h2⟩
end
mutual
theorem cK.sub {S T:Nat->Prop} {w:World} (k:∀b,S b->b<w.heap.size->T b):∀(r:RT) {v:Value},cK S w r v->cK T w r v
 | .node nm ks,v,h=>by
  unfold cK at h ⊢
  obtain ⟨b,kv,vs,rfl,hS,hb,hk,hs⟩:=h
  exact ⟨b,kv,vs,rfl,k b hS (fW.1 hb).1,hb,hk.sub k,aT.sub k ks hs⟩
theorem aT.sub {S T:Nat->Prop} {w:World} (k:∀b,S b->b<w.heap.size->T b):∀(rs:List RT) {vs:List Value},aT S w rs vs->aT T w rs vs
 | [],_,h=>by unfold aT at h ⊢;exact h
 | r::rs,vs,h=>by
  unfold aT at h ⊢
  obtain ⟨u,us,rfl,h1,h2⟩:=h
  exact ⟨u,us,rfl,cK.sub k r h1,aT.sub k rs h2⟩
end
theorem aT.len {S:Nat->Prop} {w:World}:∀(rs:List RT) {vs:List Value},aT S w rs vs->vs.length=rs.length
 | [],_,h=>by unfold aT at h;subst h;rfl
 | r::rs,vs,h=>by
  unfold aT at h
  obtain ⟨u,us,rfl,_,h2⟩:=h
  rw [aO,aO,aT.len rs h2]
def gr (rs:List RT) (k:Nat):RT:=rs.getD k (.node ByteArray.empty [])
theorem aT.get {S:Nat->Prop} {w:World}:∀(rs:List RT) {vs:List Value},aT S w rs vs->∀k,k<rs.length->cK S w (gr rs k) (vN vs k)
 | [],_,_,k,hk=>absurd hk (bS _)
 | r::rs,vs,h,k,hk=>by
  unfold aT at h
  obtain ⟨u,us,rfl,h1,h2⟩:=h
  cases k with
  | zero=>exact h1
  | succ k=>exact aT.get rs h2 k (by simpa using hk)
theorem aT.app {S:Nat->Prop} {w:World} {r:RT} {u:Value} (hr:cK S w r u):∀(rs:List RT) {vs:List Value},aT S w rs vs->aT S w (rs++[r]) (vs++[u])
 | [],vs,h=>by
  unfold aT at h;subst h
  show aT S w [r] [u]
  unfold aT
  exact ⟨u,[],rfl,hr,by unfold aT;rfl⟩
 | q::rs,vs,h=>by
  unfold aT at h
  obtain ⟨x,us,rfl,h1,h2⟩:=h
  show aT S w (q::(rs++[r])) (x::(us++[u]))
  unfold aT
  exact ⟨x,us++[u],rfl,h1,aT.app hr rs h2⟩
theorem cK.open {S:Nat->Prop} {w:World} {r:RT} {v:Value} (h:cK S w r v):∃b kp kc vs,v=.pointer (some ⟨b,0,none⟩)/\S b/\w.cell? ⟨b,0,none⟩=some (.string r.nm)/\w.cell? ⟨b,1,none⟩=some (.slice kp r.kids.length kc)/\aA S w (.slice kp r.kids.length kc) r.kids.length (vN vs)/\aT S w r.kids vs:=by
 cases r with
 | node nm ks =>
  unfold cK at h;obtain ⟨b,kv,vs,rfl,hS,hb,hk,hs⟩:=h;obtain ⟨kp,kc,rfl,_,_⟩:=aA.open hk;exact ⟨b,kp,kc,vs,rfl,hS,by simp [World.cell?,hb,RT.nm],by simp [World.cell?,hb,RT.kids],hk,hs⟩
theorem oQ {p:Option Addr} {n cap:Nat} {S:Nat->Prop} {w:World} {vs:List Value} (h:aA S w (.slice p n cap) n (vN vs)) {k:Nat} (hk:k<n):∃b off,p=some ⟨b,off,none⟩/\w.cell? ⟨b,off+k,none⟩=some (vN vs k):=by
 obtain ⟨q,c,e,_,H⟩:=aA.open h;injection e with e1;subst e1;exact H k hk
structure lJ (base B:Nat) (w:World) (nm:ByteArray) (kv:Value) (rs:List RT):Prop where
 node:w.heap[B]? = some (.cells #[.string nm,kv] 254 (0,0))
 lo:base<=B
 kids:∃vs,ax (B+1) 210 w kv vs/\aT (fun b=>base<=b/\b≠B/\kv.ownBlock≠some b) w rs vs
theorem lJ.lt {base B:Nat} {w:World} {nm:ByteArray} {kv:Value} {rs:List RT} (h:lJ base B w nm kv rs):B<w.heap.size:=(fW.1 h.node).1
theorem lJ.cells {base B:Nat} {w:World} {nm:ByteArray} {kv:Value} {rs:List RT} (h:lJ base B w nm kv rs):w.cell? ⟨B,0,none⟩=some (.string nm)/\w.cell? ⟨B,1,none⟩=some kv/\w.frozen? ⟨B,0,none⟩=false/\w.frozen? ⟨B,1,none⟩=false:=by
 refine ⟨?_,?_,?_,?_⟩<;>simp [World.cell?,World.frozen?,h.node]
theorem lJ.start (w:World) {base:Nat} (hb:base<=w.heap.size) (nm:ByteArray):lJ base w.heap.size (w.alloc (.cells #[.string nm,.slice none 0 0] 254)) nm (.slice none 0 0) [] :=
 ⟨qB _ _,hb,[],ax.nil _ _ _,by unfold aT;rfl⟩
theorem lJ.up {base B:Nat} {w w':World} {nm:ByteArray} {kv:Value} {rs:List RT} (h:lJ base B w nm kv rs) (hu:Up w w'):lJ base B w' nm kv rs:=by
 obtain ⟨vs,ho,hr⟩:=h.kids;exact ⟨(bH hu B h.lt).trans h.node,h.lo,vs,ho.kept fun b _ hb=>bH hu b hb,aT.keep (hu.kept _) rs hr⟩
theorem lJ.done {base B:Nat} {w:World} {nm:ByteArray} {kv:Value} {rs:List RT} (h:lJ base B w nm kv rs):cK (fun b=>base<=b) w (.node nm rs) (.pointer (some ⟨B,0,none⟩)):=by
 obtain ⟨vs,ho,hr⟩:=h.kids;have hlen:=aT.len rs hr;unfold cK;have h1:=ho.yl;rw [hlen] at h1;exact ⟨B,kv,vs,rfl,h.lo,h.node,h1.sub fun b hb _=>by have:=h.lo;omega,aT.sub (fun b hb _=>hb.1) rs hr⟩
theorem lJ.push {base B:Nat} {w W:World} {nm:ByteArray} {kv kv':Value} {rs:List RT} {r:RT} {u:Value} {lim:Nat} (h:lJ base B w nm kv rs) (hr:cK (fun b=>lim<=b) w r u) (jg:base<=lim) (hl2:B<lim) (Em:∀b,kv.ownBlock=some b->b<lim)
  {vs:List Value} (hv:aT (fun b=>base<=b/\b≠B/\kv.ownBlock≠some b) w rs vs) (ho:ax (B+1) 210 W kv' (vs++[u])) (hg:w.grownBy W kv.ownBlock) (eZ:∀b,kv'.ownBlock=some b->kv.ownBlock=some b\/w.heap.size<=b) :
  lJ base B (W.setCell ⟨B,1,none⟩ kv') nm kv' (rs++[r]):=by
 have hBl:=h.lt;have hBk:kv.ownBlock≠some B:=fun e=>by obtain ⟨V5,Ab,_⟩:=h.kids;have:=(aG Ab e).1;omega
 have aas:kv'.ownBlock≠some B:=fun e=>by
  rcases eZ B e with h1 | h1
  ·exact hBk h1
  ·omega
 have dw:∀b,b≠B->(W.setCell ⟨B,1,none⟩ kv').heap[b]? = W.heap[b]?:=fun b hb=>blk_setCell_other _ _ _ _ hb;have hB:W.heap[B]? = w.heap[B]?:=hg.block B hBl (fun e=>hBk e.symm);have hkeep:∀b,b≠B->kv.ownBlock≠some b->b<w.heap.size->(W.setCell ⟨B,1,none⟩ kv').heap[b]? = w.heap[b]?:=fun b h1 h2 h3=>(dw b h1).trans (hg.block b h3 fun e=>h2 e.symm);refine ⟨?_,h.lo,vs++[u],ho.iC fun b hb=>dw b (fun e=>aas (by rw [hb,e])),?_⟩
 ·have hn:=hB.trans h.node
  simp [World.setCell,Array.getElem?_modify,hn]
 ·have k1:Kept (fun b=>base<=b/\b≠B/\kv.ownBlock≠some b) w (W.setCell ⟨B,1,none⟩ kv'):=fun b hb hl=>hkeep b hb.2.1 hb.2.2 hl
  have k2:Kept (fun b=>lim<=b) w (W.setCell ⟨B,1,none⟩ kv'):=fun b hb hl=>hkeep b (by have:lim<=b:=hb;omega) (fun e=>by have:=Em b e;have:lim<=b:=hb;omega) hl;have hsz:(W.setCell ⟨B,1,none⟩ kv').heap.size=W.heap.size:=by simp [World.size_setCell]
  have hold:∀b,b<w.heap.size->kv.ownBlock≠some b->kv'.ownBlock≠some b:=fun b h1 h2 e=>by
   rcases eZ b e with h3 | h3
   ·exact h2 h3
   ·omega
  have h1:aT (fun b=>base<=b/\b≠B/\kv'.ownBlock≠some b) w rs vs:=aT.sub (fun b hb hl=>⟨hb.1,hb.2.1,hold b hl hb.2.2⟩) rs hv;have h2:cK (fun b=>base<=b/\b≠B/\kv'.ownBlock≠some b) w r u:=cK.sub (fun b hb hl=>⟨by have:lim<=b:=hb;omega,by have:lim<=b:=hb;omega,hold b hl fun e=>by have:=Em b e;have:lim<=b:=hb;omega⟩) r hr;have k3:Kept (fun b=>base<=b/\b≠B/\kv'.ownBlock≠some b/\kv.ownBlock≠some b) w (W.setCell ⟨B,1,none⟩ kv'):=fun b hb hl=>hkeep b hb.2.1 hb.2.2.2 hl
  have h1':aT (fun b=>base<=b/\b≠B/\kv'.ownBlock≠some b/\kv.ownBlock≠some b) w rs vs:=aT.sub (fun b hb hl=>⟨hb.1,hb.2.1,hold b hl hb.2.2,hb.2.2⟩) rs hv;have DM:cK (fun b=>base<=b/\b≠B/\kv'.ownBlock≠some b/\kv.ownBlock≠some b) w r u:=cK.sub (fun b hb hl=>⟨by have:lim<=b:=hb;omega,by have:lim<=b:=hb;omega,hold b hl fun e=>by have:=Em b e;have:lim<=b:=hb;omega,fun e=>by have:=Em b e;have:lim<=b:=hb;omega⟩) r hr;exact aT.sub (fun b hb _=>⟨hb.1,hb.2.1,hb.2.2.1⟩) _ (aT.app (cK.keep k3 r DM) rs (aT.keep k3 rs h1'))
end
section
open Go.RowKit Go.Deep
def yM (a b:ByteArray):Bool:=Op.bytesLess a.toList b.toList
def jG (a b:ByteArray):ByteArray:=if (yM a b || a.toList==b.toList)=true then a else b
mutual
def dS:RT->ByteArray
 | .node nm []=>nm
 | .node _ (k::ks)=>iD (dS k) ks
def iD (s:ByteArray):List RT->ByteArray
 | []=>s
 | r::rs=>iD (jG s (dS r)) rs
end
theorem En (s:ByteArray):∀(a b:List RT),iD s (a++b)=iD (iD s a) b
 | [],_=>by rw [iD];rfl
 | r::a,b=>by rw [bz,iD,iD];exact En _ a b
theorem LR {s:ByteArray} {rs:List RT} {j:Nat} (h:j<rs.length):iD s (rs.take (j+1))=jG (iD s (rs.take j)) (dS (gr rs j)):=by
 have hg:gr rs j=rs[j]:=by simp [gr,h]
 rw [jo h,En,iD,iD,hg]
theorem JE {P:Program} {w:World} (ts:Array TypeId) (t:TypeId) (x y:ByteArray):(Builtin.min_ ts t #[.string x,.string y]).run P w=.ok (.string (jG x y)) w:=by
 unfold jG yM;simp [Builtin.min_,Builtin.min2,Op.stringOp,asBool]
theorem r7 {ks:List RT} {j:Nat} (h:j<ks.length):aK (gr ks j)<=aU ks:=by
 induction ks generalizing j with
 | nil=>simp at h
 | cons k ks ih =>
  rw [aU]
  cases j with
  | zero=>show aK k<=_;omega
  | succ j =>
   have:=ih (j:=j) (by simpa using h)
   show aK (gr ks j)<=_
   omega
theorem oT:∀ks:List RT,ks.length<=aU ks
 | []=>ah _
 | k::ks=>by
  have:=oT ks
  have:=lZ k
  rw [aU,aO];omega
theorem GA (S:Nat->Prop):∀(d:Nat) (r:RT),aK r<=d->d<=1000000->∀(w:World) (v:Value),cK S w r v->Calls Tryz.prog 254 #[v] w fun e w'=>e=.returned (.string (dS r))/\w=w':=by
 intro d
 induction d with
 | zero=>intro r hr;have:=lZ r;omega
 | succ d ih =>
 intro r hr hd w v hv;cases r with
 | node nm ks =>
  obtain ⟨b,kp,kc,vs,rfl,hS,c0,c1,hk,hs⟩:=hv.open;simp only [RT.nm,RT.kids] at c0 c1 hk hs;have fT:=oT ks;rw [aK] at hr;have kD:Hid (∀j,j<ks.length->Calls Tryz.prog 254 #[vN vs j] w fun e w'=>e=.returned (.string (dS (gr ks j)))/\w=w'):=fun j hj=>by have:=r7 hj;exact ih _ (by omega) (by omega) w _ (aT.get ks hs j hj)
  have HK:=aa hk;clear ih hv hS hs hk;cases ks with
  | nil =>
   clear hr
   go_enter Tryz.func254,Tryz.ntmps254
   go_wp2_with fail;go_ret;exact ⟨rfl,rfl⟩
  | cons k0 rs =>
   obtain ⟨kb,ko,rfl,hc0⟩:=oQ HK.out (show 0<(k0::rs).length by simp);(have d0:(((k0::rs).length:Int)==0)=false:=by simp;omega);(have hpos:(0:Int)<((k0::rs).length:Int):=by rw [aO];omega);(have HL:Hid (dS (.node nm (k0::rs))=iD (dS k0) rs):=by unfold Hid;rw [dS]);have H0:Hid (Calls Tryz.prog 254 #[vN vs 0] w fun e w'=>e=.returned (.string (dS k0))/\w=w'):=kD.out 0 (by simp);have fN:Hid ((k0::rs).length=rs.length+1):=aO;(have kV:Hid ((k0::rs).length<=1000000):=by unfold Hid;omega);rw [nA] at hc0;clear hr;generalize (k0::rs).length=n at *
   go_enter Tryz.func254,Tryz.ntmps254
   go_wp2_with fail;refine H0.out.mono ?_;rintro e w' ⟨rfl,rfl⟩;go_wp2_with fail
   go_loop [3,4] (fun a i=>∃j:Nat,j<=rs.length/\i=.int .i64 (j+1:Nat)/\a=.string (iD (dS k0) (rs.take j))) (fun _ i=>n - (intOf i).toNat)
   case atStart=>exact ⟨0,aI _,rfl,by rw [List.take_zero,iD]⟩
   case round =>
    obtain ⟨j,hj,rfl,rfl⟩:=hrel;by_cases hlt:j<rs.length
    ·obtain ⟨kb2,ko2,e2,xG⟩:=oQ HK.out (show j+1<n by have:=fN.out;omega)
     injection e2 with e2;injection e2 with e3 e4;subst e3;subst e4;have HJ:Hid (Calls Tryz.prog 254 #[vN vs (j+1)] w fun e w'=>e=.returned (.string (dS (gr rs j)))/\w=w'):=kD.out (j+1) (by have:=fN.out;omega);have HT:=aa (LR (s:=dS k0) hlt);(have i1:(0:Int)<=((j+1:Nat):Int):=by omega);(have i2:((j+1:Nat):Int)<(n:Int):=by have:=fN.out;omega);(have i3:((j+1:Nat):Int)<1000000:=by have:=fN.out;have:=kV.out;omega);have bG:=aa hlt;have hmin:=fun ts t=>JE (P:=Tryz.prog) (w:=w) ts t (iD (dS k0) (rs.take j)) (dS (gr rs j));generalize hm:j+1=m at *;clear hlt hj hc0
     go_wp2_with fail;refine HJ.out.mono ?_;rintro e w' ⟨rfl,rfl⟩;go_wp2_with fail
     go_round
     case rel=>exact ⟨m,by have:=bG.out;omega,by go_num,by rw [HT.out]⟩
     case measure=>have:=bG.out;have:=fN.out;simp [intOf];omega
    ·obtain rfl:j=rs.length:=by omega
     (have d1:decide (((rs.length+1:Nat):Int)<(n:Int))=false:=by simp;have:=fN.out;omega);(have hnl:¬(((rs.length+1:Nat):Int)<(n:Int)):=by have:=fN.out;omega);have iu:=aa hnl;go_wp2_with fail;go_ret;exact ⟨by rw [HL.out];rfl,rfl⟩
end
section
def aF.app (t:aF) (r:RT) (p:Int):aF:=⟨t.ps++iw r t.ps.length p,t.ns++dr r⟩
def aF.apps (t:aF) (rs:List RT) (own:Nat):aF:=⟨t.ps++eo rs own t.ps.length,t.ns++dL rs⟩
theorem GC:∀(a b:List RT) (own n:Nat),eo (a++b) own n=eo a own n++eo b own (n+aU a)
 | [],_,_,_=>rfl
 | r::a,b,own,n=>by rw [bz,eo,eo,GC a b own (n+aK r),aU,bZ,Nat.add_assoc]
theorem GD:∀(a b:List RT),dL (a++b)=dL a++dL b
 | [],_=>rfl
 | r::a,b=>by rw [bz,dL,dL,GD a b,bZ]
theorem QO (t:aF) (own:Nat):t.apps [] own=t:=by simp [aF.apps,eo,dL]
theorem NT (t:aF) (a b:List RT) (own:Nat):(t.apps a own).apps b own=t.apps (a++b) own:=by
 unfold aF.apps;rw [GC,GD,bZ,bZ,bg,pV]
theorem QS (t:aF) (a:List RT) (r:RT) (own:Nat):(t.apps a own).app r (own:Int)=t.apps (a++[r]) own:=by
 rw [<- NT];simp [aF.apps,aF.app,eo,dL]
end
end Go.Proofs.YthgabkgmkolobaaGreat
