/- Sorting rose trees keeps the parts; sorted twice is sorted once; the rose tree of a valid .. -/
import Derived.Test.YthgabkgmkolobaaGreatQ23
set_option maxRecDepth 100000
namespace Go.Proofs.YthgabkgmkolobaaGreat
section
theorem CQ (a:RT):∀l,(insR a l).Perm (a::l)
 | []=>List.Perm.refl _
 | b::l=>by
  rw [insR]
  split
  ·exact List.Perm.refl _
  ·exact ((CQ a l).cons b).trans (List.Perm.swap a b l)
theorem lB:∀l:List RT,(dI l).Perm (l.map sortR)
 | []=>List.Perm.refl _
 | r::rs=>by
  rw [dI,List.map_cons]
  exact (CQ _ _).trans ((lB rs).cons _)
theorem qc (r:RT):(sortR r).kids=dI r.kids:=by cases r;rfl
theorem qY (r:RT):(sortR r).nm=r.nm:=by cases r;rfl
theorem mR {l:List RT}:dI l=[]↔l=[]:=by
 constructor
 ·intro h
  have:=(lB l).length_eq;rw [h,List.length_map] at this;exact List.eq_nil_of_length_eq_zero this.symm
 ·rintro rfl;rfl
theorem J9 {l l':List RT} (h:l.Perm l'):(subRs l).Perm (subRs l'):=by
 rw [mQ,mQ];exact h.flatMap_right _
mutual
theorem kz:∀r:RT,(subR (sortR r)).Perm ((subR r).map sortR)
 | .node nm ks=>by
  rw [sortR,subR,subR,List.map_cons]
  refine List.Perm.cons _ ?_
  exact (J9 (lB ks)).trans (Ar ks)
theorem Ar:∀rs:List RT,(subRs (rs.map sortR)).Perm ((subRs rs).map sortR)
 | []=>List.Perm.refl _
 | r::rs=>by
  rw [List.map_cons,subRs,subRs,List.map_append]
  exact (kz r).append (Ar rs)
end
theorem Ka (r:RT):aL (sortR r)=aL r:=by
 have:=(kz r).length_eq;rw [List.length_map,jw,jw] at this;exact this
theorem Pq (r:RT):(cF (sortR r)).Perm (cF r):=by
 rw [mq,mq];refine ((kz r).map RT.nm).trans ?_;rw [List.map_map];have:(RT.nm ∘ sortR)=RT.nm:=funext qY;rw [this]
theorem qd (r:RT):(fA (sortR r)).Perm (fA r):=(Pq r).filter _
theorem jR.sort {r:RT} (h:jR r):jR (sortR r):=by
 refine ⟨fun s hs hk=>?_,fun s hs hk=>?_,(qd r).nodup_iff.2 h.nd⟩
 ·obtain ⟨q,hq,rfl⟩:=List.mem_map.1 ((kz r).mem_iff.1 hs)
  rw [qc] at hk;rw [qY];exact h.CP q hq (fun e=>hk (mR.2 e))
 ·obtain ⟨q,hq,rfl⟩:=List.mem_map.1 ((kz r).mem_iff.1 hs)
  rw [qc] at hk;rw [qY];exact h.lf q hq (mR.1 hk)
def uy:List RT→Prop
 | []=>True
 | [_]=>True
 | a::b::l=>b6 (firstR a) (firstR b)≤0∧uy (b::l)
theorem uy.tail {a:RT} {l:List RT} (h:uy (a::l)):uy l:=by
 cases l with
 | nil=>trivial
 | cons b l=>exact h.2
theorem Mu (a:RT) (l:List RT):∃c l',insR a l=c::l'∧(c=a∨∃t,l=c::t):=by
 cases l with
 | nil=>exact ⟨a,[],rfl,.inl rfl⟩
 | cons b l =>
  rw [insR];split
  ·exact ⟨a,b::l,rfl,.inl rfl⟩
  ·exact ⟨b,insR a l,rfl,.inr ⟨l,rfl⟩⟩
theorem Fh (a:RT):∀l,uy l→uy (insR a l)
 | [],_=>trivial
 | b::l,h=>by
  rw [insR]
  split
  ·rename_i h1;exact ⟨h1,h⟩
  ·rename_i h1
   have h2:=Fh a l h.tail
   obtain ⟨c,l',e,hc⟩:=Mu a l
   rw [e] at h2 ⊢
   refine ⟨?_,h2⟩
   rcases hc with rfl | ⟨t,rfl⟩
   ·have:=gq (firstR c) (firstR b);omega
   ·exact h.1
theorem Au:∀l,uy (dI l)
 | []=>trivial
 | r::rs=>by rw [dI];exact Fh _ _ (Au rs)
theorem SN {a:RT} {l:List RT} (h:uy (a::l)):insR a l=a::l:=by
 cases l with
 | nil=>rfl
 | cons b l=>rw [insR,if_pos h.1]
theorem Av:∀l:List RT,uy l→(∀r∈l,sortR r=r)→dI l=l
 | [],_,_=>rfl
 | r::rs,h,hf=>by rw [dI,Av rs h.tail (fun q hq=>hf q (by simp [hq])),hf r (by simp)];exact SN h
mutual
theorem uz:∀r:RT,sortR (sortR r)=sortR r
 | .node nm ks=>by
  rw [sortR,sortR]
  congr 1
  refine Av _ (Au ks) (fun q hq=>?_)
  obtain ⟨s,hs,rfl⟩:=List.mem_map.1 ((lB ks).mem_iff.1 hq)
  exact yK ks s hs
theorem yK:∀(rs:List RT) (s:RT),s∈rs→sortR (sortR s)=sortR s
 | [],_,h=>by cases h
 | r::rs,s,h=>by
  by_cases e:s=r
  ·rw [e];exact uz r
  ·exact yK rs s (by
    rcases List.mem_cons.1 h with h | h
    ·exact absurd h e
    ·exact h)
end
section
variable {F:aU} {n:Nat} {rk:Nat→Nat}
theorem rX (h:Wf F n rk):∀ {d i:Nat},i<n→rk i≤d→subR (aT F rk i)=(bK F rk i).map (aT F rk):=by
 intro d
 induction d with
 | zero =>
  intro i hi hd;have hk:F.kids i=[]:=by
   cases hk:F.kids i with
   | nil=>rfl
   | cons k l=>have:=(h.kid i hi k (by rw [hk];simp)).2;omega
  rw [bY h hi,hk];have e:aT F rk i=.node (F.nm i) []:=by rw [dD h hi,hk];rfl
  rw [e,subR,List.flatMap_nil,List.map_cons,e];rfl
 | succ d ih =>
  intro i hi hd;rw [bY h hi,List.map_cons,List.map_flatMap];have e:=dD h hi
  conv=>lhs;rw [e,subR,mQ,List.flatMap_map]
  rw [← e];congr 1;refine gz fun k hk=>?_;have:=h.kid i hi k hk;exact ih this.1 (by omega)
theorem tE (h:Wf F n rk) {i:Nat} (hi:i<n):(aT F rk i).nm=F.nm i:=by rw [dD h hi];rfl
theorem xu (h:Wf F n rk) {i:Nat} (hi:i<n):(aT F rk i).kids=(F.kids i).map (aT F rk):=by rw [dD h hi];rfl
end
theorem gJ {t:aD} (h:aB t=0) {j:Nat} (hj:j∈bK (fL t) (cW t) 0):j<t.ps.length :=
 nP (dV h).wf (aJ h).1 (Nat.le_refl _) ((dN (dV h).wf (aJ h).1 (Nat.le_refl _)).1 hj)
theorem uA {t:aD} (h:aB t=0):subR (iA t)=(bK (fL t) (cW t) 0).map (aT (fL t) (cW t)):=rX (dV h).wf (aJ h).1 (Nat.le_refl _)
theorem CR {t:aD} (h:aB t=0):aL (iA t)≤64:=by
 rw [← jw,uA h,List.length_map];have h1:=nQ (iY (dV h) (R:=t.ps.length) (fun i _=>tC t i) (aJ h).1 (Nat.le_refl _)) (fun x hx=>gJ h hx);have:=(aJ h).2.1;omega
theorem IZ {t:aD} (h:aB t=0):cF (iA t)=(bK (fL t) (cW t) 0).map (gs t.ns):=by
 rw [mq,uA h,List.map_map];refine List.map_congr_left fun j hj=>?_;exact tE (dV h).wf (gJ h hj)
theorem Fi {ps:List Int} {ns:List ByteArray} {i:Nat} (h:iC ps ns i=0) (hi:isIn ps i=true):(gs ns i).size=0:=by
 unfold iC at h;rw [if_pos hi] at h;split at h
 ·assumption
 ·cases h
theorem Mv {ps:List Int} {ns:List ByteArray} {i:Nat} (h:iC ps ns i=0) (hi:isIn ps i=false):aX (gs ns i).data.toList=true∧dg ns i=false:=by
 unfold iC at h;rw [hi,if_neg (by simp)] at h;split at h
 ·rename_i h1
  refine ⟨h1,?_⟩;cases hs:dg ns i with
  | false=>rfl
  | true=>rw [hs] at h;cases h
 ·cases h
theorem Fj {t:aD} (h:aB t=0):jR (iA t):=by
 obtain ⟨hp,hl,hn,hok,he⟩:=aJ h;have hwf:=(dV h).wf;refine ⟨fun s hs hk=>?_,fun s hs hk=>?_,?_⟩
 ·rw [uA h] at hs
  obtain ⟨j,hj,rfl⟩:=List.mem_map.1 hs;have hjn:=gJ h hj;rw [xu hwf hjn] at hk;rw [tE hwf hjn];have:isIn t.ps j=true:=(l5 hok j).1 (fun e=>hk (by rw [lV,e];rfl));exact Fi (he j hjn) this
 ·rw [uA h] at hs
  obtain ⟨j,hj,rfl⟩:=List.mem_map.1 hs;have hjn:=gJ h hj;rw [xu hwf hjn] at hk;rw [tE hwf hjn];have:isIn t.ps j=false:=by
   cases hb:isIn t.ps j with
   | false=>rfl
   | true=>exact absurd (List.map_eq_nil_iff.1 hk) ((l5 hok j).2 hb)
  exact (Mv (he j hjn) this).1
 ·unfold fA
  rw [IZ h,List.filter_map];have gI:=iY (dV h) (R:=t.ps.length) (fun i _=>tC t i) hp (Nat.le_refl _);refine List.pairwise_map.2 (List.Pairwise.imp_of_mem ?_ (List.Pairwise.filter _ gI));intro a b ha hb hne e;have ha':=List.mem_filter.1 ha;have hb':=List.mem_filter.1 hb;have Mq:=gJ h ha'.1;have CS:=gJ h hb'.1;have leaf:∀i,i<t.ps.length→(gs t.ns i).size≠0→(fL t).kids i=[]:=fun i hi hs=>by
   rw [lV];cases hk:cu t.ps i with
   | nil=>rfl
   | cons x l=>exact absurd (Fi (he i hi) ((l5 hok i).1 (by rw [hk];simp))) hs
  exact hne ((dV h).names a b Mq CS (leaf a Mq (by simpa using ha'.2)) (leaf b CS (by simpa using hb'.2)) e)
end
section
def climb (ps:List Int) (n:Nat):Nat→Nat→Nat
 | 0,k=>k
 | d+1,k=>if n<k then climb ps n d (gi ps k).toNat else k
def o6 (ps:List Int) (n i:Nat):Bool:=decide (climb ps n i i=n)
theorem uC {ps:List Int} (h:iQ ps=true) {k:Nat} (hk:k<ps.length) (h0:0<k):0≤gi ps k∧gi ps k<k:=by
 have h1:=Bg h hk;unfold jg at h1;rw [if_neg (by omega)] at h1;simpa using h1
theorem Kb {ps:List Int} (hp:iQ ps=true) (n:Nat):∀ {d e k:Nat},k<ps.length→k≤d→k≤e→climb ps n d k=climb ps n e k:=by
 intro d
 induction d with
 | zero =>
  intro e k hl h1 h2;obtain rfl:k=0:=by omega
  cases e with
  | zero=>rfl
  | succ e=>simp [climb]
 | succ d ih =>
  intro e k hl h1 h2;cases e with
  | zero =>
   (obtain rfl:k=0:=by omega);simp [climb]
  | succ e =>
   rw [climb,climb];split
   ·rename_i hnk
    have:=uC hp hl (by omega);exact ih (by omega) (by omega) (by omega)
   ·rfl
theorem Kc {ps:List Int} (hp:iQ ps=true) {n k:Nat} (hk:k<ps.length) (hn:n<k):climb ps n k k=climb ps n (gi ps k).toNat (gi ps k).toNat:=by
 have h1:=uC hp hk (by omega);obtain ⟨m,rfl⟩:∃m,k=m+1:=⟨k - 1,by omega⟩;rw [climb,if_pos hn];exact Kb hp n (by omega) (by omega) (Nat.le_refl _)
theorem uD {ps:List Int} {n k:Nat} (hn:¬n<k):climb ps n k k=k:=by
 cases k with
 | zero=>rfl
 | succ k=>rw [climb,if_neg hn]

theorem Fk {ps:List Int} (i:Nat):o6 ps i i=true:=by unfold o6;rw [uD (by omega)];simp
theorem Fl {ps:List Int} (_:iQ ps=true) {i:Nat}:∀ {j:Nat},j<ps.length→o6 ps i j=true→i≤j:=by
 intro j
 induction j using Nat.strongRecOn with
 | ind j ih =>
  intro hj h;by_cases e:i<j
  ·omega
  ·unfold o6 at h
   rw [uD e] at h;(have:j=i:=by simpa using h);omega
theorem uE {ps:List Int} (hp:iQ ps=true) {i j:Nat} (hj:j<ps.length) (hi:i<j):o6 ps i j=o6 ps i (gi ps j).toNat:=by
 unfold o6;rw [Kc hp hj hi]
theorem SP {ps:List Int} (hp:iQ ps=true) {i:Nat}:∀ {j:Nat},j<ps.length→(o6 ps i j=true↔j=i∨∃c,c<ps.length∧i<c∧gi ps c=(i:Int)∧o6 ps c j=true):=by
 intro j
 induction j using Nat.strongRecOn with
 | ind j ih =>
  intro hj;by_cases e:i<j
  ·have hpar:=uC hp hj (by omega)
   have pJ:((gi ps j).toNat:Int)=gi ps j:=Int.toNat_of_nonneg hpar.1;(have hpl:(gi ps j).toNat<j:=by omega);rw [uE hp hj e,ih _ hpl (by omega)];constructor
   ·rintro (h | ⟨c,h1,h2,h3,h4⟩)
    ·exact .inr ⟨j,hj,e,by omega,Fk j⟩
    ·have:=Fl hp (show (gi ps j).toNat<ps.length by omega) h4
     exact .inr ⟨c,h1,h2,h3,by rw [uE hp hj (by omega)];exact h4⟩
   ·rintro (h | ⟨c,h1,h2,h3,h4⟩)
    ·omega
    ·have rO:=Fl hp hj h4
     by_cases ec:c=j
     ·subst ec;left;omega
     ·right
      exact ⟨c,h1,h2,h3,by rw [uE hp hj (by omega)] at h4;exact h4⟩
  ·unfold o6
   rw [uD e];constructor
   ·intro h;left;simpa using h
   ·rintro (h | ⟨c,h1,h2,h3,h4⟩)
    ·simpa using h
    ·have:=Fl hp hj h4;omega
end
section
section
variable {F G:aU} {n:Nat} {rk:Nat→Nat}
theorem CT (h:Wf F n rk) {i:Nat} (hi:i<n) (h0:rk i≤0):F.kids i=[]:=by
 cases hk:F.kids i with
 | nil=>rfl
 | cons k l=>have:=(h.kid i hi k (by rw [hk];simp)).2;omega
theorem Pr (hF:Wf F n rk) (hG:Wf G n rk):∀ {d c:Nat},c<n→rk c≤d→(∀z,bM F rk c z=true→G.kids z=F.kids z)→∀z,bM G rk c z=bM F rk c z:=by
 intro d
 induction d with
 | zero =>
  intro c hc hd hz z;rw [gy hF hc,gy hG hc,CT hF hc hd,CT hG hc hd];rfl
 | succ d ih =>
  intro c hc hd hz z;rw [gy hF hc,gy hG hc,hz c (iz hF hc)];congr 1;rw [Bool.eq_iff_iff,List.any_eq_true,List.any_eq_true];have key:∀k∈F.kids c,bM G rk k z=bM F rk k z:=fun k hk=>by have hkk:=hF.kid c hc k hk;exact ih hkk.1 (by omega) (fun y hy=>hz y (lU hF hc hk hy)) z
  constructor
  ·rintro ⟨k,hk,e⟩;exact ⟨k,hk,by rw [← key k hk];exact e⟩
  ·rintro ⟨k,hk,e⟩;exact ⟨k,hk,by rw [key k hk];exact e⟩
end
end
section
def aD.app (t:aD) (r:RT) (p:Int):aD:=⟨t.ps++psR r t.ps.length p,t.ns++cF r⟩
def aD.apps (t:aD) (rs:List RT) (own:Nat):aD:=⟨t.ps++psRs rs own t.ps.length,t.ns++cN rs⟩
theorem Fm:∀(a b:List RT) (own n:Nat),psRs (a++b) own n=psRs a own n++psRs b own (n+sizeRs a)
 | [],_,_,_=>rfl
 | r::a,b,own,n=>by rw [List.cons_append,psRs,psRs,Fm a b own (n+aL r),sizeRs,List.append_assoc,Nat.add_assoc]
theorem Fo:∀(a b:List RT),cN (a++b)=cN a++cN b
 | [],_=>rfl
 | r::a,b=>by rw [List.cons_append,cN,cN,Fo a b,List.append_assoc]
theorem Pt (t:aD) (own:Nat):t.apps [] own=t:=by simp [aD.apps,psRs,cN]
theorem Mw (t:aD) (a b:List RT) (own:Nat):(t.apps a own).apps b own=t.apps (a++b) own:=by
 unfold aD.apps;rw [Fm,Fo,List.append_assoc,List.append_assoc,List.length_append,nR]
theorem Pu (t:aD) (a:List RT) (r:RT) (own:Nat):(t.apps a own).app r (own:Int)=t.apps (a++[r]) own:=by
 rw [← Mw];simp [aD.apps,aD.app,psRs,cN]
end
section
open Go.RowKit Go.Deep
def vN (vs:List Value) (k:Nat):Value:=vs.getD k undef
mutual
def RAt (S:Nat→Prop) (w:World):RT→Value→Prop
 | .node nm ks,v=>∃b kv vs,v=.pointer (some ⟨b,0,none⟩)∧S b∧w.heap[b]? = some (.cells #[.string nm,kv] 254 (0,0))∧aC S w kv ks.length (vN vs)∧RsAt S w ks vs
def RsAt (S:Nat→Prop) (w:World):List RT→List Value→Prop
 | [],vs=>vs=[]
 | r::rs,vs=>∃u us,vs=u::us∧RAt S w r u∧RsAt S w rs us
end
mutual
theorem RAt.keep {S:Nat→Prop} {w w':World} (k:Kept S w w'):∀(r:RT) {v:Value},RAt S w r v→RAt S w' r v
 | .node nm ks,v,h=>by
  unfold RAt at h ⊢
  obtain ⟨b,kv,vs,rfl,hS,hb,hk,hs⟩:=h
  exact ⟨b,kv,vs,rfl,hS,(k b hS (Array.getElem?_eq_some_iff.1 hb).1).trans hb,hk.keep k,RsAt.keep k ks hs⟩
theorem RsAt.keep {S:Nat→Prop} {w w':World} (k:Kept S w w'):∀(rs:List RT) {vs:List Value},RsAt S w rs vs→RsAt S w' rs vs
 | [],_,h=>by unfold RsAt at h ⊢;exact h
 | r::rs,vs,h=>by
  unfold RsAt at h ⊢
  obtain ⟨u,us,rfl,h1,h2⟩:=h
  exact ⟨u,us,rfl,RAt.keep k r h1,RsAt.keep k rs h2⟩
end
mutual
theorem RAt.sub {S T:Nat→Prop} {w:World} (k:∀b,S b→b<w.heap.size→T b):∀(r:RT) {v:Value},RAt S w r v→RAt T w r v
 | .node nm ks,v,h=>by
  unfold RAt at h ⊢
  obtain ⟨b,kv,vs,rfl,hS,hb,hk,hs⟩:=h
  exact ⟨b,kv,vs,rfl,k b hS (Array.getElem?_eq_some_iff.1 hb).1,hb,hk.sub k,RsAt.sub k ks hs⟩
theorem RsAt.sub {S T:Nat→Prop} {w:World} (k:∀b,S b→b<w.heap.size→T b):∀(rs:List RT) {vs:List Value},RsAt S w rs vs→RsAt T w rs vs
 | [],_,h=>by unfold RsAt at h ⊢;exact h
 | r::rs,vs,h=>by
  unfold RsAt at h ⊢
  obtain ⟨u,us,rfl,h1,h2⟩:=h
  exact ⟨u,us,rfl,RAt.sub k r h1,RsAt.sub k rs h2⟩
end
theorem RsAt.len {S:Nat→Prop} {w:World}:∀(rs:List RT) {vs:List Value},RsAt S w rs vs→vs.length=rs.length
 | [],_,h=>by unfold RsAt at h;subst h;rfl
 | r::rs,vs,h=>by
  unfold RsAt at h
  obtain ⟨u,us,rfl,_,h2⟩:=h
  rw [List.length_cons,List.length_cons,RsAt.len rs h2]
def gr (rs:List RT) (k:Nat):RT:=rs.getD k (.node ByteArray.empty [])
theorem RsAt.get {S:Nat→Prop} {w:World}:∀(rs:List RT) {vs:List Value},RsAt S w rs vs→∀k,k<rs.length→RAt S w (gr rs k) (vN vs k)
 | [],_,_,k,hk=>absurd hk (Nat.not_lt_zero _)
 | r::rs,vs,h,k,hk=>by
  unfold RsAt at h
  obtain ⟨u,us,rfl,h1,h2⟩:=h
  cases k with
  | zero=>exact h1
  | succ k=>exact RsAt.get rs h2 k (by simpa using hk)
theorem RsAt.app {S:Nat→Prop} {w:World} {r:RT} {u:Value} (hr:RAt S w r u):∀(rs:List RT) {vs:List Value},RsAt S w rs vs→RsAt S w (rs++[r]) (vs++[u])
 | [],vs,h=>by
  unfold RsAt at h;subst h
  show RsAt S w [r] [u]
  unfold RsAt
  exact ⟨u,[],rfl,hr,by unfold RsAt;rfl⟩
 | q::rs,vs,h=>by
  unfold RsAt at h
  obtain ⟨x,us,rfl,h1,h2⟩:=h
  show RsAt S w (q::(rs++[r])) (x::(us++[u]))
  unfold RsAt
  exact ⟨x,us++[u],rfl,h1,RsAt.app hr rs h2⟩
theorem RAt.open {S:Nat→Prop} {w:World} {r:RT} {v:Value} (h:RAt S w r v):∃b kp kc vs,v=.pointer (some ⟨b,0,none⟩)∧S b∧w.cell? ⟨b,0,none⟩=some (.string r.nm)∧w.cell? ⟨b,1,none⟩=some (.slice kp r.kids.length kc)∧aC S w (.slice kp r.kids.length kc) r.kids.length (vN vs)∧RsAt S w r.kids vs:=by
 cases r with
 | node nm ks =>
  unfold RAt at h;obtain ⟨b,kv,vs,rfl,hS,hb,hk,hs⟩:=h;obtain ⟨kp,kc,rfl,_,_⟩:=aC.open hk;exact ⟨b,kp,kc,vs,rfl,hS,by simp [World.cell?,hb,RT.nm],by simp [World.cell?,hb,RT.kids],hk,hs⟩
theorem mS {p:Option Addr} {n cap:Nat} {S:Nat→Prop} {w:World} {vs:List Value} (h:aC S w (.slice p n cap) n (vN vs)) {k:Nat} (hk:k<n):∃b off,p=some ⟨b,off,none⟩∧w.cell? ⟨b,off+k,none⟩=some (vN vs k):=by
 obtain ⟨q,c,e,_,H⟩:=aC.open h;injection e with e1;subst e1;exact H k hk
structure jS (base B:Nat) (w:World) (nm:ByteArray) (kv:Value) (rs:List RT):Prop where
 node:w.heap[B]? = some (.cells #[.string nm,kv] 254 (0,0))
 lo:base≤B
 kids:∃vs,aF (B+1) 210 w kv vs∧RsAt (fun b=>base≤b∧b≠B∧kv.ownBlock≠some b) w rs vs
theorem jS.lt {base B:Nat} {w:World} {nm:ByteArray} {kv:Value} {rs:List RT} (h:jS base B w nm kv rs):B<w.heap.size:=(Array.getElem?_eq_some_iff.1 h.node).1
theorem jS.cells {base B:Nat} {w:World} {nm:ByteArray} {kv:Value} {rs:List RT} (h:jS base B w nm kv rs):w.cell? ⟨B,0,none⟩=some (.string nm)∧w.cell? ⟨B,1,none⟩=some kv∧w.frozen? ⟨B,0,none⟩=false∧w.frozen? ⟨B,1,none⟩=false:=by
 refine ⟨?_,?_,?_,?_⟩<;>simp [World.cell?,World.frozen?,h.node]
theorem jS.start (w:World) {base:Nat} (hb:base≤w.heap.size) (nm:ByteArray):jS base w.heap.size (w.alloc (.cells #[.string nm,.slice none 0 0] 254)) nm (.slice none 0 0) [] :=
 ⟨World.alloc_heap_new _ _,hb,[],aF.nil _ _ _,by unfold RsAt;rfl⟩
theorem jS.up {base B:Nat} {w w':World} {nm:ByteArray} {kv:Value} {rs:List RT} (h:jS base B w nm kv rs) (hu:Up w w'):jS base B w' nm kv rs:=by
 obtain ⟨vs,ho,hr⟩:=h.kids;exact ⟨(Below.block hu B h.lt).trans h.node,h.lo,vs,ho.kept fun b _ hb=>Below.block hu b hb,RsAt.keep (hu.kept _) rs hr⟩
theorem jS.done {base B:Nat} {w:World} {nm:ByteArray} {kv:Value} {rs:List RT} (h:jS base B w nm kv rs):RAt (fun b=>base≤b) w (.node nm rs) (.pointer (some ⟨B,0,none⟩)):=by
 obtain ⟨vs,ho,hr⟩:=h.kids;have hlen:=RsAt.len rs hr;unfold RAt;have h1:=ho.wA;rw [hlen] at h1;exact ⟨B,kv,vs,rfl,h.lo,h.node,h1.sub fun b hb _=>by have:=h.lo;omega,RsAt.sub (fun b hb _=>hb.1) rs hr⟩
theorem jS.push {base B:Nat} {w W:World} {nm:ByteArray} {kv kv':Value} {rs:List RT} {r:RT} {u:Value} {lim:Nat} (h:jS base B w nm kv rs) (hr:RAt (fun b=>lim≤b) w r u) (eU:base≤lim) (hl2:B<lim) (Cl:∀b,kv.ownBlock=some b→b<lim)
  {vs:List Value} (hv:RsAt (fun b=>base≤b∧b≠B∧kv.ownBlock≠some b) w rs vs) (ho:aF (B+1) 210 W kv' (vs++[u])) (hg:w.grownBy W kv.ownBlock) (dY:∀b,kv'.ownBlock=some b→kv.ownBlock=some b∨w.heap.size≤b) :
  jS base B (W.setCell ⟨B,1,none⟩ kv') nm kv' (rs++[r]):=by
 have hBl:=h.lt;have YL:kv.ownBlock≠some B:=fun e=>by obtain ⟨Vd,yq,_⟩:=h.kids;have:=(aI yq e).1;omega
 have hBk':kv'.ownBlock≠some B:=fun e=>by
  rcases dY B e with h1 | h1
  ·exact YL h1
  ·omega
 have cG:∀b,b≠B→(W.setCell ⟨B,1,none⟩ kv').heap[b]? = W.heap[b]?:=fun b hb=>blk_setCell_other _ _ _ _ hb;have hB:W.heap[B]? = w.heap[B]?:=hg.block B hBl (fun e=>YL e.symm);have hkeep:∀b,b≠B→kv.ownBlock≠some b→b<w.heap.size→(W.setCell ⟨B,1,none⟩ kv').heap[b]? = w.heap[b]?:=fun b h1 h2 h3=>(cG b h1).trans (hg.block b h3 fun e=>h2 e.symm);refine ⟨?_,h.lo,vs++[u],ho.fM fun b hb=>cG b (fun e=>hBk' (by rw [hb,e])),?_⟩
 ·have hn:=hB.trans h.node
  simp [World.setCell,Array.getElem?_modify,hn]
 ·have k1:Kept (fun b=>base≤b∧b≠B∧kv.ownBlock≠some b) w (W.setCell ⟨B,1,none⟩ kv'):=fun b hb hl=>hkeep b hb.2.1 hb.2.2 hl
  have k2:Kept (fun b=>lim≤b) w (W.setCell ⟨B,1,none⟩ kv'):=fun b hb hl=>hkeep b (by have:lim≤b:=hb;omega) (fun e=>by have:=Cl b e;have:lim≤b:=hb;omega) hl;have hsz:(W.setCell ⟨B,1,none⟩ kv').heap.size=W.heap.size:=by simp [World.size_setCell]
  have hold:∀b,b<w.heap.size→kv.ownBlock≠some b→kv'.ownBlock≠some b:=fun b h1 h2 e=>by
   rcases dY b e with h3 | h3
   ·exact h2 h3
   ·omega
  have h1:RsAt (fun b=>base≤b∧b≠B∧kv'.ownBlock≠some b) w rs vs:=RsAt.sub (fun b hb hl=>⟨hb.1,hb.2.1,hold b hl hb.2.2⟩) rs hv;have h2:RAt (fun b=>base≤b∧b≠B∧kv'.ownBlock≠some b) w r u:=RAt.sub (fun b hb hl=>⟨by have:lim≤b:=hb;omega,by have:lim≤b:=hb;omega,hold b hl fun e=>by have:=Cl b e;have:lim≤b:=hb;omega⟩) r hr;have k3:Kept (fun b=>base≤b∧b≠B∧kv'.ownBlock≠some b∧kv.ownBlock≠some b) w (W.setCell ⟨B,1,none⟩ kv'):=fun b hb hl=>hkeep b hb.2.1 hb.2.2.2 hl
  have h1':RsAt (fun b=>base≤b∧b≠B∧kv'.ownBlock≠some b∧kv.ownBlock≠some b) w rs vs:=RsAt.sub (fun b hb hl=>⟨hb.1,hb.2.1,hold b hl hb.2.2,hb.2.2⟩) rs hv;have B7:RAt (fun b=>base≤b∧b≠B∧kv'.ownBlock≠some b∧kv.ownBlock≠some b) w r u:=RAt.sub (fun b hb hl=>⟨by have:lim≤b:=hb;omega,by have:lim≤b:=hb;omega,hold b hl fun e=>by have:=Cl b e;have:lim≤b:=hb;omega,fun e=>by have:=Cl b e;have:lim≤b:=hb;omega⟩) r hr;exact RsAt.sub (fun b hb _=>⟨hb.1,hb.2.1,hb.2.2.1⟩) _ (RsAt.app (RAt.keep k3 r B7) rs (RsAt.keep k3 rs h1'))
end
section
theorem Ho {l:List (ByteArray×Value)} {k j:ByteArray} {v:Value}:(qQ l k v).lookup j=if j=k then some v else l.lookup j:=by
 unfold qQ;split
 ·rename_i h
  have h0:l.lookup k=none:=by simpa using h
  rw [List.lookup_append];by_cases e:j=k
  ·subst e;rw [if_pos rfl,h0];simp [List.lookup,nK]
  ·rw [if_neg e]
   (have:List.lookup j [(k,v)]=none:=by simp [List.lookup,p6 e]);rw [this];simp
 ·rename_i h
  have h0:(l.lookup k).isSome:=by
   cases hl:l.lookup k with
   | none=>rw [hl] at h;exact absurd rfl h
   | some x=>rfl
  clear h
  induction l with
  | nil=>cases h0
  | cons y l ih =>
   obtain ⟨y1,y2⟩:=y;rw [List.map_cons];by_cases e1:y1=k
   ·subst e1
    rw [if_pos rfl,List.lookup_cons];by_cases e:j=y1
    ·subst e;rw [nK,if_pos rfl]
    ·rw [p6 e,if_neg e,List.lookup_cons,p6 e]
     have hm:∀l:List (ByteArray×Value),List.lookup j (l.map fun x=>if x.1=y1 then (y1,v) else x)=List.lookup j l:=by
      intro l
      induction l with
      | nil=>rfl
      | cons z l ihl =>
       obtain ⟨z1,z2⟩:=z;rw [List.map_cons];by_cases ez:z1=y1
       ·subst ez;rw [if_pos rfl,List.lookup_cons,p6 e,List.lookup_cons,p6 e];exact ihl
       ·rw [if_neg ez,List.lookup_cons,List.lookup_cons,ihl]
     exact hm l
   ·rw [if_neg e1,List.lookup_cons,List.lookup_cons]
    rw [List.lookup_cons,p6 (fun h=>e1 h.symm)] at h0;by_cases e:j=y1
    ·subst e;rw [nK,if_neg e1]
    ·rw [p6 e];exact ih h0
end
section
open Go.RowKit Go.Deep
section
variable {P:Program} {ops:Array Oper} {rest:List Oper} {o:Oper} {a:Act} {Q:Exit→Act→World→Prop}
theorem iF (W:World) (hgd:o.guard=none) (s x:Operand) (t:TypeId) (ho:o.op=.call { callee:=.builtin .append,args:=#[s,x],argTypes:=#[t,t] })
  (base:Nat) (e:TypeId) (z:Value) (bytes:Nat) (ht:P.underlying t=some (.slice e)) (hinfo:(P.info? e).map (fun i=>(i.zero,i.size,i.bytes))=some (some z,1,bytes))
  (hz1:z.cells.size=1) (k8:bytes≤64) {v:Value} {vs:List Value} (hown:aF base e W v vs) (hs:a.eval s=v) (u:Value)
  (hx:a.eval x=.slice (some ⟨W.heap.size,0,none⟩) 1 1) (h1:u.oneCell'=true) (k:Nat) (vp:vs.length=k) (hn:k≤1000000) (hbase:base≤W.heap.size)
  (h:∀g cap w',aF base e w' (.slice (some ⟨g,0,none⟩) (k+1) cap) (vs++[u])→W.grownBy w' v.ownBlock→(v.ownBlock=some g∨W.heap.size≤g)→wpList P ops Q rest (a.put o.dst (.slice (some ⟨g,0,none⟩) (k+1) cap)) w') :
  wpList P ops Q (o::rest) a (W.alloc (.cells #[u] e)):=by
 subst vp;obtain ⟨i,hi,hzz⟩:=Option.map_eq_some_iff.1 hinfo;simp only [Prod.mk.injEq] at hzz;obtain ⟨hz,hs1,hb⟩:=hzz;refine wpList_append_lies _ hgd s x t ho base e i z 1 bytes ht hi hz hs1 hb hz1 (by omega) v vs.length vs hs (hown.alloc _) ⟨W.heap.size,0,none⟩ 1 1 [u] hx rfl (cell_one_new _ _ _) (by simpa using h1) (by omega)
  (by unfold maxLen;omega) ?_ (by simp;omega) _ rfl fun g cap w' h2 h3 h4 _=>h g cap w' ?_ (gm h3) (h4.imp id fun e=>by rw [e,World.size_alloc];omega)
 ·have:(vs.length+1)*bytes≤(vs.length+1)*64:=Nat.mul_le_mul_left _ k8
  omega
 ·unfold aF;rw [List.length_append];exact h2
end
section
variable {n base:Nat} {A:Nat→Nat} {kv:Nat→Value} {F:aU} {w w' w2:World} {P:Nat→Bool} {rk:Nat→Nat}
theorem bf.Ve {G:aU} (h:bf base n A kv F w) (e:∀j,j<n→G.nm j=F.nm j∧G.old j=F.old j∧G.kids j=F.kids j):bf base n A kv G w :=
 ⟨fun i hi=>by rw [(e i hi).1,(e i hi).2.1];exact h.node i hi,h.lo,h.inj,fun i hi=>by rw [(e i hi).2.2];exact h.own i hi,h.apart,h.alone,fun i hi=>by rw [(e i hi).2.2];exact h.kid i hi⟩
end
end
section
def Fp (s:RT):Prop:=(s.kids≠[]→s.nm.size=0)∧(s.kids=[]→aX s.nm.data.toList=true)∧s.kids.length≠1
def nS (l:List ByteArray):List ByteArray:=l.filter fun s=>decide (s.size≠0)
theorem Fq (a b:List ByteArray):nS (a++b)=nS a++nS b:=List.filter_append _ _
theorem uG {nm:ByteArray} {ks:List RT} (h:nm.size=0):fA (.node nm ks)=ks.flatMap fA:=by
 have key:∀ks:List RT,nS (cN ks)=ks.flatMap fA:=by
  intro ks
  induction ks with
  | nil=>rfl
  | cons r rs ih=>rw [cN,Fq,ih,List.flatMap_cons];rfl
 show nS (cF _)=_;rw [cF,← key];unfold nS;rw [List.filter_cons_of_neg (by simp [h])]
theorem Ke {nm:ByteArray} (h:nm.size≠0):fA (.node nm [])=[nm]:=by
 show List.filter _ (cF _)=_;rw [cF,cN,List.filter_cons_of_pos (by simpa using h)];rfl
end
end Go.Proofs.YthgabkgmkolobaaGreat
