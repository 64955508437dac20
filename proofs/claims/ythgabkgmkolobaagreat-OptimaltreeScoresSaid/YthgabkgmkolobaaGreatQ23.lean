/- Rose trees: the tree of a forest below a node is the rose tree, numbered depth first. .. -/
import Derived.Test.YthgabkgmkolobaaGreatQ22
set_option maxRecDepth 100000
namespace Go.Proofs.YthgabkgmkolobaaGreat
section
inductive RT where
 | node (nm:ByteArray) (kids:List RT)
namespace RT
def nm:RT→ByteArray | .node n _=>n
def kids:RT→List RT | .node _ k=>k
end RT
mutual
def aL:RT→Nat
 | .node _ ks=>1+sizeRs ks
def sizeRs:List RT→Nat
 | []=>0
 | r::rs=>aL r+sizeRs rs
end
mutual
def psR:RT→Nat→Int→List Int
 | .node _ ks,n,p=>p::psRs ks n (n+1)
def psRs:List RT→Nat→Nat→List Int
 | [],_,_=>[]
 | r::rs,own,n=>psR r n (own:Int)++psRs rs own (n+aL r)
end
mutual
def cF:RT→List ByteArray
 | .node nm ks=>nm::cN ks
def cN:List RT→List ByteArray
 | []=>[]
 | r::rs=>cF r++cN rs
end
def flat (r:RT):aD:=⟨psR r 0 (-1),cF r⟩
mutual
theorem kO:∀(r:RT) (n:Nat) (p:Int),(psR r n p).length=aL r
 | .node _ ks,n,p=>by simp only [psR,aL,List.length_cons];rw [nR ks n (n+1)];omega
theorem nR:∀(rs:List RT) (own n:Nat),(psRs rs own n).length=sizeRs rs
 | [],_,_=>rfl
 | r::rs,own,n=>by simp only [psRs,sizeRs,List.length_append];rw [kO r n own,nR rs own (n+aL r)]
end
mutual
theorem xX:∀(r:RT),(cF r).length=aL r
 | .node _ ks=>by simp only [cF,aL,List.length_cons];rw [zq ks];omega
theorem zq:∀(rs:List RT),(cN rs).length=sizeRs rs
 | []=>rfl
 | r::rs=>by simp only [cN,sizeRs,List.length_append];rw [xX r,zq rs]
end
def toRD (F:aU):Nat→Nat→RT
 | 0,i=>.node (F.nm i) []
 | d+1,i=>.node (F.nm i) ((F.kids i).map (toRD F d))
def aT (F:aU) (rk:Nat→Nat) (i:Nat):RT:=toRD F (rk i) i
section
variable {F:aU} {n:Nat} {rk:Nat→Nat}
theorem CN (h:Wf F n rk):∀ {d e i:Nat},i<n→rk i≤d→rk i≤e→toRD F d i=toRD F e i:=by
 intro d
 induction d with
 | zero =>
  intro e i hi hd he;have hk:F.kids i=[]:=by
   cases hk:F.kids i with
   | nil=>rfl
   | cons k l=>have:=(h.kid i hi k (by rw [hk];simp)).2;omega
  cases e with
  | zero=>rfl
  | succ e=>simp [toRD,hk]
 | succ d ih =>
  intro e i hi hd he;cases e with
  | zero =>
   have hk:F.kids i=[]:=by
    cases hk:F.kids i with
    | nil=>rfl
    | cons k l=>have:=(h.kid i hi k (by rw [hk];simp)).2;omega
   simp [toRD,hk]
  | succ e =>
   simp only [toRD];congr 1;refine List.map_congr_left fun k hk=>?_;have:=h.kid i hi k hk;exact ih this.1 (by omega) (by omega)
theorem dD (h:Wf F n rk) {i:Nat} (hi:i<n):aT F rk i=.node (F.nm i) ((F.kids i).map (aT F rk)):=by
 have h1:aT F rk i=toRD F (rk i+1) i:=CN h hi (Nat.le_refl _) (Nat.le_succ _);rw [h1];simp only [toRD];congr 1;refine List.map_congr_left fun k hk=>?_;have:=h.kid i hi k hk;exact CN h this.1 (by omega) (Nat.le_refl _)
theorem di {l:List (Option Nat×Int)} {k j:Option Nat} (v:Int) (h:j≠k):(kj l k v).lookup j=l.lookup j:=by
 have hne:(j==k)=false:=by simpa using h
 unfold kj;split
 ·induction l with
  | nil=>simp [List.lookup,hne]
  | cons x l ih =>
   rename_i hl;obtain ⟨x1,x2⟩:=x;rw [List.cons_append,List.lookup_cons,List.lookup_cons];cases hx:(j==x1)
   ·refine ih ?_
    rw [List.lookup_cons] at hl;cases hx2:(k==x1)
    ·rw [hx2] at hl;exact hl
    ·rw [hx2] at hl;cases hl
   ·rfl
 ·have key:∀q:List (Option Nat×Int),List.lookup j (q.map (fun x=>if x.1=k then (k,v) else x))=List.lookup j q:=by
   intro q
   induction q with
   | nil=>rfl
   | cons x l ih =>
    obtain ⟨x1,x2⟩:=x
    rw [List.map_cons,List.lookup_cons]
    by_cases e:x1=k
    ·subst e
     simp only [if_true]
     rw [List.lookup_cons,hne];exact ih
    ·rw [if_neg e,List.lookup_cons]
     cases (j==x1)
     ·exact ih
     ·rfl
  exact key l
theorem rW {l:List (Option Nat×Int)} {k:Option Nat} (v:Int) (h:l.lookup k=none):(kj l k v).lookup k=some v:=by
 unfold kj;rw [h];simp only [Option.isNone_none,if_true]
 induction l with
 | nil=>simp
 | cons x l ih =>
  obtain ⟨x1,x2⟩:=x;rw [List.lookup_cons] at h;rw [List.cons_append,List.lookup_cons];cases hx:(k==x1)
  ·rw [hx] at h;exact ih h
  ·rw [hx] at h;cases h
structure DV (s s':vC) (ps:List Int) (ns:List ByteArray) (nd:List Nat):Prop where
 ps:s'.ps=s.ps++ps
 ns:s'.ns=s.ns++ns
 old:∀k:Option Nat,(∀j∈nd,k≠some j)→s'.mp.lookup k=s.mp.lookup k
theorem SL (h:rV F n rk) {R:Nat} (hR:∀i,i<n→rk i≤R):∀ {d i:Nat} (p:Option Nat) (np:Int) (s:vC),i<n→rk i≤d→p≠some i→s.mp.lookup p=some np→(∀j∈bK F rk i,s.mp.lookup (some j)=none) →
  DV s ((dH F rk i p).foldl (mM F) s) (psR (aT F rk i) s.ps.length np) (cF (aT F rk i)) (bK F rk i):=by
 intro d
 induction d with
 | zero =>
  intro i p np s hi hd hp hl hn;have hk:F.kids i=[]:=by
   cases hk:F.kids i with
   | nil=>rfl
   | cons k l=>have:=(h.wf.kid i hi k (by rw [hk];simp)).2;omega
  rw [fO h.wf hi,dD h.wf hi,bY h.wf hi,hk];have hni:=hn i (by rw [bY h.wf hi];simp);refine ⟨?_,?_,fun k hk2=>di _ (hk2 i (by simp))⟩
  ·show s.ps++[((kj s.mp (some i) _).lookup p).getD 0]=_
   rw [di _ hp,hl];rfl
  ·rfl
 | succ d ih =>
  intro i p np s hi hd hp hl hn;rw [fO h.wf hi,dD h.wf hi,bY h.wf hi];have hni:=hn i (by rw [bY h.wf hi];simp);have gI:=iY h hR hi (Nat.le_refl (rk i));rw [bY h.wf hi,List.nodup_cons] at gI;have key:∀(l:List Nat),(∀k∈l,k∈F.kids i)→(l.flatMap fun k=>bK F rk k).Nodup→(∀k∈l,i∉bK F rk k)→∀(s2:vC) (own:Nat),s2.mp.lookup (some i)=some (own:Int)→(∀k∈l,∀j∈bK F rk k,s2.mp.lookup (some j)=none) →
    DV s2 ((l.flatMap fun k=>dH F rk k (some i)).foldl (mM F) s2) (psRs (l.map (aT F rk)) own s2.ps.length) (cN (l.map (aT F rk))) (l.flatMap fun k=>bK F rk k):=by
   intro l
   induction l with
   | nil=>intro _ _ _ s2 own _ _;exact ⟨by simp [psRs],by simp [cN],fun _ _=>rfl⟩
   | cons c l ihl =>
    intro hin hdl hil s2 own ho hno
    have hcc:=h.wf.kid i hi c (hin c (by simp))
    rw [List.flatMap_cons,List.foldl_append,List.flatMap_cons]
    rw [List.flatMap_cons,List.nodup_append] at hdl
    have h1:=ih (some i) (own:Int) s2 hcc.1 (by omega) (fun e=>by
     injection e with e
     have:=hcc.2;rw [e] at this;omega) ho (hno c (by simp))
    have h2:=ihl (fun k hk=>hin k (by simp [hk])) hdl.2.1 (fun k hk=>hil k (by simp [hk])) ((dH F rk c (some i)).foldl (mM F) s2) own
     ((h1.old (some i) (fun j hj e=>by injection e with e;subst e;exact hil c (by simp) hj)).trans ho)
     (fun k hk j hj=>(h1.old (some j) (fun j2 hj2 e=>by
      injection e with e;subst e
      exact hdl.2.2 j hj2 j (List.mem_flatMap.2 ⟨k,hk,hj⟩) rfl)).trans (hno k (by simp [hk]) j hj))
    refine ⟨?_,?_,fun k hk=>?_⟩
    ·rw [h2.ps,h1.ps,List.map_cons,psRs,List.append_assoc,List.length_append,kO]
    ·rw [h2.ns,h1.ns,List.map_cons,cN,List.append_assoc]
    ·rw [h2.old k (fun j hj=>hk j (by simp [hj])),h1.old k (fun j hj=>hk j (by simp [hj]))]
  have hin:∀k∈F.kids i,i∉bK F rk k:=fun k hk hm=>gI.1 (List.mem_flatMap.2 ⟨k,hk,hm⟩)
  have h3:=key (F.kids i) (fun k hk=>hk) gI.2 hin (mM F s (i,p)) s.ps.length (rW _ hni) (fun k hk j hj=>by
   show (kj s.mp (some i) _).lookup (some j)=none;rw [di _ (fun e=>by injection e with e;subst e;exact hin k hk hj)]
   exact hn j (by rw [bY h.wf hi];exact List.mem_cons_of_mem _ (List.mem_flatMap.2 ⟨k,hk,hj⟩)))
  have hps:(mM F s (i,p)).ps=s.ps++[np]:=by show s.ps++[((kj s.mp (some i) _).lookup p).getD 0]=_;rw [di _ hp,hl];rfl
  rw [List.foldl_cons];refine ⟨?_,?_,fun k hk=>?_⟩
  ·rw [h3.ps,hps,psR,List.append_assoc,List.length_append];rfl
  ·rw [h3.ns]
   show (s.ns++[F.nm i])++_=_;rw [cF,List.append_assoc];rfl
  ·rw [h3.old k (fun j hj=>hk j (by simp [hj]))]
   exact di _ (hk i (by simp))
theorem J8 (h:rV F n rk) {R:Nat} (hR:∀i,i<n→rk i≤R) {i:Nat} (hi:i<n):fu F rk i=flat (aT F rk i):=by
 have h1:=SL h hR (d:=rk i) none (-1) BA hi (Nat.le_refl _) (fun e=>by cases e) rfl (fun j _=>rfl);unfold fu flat ct;rw [h1.ps,h1.ns];rfl
end
end
section
def firstR:RT→ByteArray
 | .node nm []=>nm
 | .node _ (k::_)=>firstR k
def insR (a:RT):List RT→List RT
 | []=>[a]
 | b::l=>if b6 (firstR a) (firstR b)≤0 then a::b::l else b::insR a l
mutual
def sortR:RT→RT
 | .node nm ks=>.node nm (dI ks)
def dI:List RT→List RT
 | []=>[]
 | r::rs=>insR (sortR r) (dI rs)
end
theorem E9 {f:Nat→ByteArray} {g:Nat→RT} {a:Nat} (ha:firstR (g a)=f a):∀l:List Nat,(∀k∈l,firstR (g k)=f k)→insR (g a) (l.map g)=(insB f a l).map g
 | [],_=>rfl
 | b::l,h=>by
  have hb:=h b (by simp)
  rw [List.map_cons,insR,insB,ha,hb]
  unfold l8
  by_cases e:b6 (f a) (f b)≤0
  ·rw [if_pos e,if_pos (by simpa using e)];rfl
  ·rw [if_neg e,if_neg (by simpa using e),E9 ha l (fun k hk=>h k (by simp [hk]))];rfl
theorem zu {f:Nat→ByteArray} {l:List Nat} {k:Nat}:k∈sM f l↔k∈l:=by rw [← zo];exact (dM f l).mem_iff
theorem Aq {f:Nat→ByteArray} {h:Nat→RT}:∀l:List Nat,(∀k∈l,firstR (sortR (h k))=f k)→dI (l.map h)=(sM f l).map fun k=>sortR (h k)
 | [],_=>rfl
 | a::l,hf=>by
  rw [List.map_cons,dI,sM,Aq l (fun k hk=>hf k (by simp [hk]))]
  exact E9 (g:=fun k=>sortR (h k)) (hf a (by simp)) (sM f l) (fun k hk=>hf k (by simp [zu.1 hk]))
section
variable {F:aU} {n:Nat} {rk:Nat→Nat}
theorem Wf.gQ (h:Wf F n rk) (p:Nat→Bool):Wf (F.gQ rk p) n rk:=⟨fun i hi k hk=>h.kid i hi k ((F.gG rk p i).mem_iff.1 hk)⟩
theorem Pm (h:Wf F n rk) (p:Nat→Bool):∀ {d i:Nat},i<n→rk i≤d→(∀j,bM F rk i j=true→p j=true)→aT (F.gQ rk p) rk i=sortR (aT F rk i)∧firstR (sortR (aT F rk i))=fc F rk i:=by
 intro d;have Rw:∀i,p i=true→(F.gQ rk p).kids i=cn (fc F rk) (F.kids i):=fun i hp=>by show (if p i then _ else _:List Nat)=_;rw [if_pos hp]
 induction d with
 | zero =>
  intro i hi hd hp;have hk:F.kids i=[]:=by
   cases hk:F.kids i with
   | nil=>rfl
   | cons k l=>have:=(h.kid i hi k (by rw [hk];simp)).2;omega
  have hk2:(F.gQ rk p).kids i=[]:=by rw [Rw i (hp i (iz h hi)),hk];simp [cn]
  rw [dD (h.gQ p) hi,dD h hi,qP h hi,hk,hk2];refine ⟨rfl,?_⟩;simp [cn,sortR,dI,firstR]
 | succ d ih =>
  intro i hi hd hp;have hk2:=Rw i (hp i (iz h hi));have key:∀k∈F.kids i,aT (F.gQ rk p) rk k=sortR (aT F rk k)∧firstR (sortR (aT F rk k))=fc F rk k:=fun k hk=>by have hkk:=h.kid i hi k hk;exact ih hkk.1 (by omega) (fun j hj=>hp j (lU h hi hk hj))
  have hs:dI ((F.kids i).map (aT F rk))=(sM (fc F rk) (F.kids i)).map fun k=>sortR (aT F rk k):=Aq _ (fun k hk=>(key k hk).2);rw [dD (h.gQ p) hi,dD h hi,qP h hi,hk2,zo,sortR,hs];refine ⟨?_,?_⟩
  ·show RT.node (F.nm i) _=_
   congr 1;exact List.map_congr_left fun k hk=>(key k (zu.1 hk)).1
  ·cases hc:sM (fc F rk) (F.kids i) with
   | nil=>rfl
   | cons k l =>
    rw [List.map_cons,firstR];exact (key k (zu.1 (by rw [hc];simp))).2
end
def iA (t:aD):RT:=aT (fL t) (cW t) 0
theorem xm {t:aD} (h:aB t=0):o5 t=flat (sortR (iA t)):=by
 obtain ⟨hp,_⟩:=aJ h;unfold o5;rw [J8 (E7 h) (R:=t.ps.length) (fun i _=>tC t i) hp];congr 1;exact (Pm (dV h).wf _ hp (Nat.le_refl _) (fun j hj=>by simpa using hj)).1
def kf (own:Nat):List Int→Nat→List Nat
 | [],_=>[]
 | p::ps,b=>if p=(own:Int) then b::kf own ps (b+1) else kf own ps (b+1)
theorem qX (own:Nat):∀(a c:List Int) (b:Nat),kf own (a++c) b=kf own a b++kf own c (b+a.length)
 | [],c,b=>rfl
 | x::a,c,b=>by
  rw [List.cons_append,kf,kf,qX own a c (b+1),List.length_cons,show b+1+a.length=b+(a.length+1) by omega]
  split<;>rfl
theorem qm (own:Nat):∀(a:List Int) (b:Nat),(∀x∈a,x≠(own:Int))→kf own a b=[]
 | [],_,_=>rfl
 | x::a,b,h=>by rw [kf,if_neg (h x (by simp)),qm own a (b+1) (fun y hy=>h y (by simp [hy]))]
theorem Fa {ps:List Int} {n:Nat} (h:∀i,i<ps.length→gi ps i=n→n<i):cu ps n=kf n ps 0:=by
 have key:∀k,k≤ps.length→cg ps n k=kf n (ps.take k) 0:=by
  intro k
  induction k with
  | zero=>intro _;rfl
  | succ k ih =>
   intro hk;rw [jq,ih (by omega),List.take_succ_eq_append_getElem (show k<ps.length by omega),qX,List.length_take,Nat.min_eq_left (by omega)];(have hg:gi ps k=ps[k]:=by simp [gi,show k<ps.length by omega]);congr 1;by_cases e:gi ps k=n
   ·rw [if_pos ⟨h k (by omega) e,e⟩,kf,if_pos (by rw [← hg];exact e)]
    simp [kf]
   ·rw [if_neg (fun q=>e q.2),kf,if_neg (by rw [← hg];exact e)];rfl
 unfold cu;rw [key _ (Nat.le_refl _),List.take_length]
mutual
theorem Fb:∀(r:RT) (n:Nat) (p x:Int),x∈psR r n p→x=p∨((n:Int)≤x∧x<((n+aL r:Nat):Int))
 | .node _ ks,n,p,x,h=>by
  rw [psR,List.mem_cons] at h
  rcases h with h | h
  ·exact .inl h
  ·right
   rw [aL]
   rcases tD ks n (n+1) x h with h1 | ⟨h1,h2⟩
   ·subst h1;exact ⟨by omega,by omega⟩
   ·exact ⟨by omega,by omega⟩
theorem tD:∀(rs:List RT) (own n:Nat) (x:Int),x∈psRs rs own n→x=(own:Int)∨((n:Int)≤x∧x<((n+sizeRs rs:Nat):Int))
 | [],_,_,_,h=>by simp [psRs] at h
 | r::rs,own,n,x,h=>by
  rw [psRs,List.mem_append] at h
  rw [sizeRs]
  rcases h with h | h
  ·rcases Fb r n own x h with h1 | ⟨h1,h2⟩
   ·exact .inl h1
   ·exact .inr ⟨h1,by omega⟩
  ·rcases tD rs own (n+aL r) x h with h1 | ⟨h1,h2⟩
   ·exact .inl h1
   ·exact .inr ⟨by omega,by omega⟩
end
def hdR:List RT→Nat→List Nat
 | [],_=>[]
 | r::rs,n=>n::hdR rs (n+aL r)
theorem BC (own:Nat):∀(rs:List RT) (n:Nat),own<n→kf own (psRs rs own n) n=hdR rs n
 | [],_,_=>rfl
 | .node nm ks::rs,n,h=>by
  rw [psRs,hdR,qX,kO,BC own rs _ (by omega),psR,kf,if_pos rfl]
  rw [qm own _ _ (fun x hx e=>by
   rcases tD ks n (n+1) x hx with h1 | ⟨h1,_⟩<;>omega)]
  rfl
theorem ku (r:RT):0<aL r:=by cases r;rw [aL];omega
theorem zv (a b:List Int) (k:Nat):gi (a++b) (a.length+k)=gi b k:=by simp [gi,List.getElem?_append_right]
theorem Pn (a b:List ByteArray) (k:Nat):gs (a++b) (a.length+k)=gs b k:=by simp [gs,List.getElem?_append_right]
theorem zw {a:List Int} (b:List Int) {k:Nat} (h:k<a.length):gi (a++b) k=gi a k:=by simp [gi,List.getElem?_append_left h]
theorem SM:∀(d:Nat) (r:RT) (n:Nat) (p:Int) (t:aD) (pre post:List Int) (IW BD:List ByteArray),aL r≤d→t.ps=pre++(psR r n p++post)→t.ns=IW++(cF r++BD)→pre.length=n→IW.length=n→p<n→(∀x∈pre,x<(n:Int))→(∀x∈post,x<(n:Int)∨((n+aL r:Nat):Int)≤x)→toRD (fL t) d n=r:=by
 intro d
 induction d with
 | zero=>intro r n p t pre post IW BD hd;have:=ku r;omega
 | succ d ih =>
  intro r n p t pre post IW BD hd hps vg hpl hnl hp hpre hpost;obtain ⟨nm,ks⟩:=r;rw [aL] at hd hpost;rw [psR,List.cons_append] at hps;rw [cF,List.cons_append] at vg;have hk:(fL t).kids n=hdR ks (n+1):=by
   rw [lV,Fa]
   ·rw [hps,qX,qm n pre 0 (fun x hx e=>by have:=hpre x hx;omega),List.nil_append,kf,if_neg (by omega),qX,hpl,Nat.zero_add,BC n ks (n+1) (by omega),nR]
    rw [qm n post _ (fun x hx e=>by rcases hpost x hx with h1 | h1<;>omega),List.append_nil]
   ·intro i hi e
    rw [hps] at e;rcases Nat.lt_trichotomy i n with h1 | h1 | h1
    ·rw [zw _ (by omega)] at e
     have:=hpre _ (wj (l:=pre) (k:=i) (by omega));omega
    ·subst h1
     have h2:=zv pre (p::(psRs ks i (i+1)++post)) 0;rw [hpl] at h2;have h2:gi (pre++p::(psRs ks i (i+1)++post)) i=p:=h2;rw [h2] at e;have e:p=i:=e;omega
    ·exact h1
  have hnm:(fL t).nm n=nm:=by show gs t.ns n=nm;rw [vg,← hnl];exact Pn IW (nm::(cN ks++BD)) 0
  rw [toRD,hk,hnm];congr 1;have key:∀(rs:List RT) (m:Nat) (pr:List Int) (nr:List ByteArray),sizeRs rs≤d→t.ps=pr++(psRs rs n m++post)→t.ns=nr++(cN rs++BD)→pr.length=m→nr.length=m→n<m→(∀x∈pr,x<(m:Int))→(∀x∈post,x<(n:Int)∨((m+sizeRs rs:Nat):Int)≤x)→(hdR rs m).map (toRD (fL t) d)=rs:=by
   intro rs
   induction rs with
   | nil=>intros;rfl
   | cons r rs ihr =>
    intro m pr nr hd2 Po Pp Pg BF hm oJ Vc;rw [sizeRs] at hd2 Vc;rw [psRs,List.append_assoc] at Po;rw [cN,List.append_assoc] at Pp;rw [hdR,List.map_cons]
    have h1:=ih r m n t pr (psRs rs n (m+aL r)++post) nr (cN rs++BD) (by omega) Po Pp Pg BF (by omega) oJ (fun x hx=>by
     rcases List.mem_append.1 hx with hx | hx
     ·rcases tD rs n (m+aL r) x hx with h2 | ⟨h2,_⟩
      ·exact .inl (by omega)
      ·exact .inr h2
     ·rcases Vc x hx with h2 | h2
      ·exact .inl (by omega)
      ·exact .inr (by omega))
    have h2:=ihr (m+aL r) (pr++psR r m n) (nr++cF r) (by omega) (by rw [Po,List.append_assoc]) (by rw [Pp,List.append_assoc])
     (by rw [List.length_append,kO,Pg]) (by rw [List.length_append,xX,BF]) (by omega) (fun x hx=>by
      rcases List.mem_append.1 hx with hx | hx
      ·have:=oJ x hx;omega
      ·rcases Fb r m n x hx with h3 | ⟨_,h3⟩<;>omega) (fun x hx=>by
      rcases Vc x hx with h3 | h3
      ·exact .inl h3
      ·exact .inr (by omega))
    rw [h1,h2]
  exact key ks (n+1) (pre++[p]) (IW++[nm]) (by omega) (by rw [hps,List.append_assoc];rfl) (by rw [vg,List.append_assoc];rfl) (by simp [hpl]) (by simp [hnl]) (by omega) (fun x hx=>by
   rcases List.mem_append.1 hx with hx | hx
   ·have:=hpre x hx;omega
   ·have:x=p:=by simpa using hx
    omega) (fun x hx=>by
   rcases hpost x hx with h3 | h3
   ·exact .inl h3
   ·exact .inr (by omega))
theorem mm (r:RT):(flat r).ps.length=aL r:=kO r 0 (-1)
theorem qo (r:RT):(flat r).ns.length=aL r:=xX r
theorem uw (r:RT):iA (flat r)=r:=by
 unfold iA aT;have h:cW (flat r) 0=aL r:=by unfold cW;rw [mm,Nat.sub_zero]
 rw [h];exact SM (aL r) r 0 (-1) (flat r) [] [] [] [] (Nat.le_refl _) (by simp [flat]) (by simp [flat]) rfl rfl (by omega) (fun x hx=>by simp at hx) (fun x hx=>by simp at hx)
end
section
mutual
def subR:RT→List RT
 | .node nm ks=>.node nm ks::subRs ks
def subRs:List RT→List RT
 | []=>[]
 | r::rs=>subR r++subRs rs
end
mutual
theorem jw:∀r:RT,(subR r).length=aL r
 | .node _ ks=>by rw [subR,aL,List.length_cons,CO ks];omega
theorem CO:∀rs:List RT,(subRs rs).length=sizeRs rs
 | []=>rfl
 | r::rs=>by rw [subRs,sizeRs,List.length_append,jw r,CO rs]
end
mutual
theorem mq:∀r:RT,cF r=(subR r).map RT.nm
 | .node nm ks=>by rw [subR,cF,List.map_cons,Fc ks];rfl
theorem Fc:∀rs:List RT,cN rs=(subRs rs).map RT.nm
 | []=>rfl
 | r::rs=>by rw [subRs,cN,List.map_append,mq r,Fc rs]
end
theorem mQ (rs:List RT):subRs rs=rs.flatMap subR:=by
 induction rs with
 | nil=>rfl
 | cons r rs ih=>rw [subRs,List.flatMap_cons,ih]
def AtR (t:aD) (r:RT) (n:Nat) (p:Int):Prop:=∃pre post,t.ps=pre++(psR r n p++post)∧pre.length=n∧p<n∧(∀x∈pre,x<(n:Int))∧(∀x∈post,x<(n:Int)∨((n+aL r:Nat):Int)≤x)
def Fe (t:aD) (rs:List RT) (own m:Nat):Prop:=∃pre post,t.ps=pre++(psRs rs own m++post)∧pre.length=m∧own<m∧(∀x∈pre,x<(m:Int))∧(∀x∈post,x<(own:Int)∨((m+sizeRs rs:Nat):Int)≤x)
theorem AtR.kids {t:aD} {nm:ByteArray} {ks:List RT} {n:Nat} {p:Int} (h:AtR t (.node nm ks) n p):cu t.ps n=hdR ks (n+1)∧Fe t ks n (n+1):=by
 obtain ⟨pre,post,hps,hpl,hp,hpre,hpost⟩:=h;rw [aL] at hpost;rw [psR,List.cons_append] at hps;constructor
 ·rw [Fa]
  ·rw [hps,qX,qm n pre 0 (fun x hx e=>by have:=hpre x hx;omega),List.nil_append,kf,if_neg (by omega),qX,hpl,Nat.zero_add,BC n ks (n+1) (by omega),nR]
   rw [qm n post _ (fun x hx e=>by rcases hpost x hx with h1 | h1<;>omega),List.append_nil]
  ·intro i hi e
   rw [hps] at e;rcases Nat.lt_trichotomy i n with h1 | h1 | h1
   ·rw [zw _ (by omega)] at e
    have:=hpre _ (wj (l:=pre) (k:=i) (by omega));omega
   ·subst h1
    have h2:=zv pre (p::(psRs ks i (i+1)++post)) 0;rw [hpl] at h2;have h2:gi (pre++p::(psRs ks i (i+1)++post)) i=p:=h2;rw [h2] at e;omega
   ·exact h1
 ·refine ⟨pre++[p],post,by rw [hps,List.append_assoc];rfl,by simp [hpl],by omega,fun x hx=>?_,fun x hx=>?_⟩
  ·rcases List.mem_append.1 hx with hx | hx
   ·have:=hpre x hx;omega
   ·have:x=p:=by simpa using hx
    omega
  ·rcases hpost x hx with h3 | h3
   ·exact .inl h3
   ·exact .inr (by omega)
theorem Fe.cons {t:aD} {r:RT} {rs:List RT} {own m:Nat} (h:Fe t (r::rs) own m):AtR t r m own∧Fe t rs own (m+aL r):=by
 obtain ⟨pre,post,hps,hpl,hm,hpre,hpost⟩:=h;rw [sizeRs] at hpost;rw [psRs,List.append_assoc] at hps;constructor
 ·refine ⟨pre,_,hps,hpl,by omega,hpre,fun x hx=>?_⟩
  rcases List.mem_append.1 hx with hx | hx
  ·rcases tD rs own (m+aL r) x hx with h2 | ⟨h2,_⟩
   ·exact .inl (by omega)
   ·exact .inr h2
  ·rcases hpost x hx with h2 | h2
   ·exact .inl (by omega)
   ·exact .inr (by omega)
 ·refine ⟨pre++psR r m own,post,by rw [hps,List.append_assoc],by rw [List.length_append,kO,hpl],by omega,fun x hx=>?_,fun x hx=>?_⟩
  ·rcases List.mem_append.1 hx with hx | hx
   ·have:=hpre x hx;omega
   ·rcases Fb r m own x hx with h3 | ⟨_,h3⟩<;>omega
  ·rcases hpost x hx with h3 | h3
   ·exact .inl h3
   ·exact .inr (by omega)
mutual
theorem IX {t:aD}:∀(r:RT) (n:Nat) (p:Int),AtR t r n p→∀(i:Nat) (s:RT),(subR r)[i]? = some s→cu t.ps (n+i)=hdR s.kids (n+i+1)
 | .node nm ks,n,p,h,i,s,hs=>by
  rw [subR] at hs
  cases i with
  | zero =>
   have e:RT.node nm ks=s:=by simpa using hs
   subst e
   exact h.kids.1
  | succ i =>
   rw [List.getElem?_cons_succ] at hs
   have:=Ff ks n (n+1) h.kids.2 i s hs
   rw [show n+(i+1)=n+1+i by omega];exact this
theorem Ff {t:aD}:∀(rs:List RT) (own m:Nat),Fe t rs own m→∀(i:Nat) (s:RT),(subRs rs)[i]? = some s→cu t.ps (m+i)=hdR s.kids (m+i+1)
 | [],_,_,_,i,s,hs=>by simp [subRs] at hs
 | r::rs,own,m,h,i,s,hs=>by
  rw [subRs] at hs
  by_cases hi:i<aL r
  ·rw [List.getElem?_append_left (by rw [jw];exact hi)] at hs
   exact IX r m own h.cons.1 i s hs
  ·rw [List.getElem?_append_right (by rw [jw];omega),jw] at hs
   have:=Ff rs own (m+aL r) h.cons.2 (i - aL r) s hs
   rw [show m+aL r+(i - aL r)=m+i by omega] at this;exact this
end
theorem AtR.flat (r:RT):AtR (flat r) r 0 (-1):=⟨[],[],by simp [YthgabkgmkolobaaGreat.flat],rfl,by omega,fun x hx=>by simp at hx,fun x hx=>by simp at hx⟩
theorem Ms {r:RT} {i:Nat} {s:RT} (h:(subR r)[i]? = some s):cu (flat r).ps i=hdR s.kids (i+1):=by
 have:=IX r 0 (-1) (AtR.flat r) i s h;simpa using this
mutual
theorem Mt:∀(r:RT) (n:Nat) (p:Int) (j:Nat),0<j→j<aL r→(n:Int)≤gi (psR r n p) j∧gi (psR r n p) j<((n+j:Nat):Int)
 | .node nm ks,n,p,j,h0,hj=>by
  rw [aL] at hj
  obtain ⟨k,rfl⟩:∃k,j=k+1:=⟨j - 1,by omega⟩
  have h:=IY ks n (n+1) k (by omega) (by omega)
  have e:gi (psR (.node nm ks) n p) (k+1)=gi (psRs ks n (n+1)) k:=by rw [psR];simp [gi]
  rw [e]
  exact ⟨h.1,by have:=h.2;omega⟩
theorem IY:∀(rs:List RT) (own n j:Nat),own<n→j<sizeRs rs→(own:Int)≤gi (psRs rs own n) j∧gi (psRs rs own n) j<((n+j:Nat):Int)
 | [],_,_,_,_,h=>by simp [sizeRs] at h
 | r::rs,own,n,j,ho,hj=>by
  rw [sizeRs] at hj
  rw [psRs]
  by_cases hr:j<aL r
  ·rw [zw _ (by rw [kO];exact hr)]
   by_cases h0:j=0
   ·subst h0
    obtain ⟨nm,ks⟩:=r
    have e:gi (psR (.node nm ks) n own) 0=own:=by rw [psR];simp [gi]
    rw [e];exact ⟨by omega,by omega⟩
   ·have h:=Mt r n own j (by omega) hr
    exact ⟨by omega,h.2⟩
  ·have h:=IY rs own (n+aL r) (j - aL r) (by omega) (by omega)
   have e:=zv (psR r n own) (psRs rs own (n+aL r)) (j - aL r)
   rw [kO,show aL r+(j - aL r)=j by omega] at e
   rw [e]
   exact ⟨h.1,by have:=h.2;omega⟩
end
theorem Fg (r:RT):iQ (flat r).ps=true:=by
 refine yY fun j hj=>?_;rw [mm] at hj;show jg j (gi (psR r 0 (-1)) j)=true;unfold jg;by_cases h0:j=0
 ·subst h0
  obtain ⟨nm,ks⟩:=r;rw [if_pos rfl,psR];rfl
 ·rw [if_neg h0]
  have h:=Mt r 0 (-1) j (by omega) hj;have h1:0≤gi (psR r 0 (-1)) j:=by have:=h.1;omega
  have h2:gi (psR r 0 (-1)) j<(j:Int):=by have:=h.2;omega
  simp [h1,h2]
def fA (r:RT):List ByteArray:=(cF r).filter fun s=>decide (s.size≠0)
structure jR (r:RT):Prop where
 CP:∀s∈subR r,s.kids≠[]→s.nm.size=0
 lf:∀s∈subR r,s.kids=[]→aX s.nm.data.toList=true
 nd:(fA r).Nodup
theorem ux {s:ByteArray} (h:aX s.data.toList=true):s.size≠0:=by
 intro e;have:s.data.toList=[]:=by apply List.eq_nil_of_length_eq_zero;simpa using e
 rw [this] at h
 revert h;decide
theorem xq {r:RT} (h:jR r) (hs:aL r≤64):aB (flat r)=0:=by
 unfold aB;rw [mm,qo,if_neg (by have:=ku r;omega),if_neg (by omega),if_neg (by simp),if_pos (Fg r)];refine dW fun i hi=>?_;have hi2:i<(subR r).length:=by rw [jw];exact hi
 obtain ⟨s,hsi⟩:∃s,(subR r)[i]? = some s:=⟨_,List.getElem?_eq_getElem hi2⟩;have hmem:s∈subR r:=List.mem_of_getElem? hsi;have hk:=Ms hsi;have hnm:gs (flat r).ns i=s.nm:=by show gs (cF r) i=_;rw [mq];simp [gs,hsi]
 have hin:=l5 (Fg r) i;unfold iC;rw [hnm];by_cases hks:s.kids=[]
 ·have h1:isIn (flat r).ps i=false:=by
   cases hb:isIn (flat r).ps i with
   | false=>rfl
   | true=>exact absurd (by rw [hk,hks];rfl) (hin.2 hb)
  rw [h1,if_neg (by simp),if_pos (h.lf s hmem hks)]
  have h2:dg (flat r).ns i=false:=by
   rw [Bool.eq_false_iff];intro e
   obtain ⟨j,hj,e⟩:=List.any_eq_true.1 e
   have hj:j<i:=List.mem_range.1 hj
   have e:gs (cF r) j=gs (cF r) i:=of_decide_eq_true e
   have hpw:=List.pairwise_filter.1 h.nd
   have pF:=xX r
   have h3:=List.pairwise_iff_getElem.1 hpw j i (by omega) (by omega) hj
   have hgj:gs (cF r) j=(cF r)[j]'(by omega):=by simp [gs,show j<(cF r).length by omega]
   have hgi:gs (cF r) i=(cF r)[i]'(by omega):=by simp [gs,show i<(cF r).length by omega]
   rw [← hgj,← hgi,e] at h3
   have h4:gs (cF r) i=s.nm:=hnm
   have h5:=ux (h.lf s hmem hks)
   rw [h4] at h3
   exact h3 (by simpa using h5) (by simpa using h5) rfl
  rw [h2];rfl
 ·have h1:isIn (flat r).ps i=true:=hin.1 (by
   rw [hk]
   cases hq:s.kids with
   | nil=>exact absurd hq hks
   | cons a l=>simp [hdR])
  rw [h1,if_pos rfl,if_pos (h.CP s hmem hks)]
end
end Go.Proofs.YthgabkgmkolobaaGreat
