/- Parse, plain: the machine over a stack of lists of rose trees; the forest that grows. The .. -/
import Derived.Lib.IndexAny
import Derived.Test.YthgabkgmkolobaaGreatQ30
set_option maxRecDepth 100000
namespace Go.Proofs.YthgabkgmkolobaaGreat
section
def bF:List UInt8:=[40,41,44,59]
def popZ:List (List RT)→List (List RT)
 | Z::Y::st=>(Y++[.node ByteArray.empty Z])::st
 | st=>st
def Vx (r:RT):List (List RT)→List (List RT)
 | Z::st=>(Z++[r])::st
 | []=>[]
def firstZ:List (List RT)→RT
 | (r::_)::_=>r
 | _=>.node ByteArray.empty []
def pz:Nat→List UInt8→List (List RT)→Bool→Option RT
 | 0,_,_,_=>none
 | _+1,[],_,_=>none
 | f+1,c::s,st,dn =>
  if c=40 then (if dn=true then none else pz f s ([]::st) false)
  else if c=41 then (if dn=false∨st.length=1 then none else pz f s (popZ st) true)
  else if c=44 then (if dn=false∨st.length=1 then none else pz f s st false)
  else if c=59 then (if dn=false∨st.length≠1∨s≠[] then none else some (firstZ st))
  else if dn=true then none
  else if Lib.indexAny (c::s) bF<0 then none
  else pz f ((c::s).drop (Lib.indexAny (c::s) bF).toNat) (Vx (.node ⟨((c::s).take (Lib.indexAny (c::s) bF).toNat).toArray⟩ []) st) true
def iL (s:List UInt8):Option RT:=pz (s.length+1) s [[]] false
section
variable {F G:aU} {n m:Nat} {rk:Nat→Nat}
theorem AH (hF:Wf F n rk) (hG:Wf G m rk):∀(d c:Nat),rk c≤d→c<n→c<m→(∀z,bM F rk c z=true→G.kids z=F.kids z∧G.nm z=F.nm z)→aT G rk c=aT F rk c
 | d,c,hd,hc,hm,hz=>by
  obtain ⟨h1,h2⟩:=hz c (iz hF hc)
  rw [dD hF hc,dD hG hm,h1,h2]
  congr 1
  refine List.map_congr_left fun k hk=>?_
  have hkk:=hF.kid c hc k hk
  have hkm:=(hG.kid c hm k (by rw [h1];exact hk)).1
  cases d with
  | zero=>omega
  | succ d=>exact AH hF hG d k (by omega) hkk.1 hkm fun z hs=>hz z (lU hF hc hk hs)
def MN (F:aU):aU:=⟨fun i=>⟨Array.replicate i 0⟩,F.old,F.kids⟩
theorem MO (hF:Wf F n rk) (one:∀p q k,p<n→q<n→k∈F.kids p→k∈F.kids q→p=q) (nd:∀i,i<n→(F.kids i).Nodup):rV (MN F) n rk :=
 ⟨⟨fun i hi k hk=>hF.kid i hi k hk⟩,one,nd,fun a b _ _ _ _ e=>by
  have e:(⟨Array.replicate a 0⟩:ByteArray)=⟨Array.replicate b 0⟩:=e
  have:=congrArg (fun s:ByteArray=>s.data.size) e
  simpa using this⟩
theorem MP (hF:Wf F n rk) {c:Nat} (hc:c<n) (z:Nat):bM (MN F) rk c z=bM F rk c z :=
 Pr (G:=MN F) hF ⟨fun i hi k hk=>hF.kid i hi k hk⟩ hc (Nat.le_refl _) (fun _ _=>rfl) z
theorem FH (hF:Wf F n rk):∀(d c:Nat),rk c≤d→c<n→bK (MN F) rk c=bK F rk c
 | d,c,hd,hc=>by
  have hU:Wf (MN F) n rk:=⟨fun i hi k hk=>hF.kid i hi k hk⟩
  rw [bY hF hc,bY hU hc]
  congr 1
  refine gz fun k hk=>?_
  have hkk:=hF.kid c hc k hk
  cases d with
  | zero=>omega
  | succ d=>exact FH hF d k (by omega) hkk.1
theorem PU (hF:Wf F n rk) (one:∀p q k,p<n→q<n→k∈F.kids p→k∈F.kids q→p=q) (nd:∀i,i<n→(F.kids i).Nodup) {R:Nat} (hR:∀i,i<n→rk i≤R) {i x y j:Nat} (hi:i<n) (hx:x∈F.kids i) (hy:y∈F.kids i) (h1:bM F rk x j=true) (h2:bM F rk y j=true):x=y :=
 zm (MO hF one nd) hR hi hx hy (by rw [MP hF (hF.kid i hi x hx).1];exact h1) (by rw [MP hF (hF.kid i hi y hy).1];exact h2)
theorem Dh (hF:Wf F n rk) (one:∀p q k,p<n→q<n→k∈F.kids p→k∈F.kids q→p=q) (nd:∀i,i<n→(F.kids i).Nodup) {R:Nat} (hR:∀i,i<n→rk i≤R) {i:Nat} (hi:i<n):(bK F rk i).Nodup:=by
 rw [← FH hF (rk i) i (Nat.le_refl _) hi];exact iY (MO hF one nd) hR hi (Nat.le_refl _)
end
def lF (z:Nat):Nat:=2000 - z
def uL (F:aU):Option Nat→List Nat→List (List RT)→Prop
 | nx,o::os,Z::st=>(F.nm o).size=0∧(∃ks,F.kids o=ks++nx.toList∧ks.map (aT F lF)=Z)∧uL F (some o) os st
 | _,[],[]=>True
 | _,_,_=>False
structure jU (F:aU) (n:Nat) (op:List Nat) (st:List (List RT)):Prop where
 big:n≤2000
 kid:∀i,i<n→∀k∈F.kids i,i<k∧k<n
 one:∀p q k,p<n→q<n→k∈F.kids p→k∈F.kids q→p=q
 nd:∀i,i<n→(F.kids i).Nodup
 zip:uL F none op st
 opn:∀o∈op,o<n
 ne:op≠[]
section
variable {F:aU} {n:Nat} {op:List Nat} {st:List (List RT)}
theorem jU.wf (h:jU F n op st):Wf F n lF:=⟨fun i hi k hk=>by obtain ⟨h1,h2⟩:=h.kid i hi k hk;have:=h.big;exact ⟨h2,by unfold lF;omega⟩⟩
theorem FI (i:Nat):lF i≤2000:=Nat.sub_le _ _
theorem uL.len {F:aU}:∀ {nx:Option Nat} {op:List Nat} {st:List (List RT)},uL F nx op st→op.length=st.length
 | _,[],[],_=>rfl
 | _,_::os,_::st,h=>by rw [List.length_cons,List.length_cons,h.2.2.len]
 | _,[],_::_,h=>h.elim
 | _,_::_,[],h=>h.elim
def iH (F:aU) (n o:Nat) (nm:ByteArray):aU:=⟨upd F.nm n nm,upd F.old n 0,upd (upd F.kids n []) o (F.kids o++[n])⟩
theorem oh {F:aU} {n o:Nat} {nm:ByteArray}:(iH F n o nm).kids o=F.kids o++[n]:=upd_same _ _ _
theorem oo {F:aU} {n o:Nat} {nm:ByteArray} (h:o<n):(iH F n o nm).kids n=[]:=by
 show upd _ o _ n=[];rw [upd_ne _ _ (by omega),upd_same]
theorem r4 {F:aU} {n o:Nat} {nm:ByteArray} {z:Nat} (h:z≠o) (h2:z≠n):(iH F n o nm).kids z=F.kids z:=by
 show upd _ o _ z=_;rw [upd_ne _ _ h,upd_ne _ _ h2]
theorem x4 {F:aU} {n o:Nat} {nm:ByteArray} {z:Nat} (h2:z≠n):(iH F n o nm).nm z=F.nm z:=upd_ne _ _ h2
theorem rj {F:aU} {n o:Nat} {nm:ByteArray} (hk:∀i,i<n→∀k∈F.kids i,i<k∧k<n) (ho:o<n) {i k:Nat} (hi:i<n+1) (hm:k∈(iH F n o nm).kids i):(i<n∧k∈F.kids i)∨(i=o∧k=n):=by
 by_cases e:i=o
 ·subst e
  rw [oh] at hm;rcases List.mem_append.1 hm with h1 | h1
  ·exact .inl ⟨ho,h1⟩
  ·exact .inr ⟨rfl,by simpa using h1⟩
 ·by_cases e2:i=n
  ·subst e2;rw [oo ho] at hm;cases hm
  ·rw [r4 e e2] at hm;exact .inl ⟨by omega,hm⟩
theorem I6 (h:jU F n op st) {o:Nat} (ho:o<n) (nm:ByteArray) (hb:n<2000):Wf (iH F n o nm) (n+1) lF:=⟨fun i hi k hm=>by
 unfold lF
 rcases rj h.kid ho hi hm with ⟨h1,h2⟩ | ⟨h1,h2⟩
 ·have:=h.kid i h1 k h2;omega
 ·omega⟩
theorem Di (h:jU F n op st) {o:Nat} (ho:o<n) (nm:ByteArray) (hb:n<2000) {c:Nat} (hc:c<n) (hs:bM F lF c o=false):aT (iH F n o nm) lF c=aT F lF c :=
 AH h.wf (I6 h ho nm hb) _ c (Nat.le_refl _) hc (by omega) fun z hz=>by
  have I7:=nP h.wf hc (Nat.le_refl _) hz
  have hne:z≠o:=fun e=>by rw [e,hs] at hz;cases hz
  exact ⟨r4 hne (by omega),x4 (by omega)⟩
theorem FJ (h:jU F n op st) {o:Nat} (ho:o<n) (nm:ByteArray) (hb:n<2000):∀ {y:Nat} {os:List Nat} {zs:List (List RT)},(∀p∈os,p<n)→y<n→bM F lF y o=true→uL F (some y) os zs→uL (iH F n o nm) (some y) os zs
 | _,[],[],_,_,_,_=>trivial
 | y,p::os,Z::zs,hp,hy,hs,hz=>by
  obtain ⟨h1,⟨ks,h2,h3⟩,h4⟩:=hz
  have pJ:=hp p (by simp)
  have Vy:y∈F.kids p:=by rw [h2];simp
  have hpy:=(h.kid p pJ y Vy).1
  have Vz:=lU h.wf pJ Vy hs
  have hne:p≠o:=fun e=>by
   subst e
   have:=l9 h.wf hy hs
   have hb2:=h.big
   unfold lF at this
   omega
  refine ⟨by rw [x4 (by omega)];exact h1,⟨ks,by rw [r4 hne (by omega)];exact h2,?_⟩,FJ h ho nm hb (fun q hq=>hp q (by simp [hq])) pJ Vz h4⟩
  rw [← h3]
  refine List.map_congr_left fun c hc=>?_
  have ni:c∈F.kids p:=by rw [h2];simp [hc]
  have dQ:=(h.kid p pJ c ni).2
  refine Di h ho nm hb dQ ?_
  cases hsc:bM F lF c o with
  | false=>rfl
  | true =>
   exfalso
   have e:=PU h.wf h.one h.nd (fun i _=>FI i) pJ ni Vy hsc hs
   subst e
   have gI:=h.nd p pJ
   rw [h2] at gI
   have:=(List.nodup_append.1 gI).2.2 c hc c (by simp)
   exact this rfl
 | _,[],_::_,_,_,_,hz=>hz.elim
 | _,_::_,[],_,_,_,hz=>hz.elim
end
section
variable {F:aU} {n:Nat} {o:Nat} {os:List Nat} {Z:List RT} {st:List (List RT)}
theorem jU.on (h:jU F n (o::os) st):o<n:=h.opn o (by simp)
theorem jU.size (h:jU F n (o::os) (Z::st)):(F.nm o).size=0∧(F.kids o).map (aT F lF)=Z:=by
 obtain ⟨h1,⟨ks,h2,h3⟩,_⟩:=h.zip;refine ⟨h1,?_⟩;rw [h2];simpa using h3
theorem Dj (h:jU F n (o::os) (Z::st)) (nm:ByteArray) (hb:n<2000) :
  (∀i,i<n+1→∀k∈(iH F n o nm).kids i,i<k∧k<n+1)∧(∀p q k,p<n+1→q<n+1→k∈(iH F n o nm).kids p→k∈(iH F n o nm).kids q→p=q)∧(∀i,i<n+1→((iH F n o nm).kids i).Nodup) ∧
  uL (iH F n o nm) (some o) os st∧(∀c∈F.kids o,aT (iH F n o nm) lF c=aT F lF c)∧aT (iH F n o nm) lF n=.node nm []:=by
 have ho:=h.on;refine ⟨fun i hi k hk=>?_,fun p q k hp hq h1 h2=>?_,fun i hi=>?_,FJ h ho nm hb (fun p hp=>h.opn p (by simp [hp])) ho (iz h.wf ho) h.zip.2.2,fun c hc=>?_,?_⟩
 ·rcases rj h.kid ho hi hk with ⟨h1,h2⟩ | ⟨h1,h2⟩
  ·have:=h.kid i h1 k h2;omega
  ·omega
 ·rcases rj h.kid ho hp h1 with ⟨a1,a2⟩ | ⟨a1,a2⟩
  ·rcases rj h.kid ho hq h2 with ⟨b1,b2⟩ | ⟨b1,b2⟩
   ·exact h.one p q k a1 b1 a2 b2
   ·have:=(h.kid p a1 k a2).2;omega
  ·rcases rj h.kid ho hq h2 with ⟨b1,b2⟩ | ⟨b1,b2⟩
   ·have:=(h.kid q b1 k b2).2;omega
   ·omega
 ·by_cases e:i=o
  ·subst e
   rw [oh,List.nodup_append];refine ⟨h.nd i ho,by simp,fun a ha b hb e=>?_⟩;(have hb:b=n:=by simpa using hb);have:=(h.kid i ho a ha).2;omega
  ·by_cases e2:i=n
   ·subst e2;rw [oo ho];exact List.nodup_nil
   ·rw [r4 e e2];exact h.nd i (by omega)
 ·have dQ:=h.kid o ho c hc
  refine Di h ho nm hb dQ.2 ?_;cases hs:bM F lF c o with
  | false=>rfl
  | true =>
   have:=l9 h.wf dQ.2 hs;have hb2:=h.big;unfold lF at this;omega
 ·rw [dD (I6 h ho nm hb) (Nat.lt_succ_self n),oo ho]
  show RT.node (upd F.nm n nm n) []=_;rw [upd_same]
theorem jU.leaf (h:jU F n (o::os) (Z::st)) (nm:ByteArray) (hb:n<2000):jU (iH F n o nm) (n+1) (o::os) ((Z++[.node nm []])::st):=by
 obtain ⟨a1,a2,a3,a4,a5,a6⟩:=Dj h nm hb;have ho:=h.on;refine ⟨by omega,a1,a2,a3,⟨by rw [x4 (by omega)];exact h.size.1,⟨_,(List.append_nil _).symm,?_⟩,a4⟩,fun p hp=>by have:=h.opn p hp;omega,by simp⟩;rw [oh,List.map_append,List.map_cons,List.map_nil,a6];congr 1;rw [← h.size.2];exact List.map_congr_left a5
theorem jU.open (h:jU F n (o::os) (Z::st)) (hb:n<2000):jU (iH F n o ByteArray.empty) (n+1) (n::o::os) ([]::Z::st):=by
 obtain ⟨a1,a2,a3,a4,a5,a6⟩:=Dj h ByteArray.empty hb;have ho:=h.on;refine ⟨by omega,a1,a2,a3,⟨?_,⟨[],by rw [oo ho];rfl,rfl⟩,by rw [x4 (by omega)];exact h.size.1,⟨F.kids o,oh,?_⟩,a4⟩,fun p hp=>?_,by simp⟩
 ·show (upd F.nm n ByteArray.empty n).size=0
  rw [upd_same];rfl
 ·rw [← h.size.2]
  exact List.map_congr_left a5
 ·rcases List.mem_cons.1 hp with e | e
  ·omega
  ·have:=h.opn p e;omega
theorem jU.pop {q:Nat} {Y:List RT} (h:jU F n (o::q::os) (Z::Y::st)):jU F n (q::os) ((Y++[.node ByteArray.empty Z])::st):=by
 obtain ⟨h1,⟨ks,h2,h3⟩,h4,⟨xG,h5,h6⟩,h7⟩:=h.zip;have ho:=h.on;refine ⟨h.big,h.kid,h.one,h.nd,⟨h4,⟨xG++[o],by rw [h5];simp,?_⟩,h7⟩,fun p hp=>h.opn p (by simp at hp ⊢;rcases hp with e | e<;>simp [e]),by simp⟩;rw [List.map_append,h6,List.map_cons,List.map_nil,dD h.wf ho];have hn:F.nm o=ByteArray.empty:=ByteArray.ext (Array.eq_empty_of_size_eq_zero h1);rw [hn,h.size.2]
theorem jU.done {r:RT} {Y:List RT} (h:jU F n [o] [r::Y]):∃c ks,F.kids o=c::ks∧c<n∧fu F lF c=flat r:=by
 obtain ⟨_,h2⟩:=h.size;have ho:=h.on;cases hk:F.kids o with
 | nil=>rw [hk] at h2;cases h2
 | cons c ks =>
  rw [hk,List.map_cons] at h2;injection h2 with h2 h3;have dQ:=(h.kid o ho c (by rw [hk];simp)).2;exact ⟨c,ks,rfl,dQ,by rw [Hr h.wf dQ (Dh h.wf h.one h.nd (fun i _=>FI i) dQ),h2]⟩
theorem jU.len (h:jU F n (o::os) (Z::st)):(o::os).length=st.length+1:=by rw [h.zip.len];rfl
end
end
section
section
variable {F:aU} {n:Nat} {rk:Nat→Nat} {P:Nat→Bool}
theorem MQ (h:Wf F n rk) {i:Nat} (hi:i<n) (hg:jR (aT F rk i)):aL (aT F rk i)≤n:=by
 rw [← jw,rX h hi (Nat.le_refl _),List.length_map];exact nQ (AG h _ i (Nat.le_refl _) hi hg) fun x hx=>nP h hi (Nat.le_refl _) ((dN h hi (Nat.le_refl _)).1 hx)
end
end
section
theorem FK {c:UInt8} {s:List UInt8} (h:c∉bF):Lib.indexAny (c::s) bF<0∨1≤Lib.indexAny (c::s) bF:=by
 have hc:bF.contains c=false:=by
  cases e:bF.contains c with
  | false=>rfl
  | true=>exact absurd (List.contains_iff_mem.1 e) h
 rw [Lib.indexAny,hc];have:=Lib.indexAny_ge bF s;by_cases e:Lib.indexAny s bF = -1
 ·left;simp [e]
 ·right;rw [if_neg (by simp),if_neg (by simpa using e)];omega
theorem BI {c:UInt8} (h1:c≠40) (h2:c≠41) (h3:c≠44) (h4:c≠59):c∉bF:=by simp [bF,h1,h2,h3,h4]
theorem tI:∀(f g:Nat) (s:List UInt8) (st:List (List RT)) (b:Bool),s.length<f→s.length<g→pz f s st b=pz g s st b
 | 0,_,s,_,_,h,_=>by omega
 | _,0,s,_,_,_,h=>by omega
 | f+1,g+1,[],st,b,_,_=>rfl
 | f+1,g+1,c::s,st,b,hf,hg=>by
  rw [List.length_cons] at hf hg
  have key:∀(s':List UInt8) (st':List (List RT)) (b':Bool),s'.length<f→s'.length<g→pz f s' st' b'=pz g s' st' b':=fun s' st' b' h1 h2=>tI f g s' st' b' h1 h2
  rw [pz,pz]
  by_cases c1:c=40
  ·rw [if_pos c1,if_pos c1,key s _ _ (by omega) (by omega)]
  rw [if_neg c1,if_neg c1]
  by_cases c2:c=41
  ·rw [if_pos c2,if_pos c2,key s _ _ (by omega) (by omega)]
  rw [if_neg c2,if_neg c2]
  by_cases c3:c=44
  ·rw [if_pos c3,if_pos c3,key s _ _ (by omega) (by omega)]
  rw [if_neg c3,if_neg c3]
  by_cases c4:c=59
  ·rw [if_pos c4,if_pos c4]
  rw [if_neg c4,if_neg c4]
  by_cases c5:b=true
  ·rw [if_pos c5,if_pos c5]
  rw [if_neg c5,if_neg c5]
  rcases FK (s:=s) (BI c1 c2 c3 c4) with h | h
  ·rw [if_pos h,if_pos h]
  ·rw [if_neg (by omega),if_neg (by omega)]
   have hd:((c::s).drop (Lib.indexAny (c::s) bF).toNat).length≤s.length:=by
    rw [List.length_drop,List.length_cons];omega
   exact key _ _ _ (by omega) (by omega)
def mY (s:List UInt8) (st:List (List RT)) (b:Bool):Option RT:=pz (s.length+1) s st b
theorem SS (s:List UInt8):iL s=mY s [[]] false:=rfl
theorem PV (s:List UInt8) (st:List (List RT)):mY (40::s) st false=mY s ([]::st) false:=by
 unfold mY;rw [pz,if_pos rfl,if_neg (by simp)];exact tI _ _ _ _ _ (by simp) (by simp)
theorem Dk (s:List UInt8) (Z Y:List RT) (st:List (List RT)):mY (41::s) (Z::Y::st) true=mY s ((Y++[.node ByteArray.empty Z])::st) true:=by
 unfold mY;rw [pz,if_neg (by decide),if_pos rfl,if_neg (by simp)];exact tI _ _ _ _ _ (by simp) (by simp)
theorem MR (s:List UInt8) (Z Y:List RT) (st:List (List RT)):mY (44::s) (Z::Y::st) true=mY s (Z::Y::st) false:=by
 unfold mY;rw [pz,if_neg (by decide),if_neg (by decide),if_pos rfl,if_neg (by simp)];exact tI _ _ _ _ _ (by simp) (by simp)
theorem SU (r:RT) (Z:List RT):mY [59] [r::Z] true=some r:=by
 unfold mY;rw [pz,if_neg (by decide),if_neg (by decide),if_neg (by decide),if_pos rfl,if_neg (by simp)];rfl
theorem PW {n s:List UInt8} {d:UInt8} (h0:n≠[]) (h:∀c∈n,c∉bF) (hd:d∈bF) (Z:List RT) (st:List (List RT)):mY (n++d::s) (Z::st) false=mY (d::s) ((Z++[.node ⟨n.toArray⟩ []])::st) true:=by
 have hi:Lib.indexAny (n++d::s) bF=(n.length:Nat):=by
  refine Lib.indexAny_hit (x:=d) (fun j b hj hb=>?_) (by simp) (List.contains_iff_mem.2 hd);rw [List.getElem?_append_left hj] at hb;have hm:=List.mem_of_getElem? hb;cases e:bF.contains b with
  | false=>rfl
  | true=>exact absurd (List.contains_iff_mem.1 e) (h b hm)
 cases n with
 | nil=>exact absurd rfl h0
 | cons c n =>
  have hc:=h c (by simp);simp only [bF,List.mem_cons,List.not_mem_nil,or_false,not_or] at hc;unfold mY;rw [List.cons_append] at hi ⊢;rw [pz,if_neg hc.1,if_neg hc.2.1,if_neg hc.2.2.1,if_neg hc.2.2.2,if_neg (by simp),if_neg (by rw [hi];omega),hi];have e1:((c::(n++d::s)).drop ((((c::n).length:Nat):Int)).toNat)=d::s:=by rw [Int.toNat_natCast,← List.cons_append,List.drop_left]
  have e2:((c::(n++d::s)).take ((((c::n).length:Nat):Int)).toNat)=c::n:=by rw [Int.toNat_natCast,← List.cons_append,List.take_left]
  rw [e1,e2];exact tI _ _ _ _ _ (by simp;omega) (by simp)
def kA (r:RT):Prop:=∀s∈subR r,(s.kids≠[]→s.nm.size=0)∧(s.kids=[]→s.nm.data.toList≠[]∧∀c∈s.nm.data.toList,c∉bF)
theorem qq {nm:ByteArray} {ks:List RT} (h:kA (.node nm ks)) {k:RT} (hk:k∈ks):kA k:=fun s hs =>
 h s (by rw [subR,mQ];exact List.mem_cons_of_mem _ (List.mem_flatMap.2 ⟨k,hk,hs⟩))
theorem FL {nm:ByteArray} {ks:List RT} (h0:nm.size=0) (h1:ks≠[]) (h:∀k∈ks,kA k):kA (.node nm ks):=fun s hs=>by
 rw [subR,mQ,List.mem_cons,List.mem_flatMap] at hs
 rcases hs with rfl | ⟨k,hk,hs⟩
 ·exact ⟨fun _=>h0,fun e=>absurd e h1⟩
 ·exact h k hk s hs
theorem FM {nm:ByteArray} (h1:nm.data.toList≠[]) (h:∀c∈nm.data.toList,c∉bF):kA (.node nm []):=fun s hs=>by
 rw [subR,subRs,List.mem_singleton] at hs;subst hs
 exact ⟨fun e=>absurd rfl e,fun _=>⟨h1,h⟩⟩
theorem FN {nm:ByteArray} (h:nm.size=0):nm=ByteArray.empty:=PR h rfl
mutual
theorem xH:∀(r:RT),kA r→∀(d:UInt8) (s:List UInt8) (Z:List RT) (st:List (List RT)),d∈bF→mY (txR r++d::s) (Z::st) false=mY (d::s) ((Z++[r])::st) true
 | .node nm [],h,d,s,Z,st,hd=>by
  obtain ⟨_,h1⟩:=h _ (by rw [subR];exact List.mem_cons_self)
  obtain ⟨h1,h2⟩:=h1 rfl
  have h1:nm.data.toList≠[]:=h1
  have h2:∀c∈nm.data.toList,c∉bF:=h2
  rw [txR,PW h1 h2 hd]
 | .node nm (k::ks),h,d,s,Z,st,hd=>by
  obtain ⟨h1,_⟩:=h _ (by rw [subR];exact List.mem_cons_self)
  have h1:=FN (h1 (by simp [RT.kids]))
  have h1:nm=ByteArray.empty:=h1
  rw [txR,List.cons_append,PV,List.append_assoc,List.append_assoc]
  cases hks:ks with
  | nil =>
   rw [txRs,List.nil_append,List.cons_append,List.nil_append,xH k (qq h (by simp)) 41 _ _ _ (by decide),Dk,h1];rfl
  | cons k2 xG =>
   rw [← hks]
   have e:∀X:List UInt8,txRs ks++X=44::(txR k2++txRs xG++X):=fun X=>by rw [hks,txRs,List.cons_append]
   rw [e,xH k (qq h (by simp)) 44 _ _ _ (by decide),← e,List.nil_append,List.singleton_append,I8 ks (fun q hq=>qq h (by simp [hq])) 41 _ _ _ _ (by decide),Dk,h1,List.singleton_append]
theorem I8:∀(ks:List RT),(∀k∈ks,kA k)→∀(d:UInt8) (s:List UInt8) (Z Y:List RT) (st:List (List RT)),d∈bF→mY (txRs ks++d::s) (Z::Y::st) true=mY (d::s) ((Z++ks)::Y::st) true
 | [],_,d,s,Z,Y,st,_=>by rw [txRs,List.nil_append,List.append_nil]
 | k::ks,h,d,s,Z,Y,st,hd=>by
  rw [txRs,List.cons_append,MR,List.append_assoc]
  have hk:=h k (by simp)
  have ih:=I8 ks (fun q hq=>h q (by simp [hq])) d s (Z++[k]) Y st hd
  rw [List.append_assoc,List.singleton_append] at ih
  rw [← ih]
  cases ks with
  | nil=>rw [txRs,List.nil_append,xH k hk d _ _ _ hd]
  | cons k2 xG=>rw [txRs,List.cons_append,xH k hk 44 _ _ _ (by decide)]
end
mutual
theorem x5:∀(r:RT),kA r→aL r≤(txR r).length∧∀s∈cF r,s.size≤(txR r).length
 | .node nm [],h=>by
  obtain ⟨_,h1⟩:=h _ (by rw [subR];exact List.mem_cons_self)
  have h1:nm.data.toList≠[]:=(h1 rfl).1
  have hl:0<nm.data.toList.length:=List.length_pos_iff.2 h1
  rw [aL,sizeRs,txR,cF,cN]
  refine ⟨by omega,fun s hs=>?_⟩
  rw [List.mem_singleton.1 hs,size_data];exact Nat.le_refl _
 | .node nm (k::ks),h=>by
  obtain ⟨h1,_⟩:=h _ (by rw [subR];exact List.mem_cons_self)
  have h1:nm.size=0:=h1 (by simp [RT.kids])
  obtain ⟨a1,a2⟩:=x5 k (qq h (by simp))
  obtain ⟨b1,b2⟩:=FO ks (fun q hq=>qq h (by simp [hq]))
  rw [aL,sizeRs,txR,cF,cN,List.length_cons,List.length_append,List.length_append]
  refine ⟨by simp;omega,fun s hs=>?_⟩
  rcases List.mem_cons.1 hs with rfl | hs
  ·omega
  ·rcases List.mem_append.1 hs with hs | hs
   ·have:=a2 s hs;omega
   ·have:=b2 s hs;omega
theorem FO:∀(ks:List RT),(∀k∈ks,kA k)→sizeRs ks≤(txRs ks).length∧∀s∈cN ks,s.size≤(txRs ks).length
 | [],_=>⟨by rw [sizeRs];exact Nat.zero_le _,fun s hs=>by rw [cN] at hs;cases hs⟩
 | k::ks,h=>by
  obtain ⟨a1,a2⟩:=x5 k (h k (by simp))
  obtain ⟨b1,b2⟩:=FO ks (fun q hq=>h q (by simp [hq]))
  rw [sizeRs,txRs,cN,List.length_cons,List.length_append]
  refine ⟨by omega,fun s hs=>?_⟩
  rcases List.mem_append.1 hs with hs | hs
  ·have:=a2 s hs;omega
  ·have:=b2 s hs;omega
end
theorem tJ {r:RT} (h:kA r):iL (txR r++[59])=some r:=by
 rw [SS,xH r h 59 [] [] [] (by decide),List.nil_append,SU]
theorem MS {r q:RT} (hr:kA r) (hq:kA q) (e:txR r=txR q):r=q:=by
 have h:=tJ hr;rw [e,tJ hq] at h;exact (Option.some.inj h).symm
def pT:List (List RT)→Bool→List UInt8
 | [],_=>[]
 | [Z],_=>match Z with
  | []=>[]
  | r::_=>txR r
 | Z::Y::st,b=>pT (Y::st) false++(if Z=[] then [40] else fP Z++(if b then [] else [44]))
def PInv (st:List (List RT)) (b:Bool):Prop:=(∀Z∈st,∀r∈Z,kA r)∧st≠[]∧(b=true→∀Z,st.head? = some Z→Z≠[])∧(∀Z,st.getLast? = some Z→Z.length≤1∧((st.length≠1∨b=false)→Z=[]))
theorem PX {Z Y:List RT} {st:List (List RT)} (h0:Z≠[]) (hl:st=[]→Y=[]):pT ((Y++[.node ByteArray.empty Z])::st) true=pT (Z::Y::st) true++[41]:=by
 cases st with
 | nil =>
  rw [hl rfl];simp only [pT,List.nil_append,if_neg h0];rw [qZ _ h0];simp
 | cons X st =>
  have hne:Y++[RT.node ByteArray.empty Z]≠[]:=by simp
  simp only [pT,if_neg h0,if_neg hne,if_true,xY,qZ _ h0];by_cases hY:Y=[]
  ·subst hY;simp [fP]
  ·have:Y.length≠0:=by simpa using hY
   simp [hY]
theorem I9:∀(s:List UInt8) (n:Nat),Lib.indexAny s bF=(n:Int)→∀x∈s.take n,x∉bF
 | [],n,h,x,hx=>by simp at hx
 | c::s,0,_,x,hx=>by simp at hx
 | c::s,n+1,h,x,hx=>by
  rw [Lib.indexAny] at h
  cases hc:bF.contains c with
  | true=>rw [hc,if_pos rfl] at h;omega
  | false =>
   rw [hc,if_neg (by simp)] at h
   by_cases e:Lib.indexAny s bF = -1
   ·rw [e] at h;simp at h;omega
   ·rw [if_neg (by simpa using e)] at h
    rw [List.take_succ_cons,List.mem_cons] at hx
    rcases hx with rfl | hx
    ·intro hm;rw [List.contains_iff_mem.2 hm] at hc;cases hc
    ·exact I9 s n (by omega) x hx
theorem RG:∀(s:List UInt8) (n:Nat),Lib.indexAny s bF=(n:Int)→n<s.length
 | [],n,h=>by rw [Lib.indexAny] at h;omega
 | c::s,0,_=>by simp
 | c::s,n+1,h=>by
  rw [Lib.indexAny] at h
  cases hc:bF.contains c with
  | true=>rw [hc,if_pos rfl] at h;omega
  | false =>
   rw [hc,if_neg (by simp)] at h
   by_cases e:Lib.indexAny s bF = -1
   ·rw [e] at h;simp at h;omega
   ·rw [if_neg (by simpa using e)] at h
    have:=RG s n (by omega)
    rw [List.length_cons];omega
theorem Km (s:ByteArray) (k n:Nat):(⟨((s.data.toList.drop k).take n).toArray⟩:ByteArray)=s.extract k (k+n):=by
 apply eD;rw [ByteArray.data_extract];simp [Nat.add_sub_cancel_left]
theorem tK:∀(f:Nat) (s:List UInt8) (st:List (List RT)) (b:Bool) (r:RT),s.length<f→PInv st b→pz f s st b=some r→pT st b++s=txR r++[59]∧kA r
 | 0,_,_,_,_,h,_,_=>by omega
 | f+1,[],st,b,r,_,_,e=>by cases e
 | f+1,c::s,st,b,r,hf,hI,e=>by
  rw [List.length_cons] at hf
  obtain ⟨i1,i2,i3,i4⟩:=hI
  rw [pz] at e
  by_cases c1:c=40
  ·rw [if_pos c1] at e
   cases b with
   | true=>rw [if_pos rfl] at e;cases e
   | false =>
    rw [if_neg (by simp)] at e
    obtain ⟨h1,h2⟩:=tK f s ([]::st) false r (by omega) ⟨fun Z hZ=>by
     rcases List.mem_cons.1 hZ with rfl | h
     ·intro r hr;cases hr
     ·exact i1 Z h,by simp,(fun h=>by cases h),fun Z hZ=>by
      cases st with
      | nil=>exact absurd rfl i2
      | cons Y st =>
       rw [List.getLast?_cons_cons] at hZ
       have:=i4 Z hZ
       exact ⟨this.1,fun _=>this.2 (.inr rfl)⟩⟩ e
    refine ⟨?_,h2⟩
    rw [← h1,c1]
    cases st with
    | nil=>exact absurd rfl i2
    | cons Y st=>simp [pT]
  rw [if_neg c1] at e
  by_cases c2:c=41
  ·rw [if_pos c2] at e
   by_cases hb:b=false∨st.length=1
   ·rw [if_pos hb] at e;cases e
   ·rw [if_neg hb] at e
    have hb1:b=true:=by cases b<;>simp at hb ⊢
    subst hb1
    match st,i2,hb with
    | [],h,_=>exact absurd rfl h
    | [Z],_,h=>exact absurd (.inr rfl) h
    | Z::Y::st,_,_ =>
     have hZ:Z≠[]:=i3 rfl Z rfl
     have hY:st=[]→Y=[]:=fun h=>by subst h;exact (i4 Y rfl).2 (.inl (by simp))
     rw [show popZ (Z::Y::st)=(Y++[.node ByteArray.empty Z])::st from rfl] at e
     obtain ⟨h1,h2⟩:=tK f s ((Y++[.node ByteArray.empty Z])::st) true r (by omega) ⟨fun X hX r hr=>by
      rcases List.mem_cons.1 hX with rfl | h
      ·rcases List.mem_append.1 hr with h | h
       ·exact i1 Y (by simp) r h
       ·rw [List.mem_singleton.1 h];exact FL rfl hZ fun k hk=>i1 Z (by simp) k hk
      ·exact i1 X (by simp [h]) r hr,by simp,(fun _ X hX=>by cases hX;simp),fun X hX=>by
       cases st with
       | nil =>
        cases hX;rw [hY rfl]
        exact ⟨by simp,fun h=>by simp at h⟩
       | cons W st =>
        rw [List.getLast?_cons_cons] at hX
        have:=i4 X (by rw [List.getLast?_cons_cons,List.getLast?_cons_cons];exact hX)
        exact ⟨this.1,fun _=>this.2 (.inl (by simp))⟩⟩ e
     refine ⟨?_,h2⟩
     rw [← h1,PX hZ hY,c2];simp
  rw [if_neg c2] at e
  by_cases c3:c=44
  ·rw [if_pos c3] at e
   by_cases hb:b=false∨st.length=1
   ·rw [if_pos hb] at e;cases e
   ·rw [if_neg hb] at e
    have hb1:b=true:=by cases b<;>simp at hb ⊢
    subst hb1
    match st,i2,hb with
    | [],h,_=>exact absurd rfl h
    | [Z],_,h=>exact absurd (.inr rfl) h
    | Z::Y::st,_,_ =>
     have hZ:Z≠[]:=i3 rfl Z rfl
     obtain ⟨h1,h2⟩:=tK f s (Z::Y::st) false r (by omega) ⟨i1,by simp,(fun h=>by cases h),fun X hX=>⟨(i4 X hX).1,fun _=>(i4 X hX).2 (.inl (by simp))⟩⟩ e
     refine ⟨?_,h2⟩
     rw [← h1,c3]
     simp [pT,hZ]
  rw [if_neg c3] at e
  by_cases c4:c=59
  ·rw [if_pos c4] at e
   by_cases hb:b=false∨st.length≠1∨s≠[]
   ·rw [if_pos hb] at e;cases e
   ·rw [if_neg hb] at e
    have hb1:b=true:=by cases b<;>simp at hb ⊢
    have hs:s=[]:=by simp at hb;exact hb.2.2
    have hl:st.length=1:=by simp at hb;exact hb.2.1
    subst hb1;subst hs
    match st,hl with
    | [Z],_ =>
     have hZ:Z≠[]:=i3 rfl Z rfl
     cases Z with
     | nil=>exact absurd rfl hZ
     | cons q Z =>
      cases e
      rw [c4]
      exact ⟨rfl,i1 (q::Z) List.mem_cons_self q List.mem_cons_self⟩
  rw [if_neg c4] at e
  by_cases c5:b=true
  ·rw [if_pos c5] at e;cases e
  rw [if_neg c5] at e
  have hb:b=false:=by cases b<;>simp at c5 ⊢
  subst hb
  by_cases c6:Lib.indexAny (c::s) bF<0
  ·rw [if_pos c6] at e;cases e
  rw [if_neg c6] at e
  have hn:=(FK (s:=s) (BI c1 c2 c3 c4)).resolve_left c6
  obtain ⟨n,hn2⟩:∃n:Nat,Lib.indexAny (c::s) bF=(n:Int):=⟨(Lib.indexAny (c::s) bF).toNat,by omega⟩
  rw [hn2,Int.toNat_natCast] at e
  have hno:∀x∈(c::s).take n,x∉bF:=I9 _ n hn2
  match st,i2 with
  | Z::st,_ =>
   have hne:(c::s).take n≠[]:=by
    cases n with
    | zero=>omega
    | succ n=>simp
   rw [show ∀q,Vx q (Z::st)=(Z++[q])::st from fun _=>rfl] at e
   obtain ⟨h1,h2⟩:=tK f ((c::s).drop n) ((Z++[.node ⟨((c::s).take n).toArray⟩ []])::st) true r (by rw [List.length_drop,List.length_cons];omega) ⟨fun X hX r hr=>by
     rcases List.mem_cons.1 hX with rfl | h
     ·rcases List.mem_append.1 hr with h | h
      ·exact i1 Z (by simp) r h
      ·rw [List.mem_singleton.1 h];exact FM (by simpa using hne) (by simpa using hno)
     ·exact i1 X (by simp [h]) r hr,by simp,(fun _ X hX=>by cases hX;simp),fun X hX=>by
      cases st with
      | nil =>
       cases hX;rw [(i4 Z rfl).2 (.inr rfl)]
       exact ⟨by simp,fun h=>by simp at h⟩
      | cons W st =>
       rw [List.getLast?_cons_cons] at hX
       have:=i4 X (by rw [List.getLast?_cons_cons];exact hX)
       exact ⟨this.1,fun _=>this.2 (.inr rfl)⟩⟩ e
   refine ⟨?_,h2⟩
   rw [← h1]
   have ht:c::s=(c::s).take n++(c::s).drop n:=(List.take_append_drop _ _).symm
   cases st with
   | nil =>
    rw [(i4 Z rfl).2 (.inr rfl)]
    simp only [pT,List.nil_append,txR]
    exact ht
   | cons W st =>
    have Bk:Z++[RT.node ⟨((c::s).take n).toArray⟩ []]≠[]:=by simp
    simp only [pT,if_neg Bk,if_true,xY,txR,List.append_nil]
    by_cases hZ:Z=[]
    ·subst hZ;simp [fP]
    ·have hz:Z.length≠0:=by simpa using hZ
     simp [hZ]
theorem Dl {s:List UInt8} {r:RT} (h:iL s=some r):s=txR r++[59]∧kA r:=by
 obtain ⟨h1,h2⟩:=tK _ s [[]] false r (Nat.lt_succ_self _) ⟨(fun Z hZ r hr=>by simp at hZ;subst hZ;cases hr),by simp,(fun h=>by cases h),fun Z hZ=>by cases hZ;simp⟩ h;exact ⟨h1,h2⟩
theorem xI {s:List UInt8} {r:RT} (h:iL s=some r):(flat r).ps.length≤s.length∧(flat r).ns.length≤s.length∧∀k,(gs (flat r).ns k).size≤s.length:=by
 obtain ⟨h1,h2⟩:=Dl h;obtain ⟨h3,h4⟩:=x5 r h2;have hl:s.length=(txR r).length+1:=by rw [h1];simp
 refine ⟨by rw [mm];omega,by rw [qo];omega,fun k=>?_⟩;by_cases hk:k<(cF r).length
 ·have hm:gs (cF r) k∈cF r:=by simp [gs,hk]
  have:=h4 _ hm;show (gs (cF r) k).size≤_;omega
 ·have:gs (flat r).ns k=ByteArray.empty:=by
   show (cF r).getD k ByteArray.empty=_
   simp [show (cF r).length≤k by omega]
  rw [this];exact Nat.zero_le _
end
end Go.Proofs.YthgabkgmkolobaaGreat
