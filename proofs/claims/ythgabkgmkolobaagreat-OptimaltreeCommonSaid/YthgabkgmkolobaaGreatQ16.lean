/- Parse, plain: the machine over a stack of lists of rose trees; the forest that grows. .. -/
import Derived.Lib.IndexAny
import Derived.Shelf.Strings.BuilderK
import Derived.Ground.NamesProg
import Derived.Ground.Names2Prog
import Derived.Lib.MinMax
import Derived.Test.YthgabkgmkolobaaGreatQ15
set_option maxRecDepth 100000
set_option maxHeartbeats 4000000
namespace Go.Proofs.YthgabkgmkolobaaGreat
def dS:List UInt8:=[40,41,44,59]
def popZ:List (List RT)->List (List RT)
 | Z::Y::st=>(Y++[.node ByteArray.empty Z])::st
 | st=>st
def addZ (r:RT):List (List RT)->List (List RT)
 | Z::st=>(Z++[r])::st
 | []=>[]
def firstZ:List (List RT)->RT
 | (r::_)::_=>r
 | _=>.node ByteArray.empty []
def pz:Nat->List UInt8->List (List RT)->Bool->Option RT
 | 0,_,_,_=>none
 | _+1,[],_,_=>none
 | f+1,c::s,st,dn =>
  if c=40 then (if dn=true then none else pz f s ([]::st) false)
  else if c=41 then (if dn=false\/st.length=1 then none else pz f s (popZ st) true)
  else if c=44 then (if dn=false\/st.length=1 then none else pz f s st false)
  else if c=59 then (if dn=false\/st.length≠1\/s≠[] then none else some (firstZ st))
  else if dn=true then none
  else if Lib.indexAny (c::s) dS<0 then none
  else pz f ((c::s).drop (Lib.indexAny (c::s) dS).toNat) (addZ (.node ⟨((c::s).take (Lib.indexAny (c::s) dS).toNat).toArray⟩ []) st) true
def qw (s:List UInt8):Option RT:=pz (s.length+1) s [[]] false
section
variable {F G:ct} {n m:Nat} {rk:Nat->Nat}
theorem NL (hF:Wf F n rk) (hG:Wf G m rk):∀(d c:Nat),rk c<=d->c<n->c<m->(∀z,ep F rk c z=true->G.kids z=F.kids z/\G.nm z=F.nm z)->bB G rk c=bB F rk c
 | d,c,hd,hc,hm,hz=>by
  obtain ⟨h1,h2⟩:=hz c (pV hF hc)
  rw [fO hF hc,fO hG hm,h1,h2]
  congr 1
  refine lU fun k hk=>?_
  have hkk:=hF.kid c hc k hk
  have hkm:=(hG.kid c hm k (by rw [h1];exact hk)).1
  cases d with
  | zero=>omega
  | succ d=>exact NL hF hG d k (by omega) hkk.1 hkm fun z hs=>hz z (vD hF hc hk hs)
def uqF (F:ct):ct:=⟨fun i=>⟨Array.replicate i 0⟩,F.old,F.kids⟩
theorem uq_arb (hF:Wf F n rk) (one:∀p q k,p<n->q<n->k∈F.kids p->k∈F.kids q->p=q) (nd:∀i,i<n->(F.kids i).Nodup):BO (uqF F) n rk :=
 ⟨⟨fun i hi k hk=>hF.kid i hi k hk⟩,one,nd,fun a b _ _ _ _ e=>by
  have e:(⟨Array.replicate a 0⟩:ByteArray)=⟨Array.replicate b 0⟩:=e
  have:=congrArg (fun s:ByteArray=>s.data.size) e
  simpa using this⟩
theorem uq_sub (hF:Wf F n rk) {c:Nat} (hc:c<n) (z:Nat):ep (uqF F) rk c z=ep F rk c z :=
 sub_cong (G:=uqF F) hF ⟨fun i hi k hk=>hF.kid i hi k hk⟩ hc (af _) (fun _ _=>rfl) z
theorem Uo (hF:Wf F n rk):∀(d c:Nat),rk c<=d->c<n->dw (uqF F) rk c=dw F rk c
 | d,c,hd,hc=>by
  have hU:Wf (uqF F) n rk:=⟨fun i hi k hk=>hF.kid i hi k hk⟩
  rw [fh hF hc,fh hU hc]
  congr 1
  refine nO fun k hk=>?_
  have hkk:=hF.kid c hc k hk
  cases d with
  | zero=>omega
  | succ d=>exact Uo hF d k (by omega) hkk.1
theorem one_kids (hF:Wf F n rk) (one:∀p q k,p<n->q<n->k∈F.kids p->k∈F.kids q->p=q) (nd:∀i,i<n->(F.kids i).Nodup) {R:Nat} (hR:∀i,i<n->rk i<=R) {i x y j:Nat} (hi:i<n) (hx:x∈F.kids i) (hy:y∈F.kids i) (h1:ep F rk x j=true) (h2:ep F rk y j=true):x=y :=
 LJ (uq_arb hF one nd) hR hi hx hy (by rw [uq_sub hF (hF.kid i hi x hx).1];exact h1) (by rw [uq_sub hF (hF.kid i hi y hy).1];exact h2)
theorem Q6 (hF:Wf F n rk) (one:∀p q k,p<n->q<n->k∈F.kids p->k∈F.kids q->p=q) (nd:∀i,i<n->(F.kids i).Nodup) {R:Nat} (hR:∀i,i<n->rk i<=R) {i:Nat} (hi:i<n):(dw F rk i).Nodup:=by
 rw [<- Uo hF (rk i) i (af _) hi];exact qI (uq_arb hF one nd) hR hi (af _)
end
def uN (z:Nat):Nat:=2000 - z
def FX (F:ct):Option Nat->List Nat->List (List RT)->Prop
 | nx,o::os,Z::st=>(F.nm o).size=0/\(∃ks,F.kids o=ks++nx.toList/\ks.map (bB F uN)=Z)/\FX F (some o) os st
 | _,[],[]=>True
 | _,_,_=>False
structure sO (F:ct) (n:Nat) (op:List Nat) (st:List (List RT)):Prop where
 big:n<=2000
 kid:∀i,i<n->∀k∈F.kids i,i<k/\k<n
 one:∀p q k,p<n->q<n->k∈F.kids p->k∈F.kids q->p=q
 nd:∀i,i<n->(F.kids i).Nodup
 zip:FX F none op st
 opn:∀o∈op,o<n
 ne:op≠[]
section
variable {F:ct} {n:Nat} {op:List Nat} {st:List (List RT)}
theorem sO.wf (h:sO F n op st):Wf F n uN:=⟨fun i hi k hk=>by obtain ⟨h1,h2⟩:=h.kid i hi k hk;have:=h.big;exact ⟨h2,by unfold uN;omega⟩⟩
theorem Uq (i:Nat):uN i<=2000:=Nat.sub_le _ _
theorem FX.len {F:ct}:∀ {nx:Option Nat} {op:List Nat} {st:List (List RT)},FX F nx op st->op.length=st.length
 | _,[],[],_=>rfl
 | _,_::os,_::st,h=>by rw [aT,aT,h.2.2.len]
 | _,[],_::_,h=>h.elim
 | _,_::_,[],h=>h.elim
def qm (F:ct) (n o:Nat) (nm:ByteArray):ct:=⟨upd F.nm n nm,upd F.old n 0,upd (upd F.kids n []) o (F.kids o++[n])⟩
theorem yK {F:ct} {n o:Nat} {nm:ByteArray}:(qm F n o nm).kids o=F.kids o++[n]:=upd_same _ _ _
theorem yL {F:ct} {n o:Nat} {nm:ByteArray} (h:o<n):(qm F n o nm).kids n=[]:=by
 show upd _ o _ n=[];rw [upd_ne _ _ (by omega),upd_same]
theorem C8 {F:ct} {n o:Nat} {nm:ByteArray} {z:Nat} (h:z≠o) (h2:z≠n):(qm F n o nm).kids z=F.kids z:=by
 show upd _ o _ z=_;rw [upd_ne _ _ h,upd_ne _ _ h2]
theorem J2 {F:ct} {n o:Nat} {nm:ByteArray} {z:Nat} (h2:z≠n):(qm F n o nm).nm z=F.nm z:=upd_ne _ _ h2
theorem BZ {F:ct} {n o:Nat} {nm:ByteArray} (hk:∀i,i<n->∀k∈F.kids i,i<k/\k<n) (ho:o<n) {i k:Nat} (hi:i<n+1) (hm:k∈(qm F n o nm).kids i):(i<n/\k∈F.kids i)\/(i=o/\k=n):=by
 by_cases e:i=o
 ·subst e
  rw [yK] at hm;rcases dV.1 hm with h1 | h1
  ·exact .inl ⟨ho,h1⟩
  ·exact .inr ⟨rfl,by simpa using h1⟩
 ·by_cases e2:i=n
  ·subst e2;rw [yL ho] at hm;cases hm
  ·rw [C8 e e2] at hm;exact .inl ⟨by omega,hm⟩
theorem YV (h:sO F n op st) {o:Nat} (ho:o<n) (nm:ByteArray) (hb:n<2000):Wf (qm F n o nm) (n+1) uN:=⟨fun i hi k hm=>by
 unfold uN
 rcases BZ h.kid ho hi hm with ⟨h1,h2⟩ | ⟨h1,h2⟩
 ·have:=h.kid i h1 k h2;omega
 ·omega⟩
theorem Q7 (h:sO F n op st) {o:Nat} (ho:o<n) (nm:ByteArray) (hb:n<2000) {c:Nat} (hc:c<n) (hs:ep F uN c o=false):bB (qm F n o nm) uN c=bB F uN c :=
 NL h.wf (YV h ho nm hb) _ c (af _) hc (by omega) fun z hz=>by
  have YW:=vZ h.wf hc (af _) hz
  have hne:z≠o:=fun e=>by rw [e,hs] at hz;cases hz
  exact ⟨C8 hne (by omega),J2 (by omega)⟩
theorem Ur (h:sO F n op st) {o:Nat} (ho:o<n) (nm:ByteArray) (hb:n<2000):∀ {y:Nat} {os:List Nat} {zs:List (List RT)},(∀p∈os,p<n)->y<n->ep F uN y o=true->FX F (some y) os zs->FX (qm F n o nm) (some y) os zs
 | _,[],[],_,_,_,_=>trivial
 | y,p::os,Z::zs,hp,hy,hs,hz=>by
  obtain ⟨h1,⟨ks,h2,h3⟩,h4⟩:=hz
  have Us:=hp p (by simp)
  have hyk:y∈F.kids p:=by rw [h2];simp
  have hpy:=(h.kid p Us y hyk).1
  have G0:=vD h.wf Us hyk hs
  have hne:p≠o:=fun e=>by
   subst e
   have:=vX h.wf hy hs
   have hb2:=h.big
   unfold uN at this
   omega
  refine ⟨by rw [J2 (by omega)];exact h1,⟨ks,by rw [C8 hne (by omega)];exact h2,?_⟩,Ur h ho nm hb (fun q hq=>hp q (by simp [hq])) Us G0 h4⟩
  rw [<- h3]
  refine lU fun c hc=>?_
  have uI:c∈F.kids p:=by rw [h2];simp [hc]
  have jt:=(h.kid p Us c uI).2
  refine Q7 h ho nm hb jt ?_
  cases hsc:ep F uN c o with
  | false=>rfl
  | true =>
   exfalso
   have e:=one_kids h.wf h.one h.nd (fun i _=>Uq i) Us uI hyk hsc hs
   subst e
   have fe:=h.nd p Us
   rw [h2] at fe
   have:=(nR.1 fe).2.2 c hc c (by simp)
   exact this rfl
 | _,[],_::_,_,_,_,hz=>hz.elim
 | _,_::_,[],_,_,_,hz=>hz.elim
end
section
variable {F:ct} {n:Nat} {o:Nat} {os:List Nat} {Z:List RT} {st:List (List RT)}
theorem sO.on (h:sO F n (o::os) st):o<n:=h.opn o (by simp)
theorem sO.size (h:sO F n (o::os) (Z::st)):(F.nm o).size=0/\(F.kids o).map (bB F uN)=Z:=by
 obtain ⟨h1,⟨ks,h2,h3⟩,_⟩:=h.zip;refine ⟨h1,?_⟩;rw [h2];simpa using h3
theorem Q8 (h:sO F n (o::os) (Z::st)) (nm:ByteArray) (hb:n<2000) :
  (∀i,i<n+1->∀k∈(qm F n o nm).kids i,i<k/\k<n+1)/\(∀p q k,p<n+1->q<n+1->k∈(qm F n o nm).kids p->k∈(qm F n o nm).kids q->p=q)/\(∀i,i<n+1->((qm F n o nm).kids i).Nodup) /\
  FX (qm F n o nm) (some o) os st/\(∀c∈F.kids o,bB (qm F n o nm) uN c=bB F uN c)/\bB (qm F n o nm) uN n=.node nm []:=by
 have ho:=h.on;refine ⟨fun i hi k hk=>?_,fun p q k hp hq h1 h2=>?_,fun i hi=>?_,Ur h ho nm hb (fun p hp=>h.opn p (by simp [hp])) ho (pV h.wf ho) h.zip.2.2,fun c hc=>?_,?_⟩
 ·rcases BZ h.kid ho hi hk with ⟨h1,h2⟩ | ⟨h1,h2⟩
  ·have:=h.kid i h1 k h2;omega
  ·omega
 ·rcases BZ h.kid ho hp h1 with ⟨a1,a2⟩ | ⟨a1,a2⟩
  ·rcases BZ h.kid ho hq h2 with ⟨b1,b2⟩ | ⟨b1,b2⟩
   ·exact h.one p q k a1 b1 a2 b2
   ·have:=(h.kid p a1 k a2).2;omega
  ·rcases BZ h.kid ho hq h2 with ⟨b1,b2⟩ | ⟨b1,b2⟩
   ·have:=(h.kid q b1 k b2).2;omega
   ·omega
 ·by_cases e:i=o
  ·subst e
   rw [yK,nR];refine ⟨h.nd i ho,by simp,fun a ha b hb e=>?_⟩;(have hb:b=n:=by simpa using hb);have:=(h.kid i ho a ha).2;omega
  ·by_cases e2:i=n
   ·subst e2;rw [yL ho];exact yV
   ·rw [C8 e e2];exact h.nd i (by omega)
 ·have jt:=h.kid o ho c hc
  refine Q7 h ho nm hb jt.2 ?_;cases hs:ep F uN c o with
  | false=>rfl
  | true =>
   have:=vX h.wf jt.2 hs;have hb2:=h.big;unfold uN at this;omega
 ·rw [fO (YV h ho nm hb) (pI n),yL ho]
  show RT.node (upd F.nm n nm n) []=_;rw [upd_same]
theorem sO.leaf (h:sO F n (o::os) (Z::st)) (nm:ByteArray) (hb:n<2000):sO (qm F n o nm) (n+1) (o::os) ((Z++[.node nm []])::st):=by
 obtain ⟨a1,a2,a3,a4,a5,a6⟩:=Q8 h nm hb;have ho:=h.on;refine ⟨by omega,a1,a2,a3,⟨by rw [J2 (by omega)];exact h.size.1,⟨_,(gN _).symm,?_⟩,a4⟩,fun p hp=>by have:=h.opn p hp;omega,by simp⟩;rw [yK,cg,cK,wQ,a6];congr 1;rw [<- h.size.2];exact lU a5
theorem sO.open (h:sO F n (o::os) (Z::st)) (hb:n<2000):sO (qm F n o ByteArray.empty) (n+1) (n::o::os) ([]::Z::st):=by
 obtain ⟨a1,a2,a3,a4,a5,a6⟩:=Q8 h ByteArray.empty hb;have ho:=h.on;refine ⟨by omega,a1,a2,a3,⟨?_,⟨[],by rw [yL ho];rfl,rfl⟩,by rw [J2 (by omega)];exact h.size.1,⟨F.kids o,yK,?_⟩,a4⟩,fun p hp=>?_,by simp⟩
 ·show (upd F.nm n ByteArray.empty n).size=0
  rw [upd_same];rfl
 ·rw [<- h.size.2]
  exact lU a5
 ·rcases aW.1 hp with e | e
  ·omega
  ·have:=h.opn p e;omega
theorem sO.pop {q:Nat} {Y:List RT} (h:sO F n (o::q::os) (Z::Y::st)):sO F n (q::os) ((Y++[.node ByteArray.empty Z])::st):=by
 obtain ⟨h1,⟨ks,h2,h3⟩,h4,⟨IQ,h5,h6⟩,h7⟩:=h.zip;have ho:=h.on;refine ⟨h.big,h.kid,h.one,h.nd,⟨h4,⟨IQ++[o],by rw [h5];simp,?_⟩,h7⟩,fun p hp=>h.opn p (by simp at hp ⊢;rcases hp with e | e<;>simp [e]),by simp⟩;rw [cg,h6,cK,wQ,fO h.wf ho];have hn:F.nm o=ByteArray.empty:=ByteArray.ext (Array.eq_empty_of_size_eq_zero h1);rw [hn,h.size.2]
theorem sO.done {r:RT} {Y:List RT} (h:sO F n [o] [r::Y]):∃c ks,F.kids o=c::ks/\c<n/\lZ F uN c=flat r:=by
 obtain ⟨_,h2⟩:=h.size;have ho:=h.on;cases hk:F.kids o with
 | nil=>rw [hk] at h2;cases h2
 | cons c ks =>
  rw [hk,cK] at h2;injection h2 with h2 h3;have jt:=(h.kid o ho c (by rw [hk];simp)).2;exact ⟨c,ks,rfl,jt,by rw [XO h.wf jt (Q6 h.wf h.one h.nd (fun i _=>Uq i) jt),h2]⟩
theorem sO.len (h:sO F n (o::os) (Z::st)):(o::os).length=st.length+1:=by rw [h.zip.len];rfl
end
end Go.Proofs.YthgabkgmkolobaaGreat
namespace Go.Proofs
open Go.Shelf
def Tryz.bldG_ren:Go.Shelf.Ren:=⟨fun | 169=>94 | n=>n,fun | 70=>115 | 9=>9 | 0=>0 | 72=>117 | 37=>77 | 127=>164 | 3=>3 | 5=>5 | n=>n,fun | n=>n⟩
theorem Tryz.bldG:Go.Proofs.Lays.n169 Tryz.prog Tryz.bldG_ren:={
 mixed:=by kernel_rfl
 f169:=Tryz.func94.trans (congrArg some (by kernel_rfl))
 t0:=Tryz.underlying0
 a0:=Tryz.isAgg0
 z0:=Tryz.sizeOf0
 v0:=Tryz.zeroValue0
 t3:=Tryz.underlying3
 a3:=Tryz.isAgg3
 z3:=Tryz.sizeOf3
 v3:=Tryz.zeroValue3
 t9:=Tryz.underlying9
 a9:=Tryz.isAgg9
 z9:=Tryz.sizeOf9
 v9:=Tryz.zeroValue9
 t37:=Tryz.underlying77
 a37:=Tryz.isAgg77
 z37:=Tryz.sizeOf77
 v37:=Tryz.zeroValue77
 t70:=Tryz.underlying115
 a70:=Tryz.isAgg115
 z70:=Tryz.sizeOf115
 v70:=Tryz.zeroValue115
 t72:=Tryz.underlying117
 a72:=Tryz.isAgg117
 z72:=Tryz.sizeOf117
 v72:=Tryz.zeroValue117
 t127:=Tryz.underlying164
 a127:=Tryz.isAgg164
 z127:=Tryz.sizeOf164
 v127:=Tryz.zeroValue164 }
end Go.Proofs
namespace Go.Proofs.YthgabkgmkolobaaGreat
section
open Go.RowKit Go.Deep
theorem Ut:(Tryz.prog.info? 117).map (·.size)=some 2:=by kernel_rfl
theorem bld_lies:liesAt Tryz.prog Tryz.prog.depth 117 (2 / Tryz.prog.cellsOf 117) 0 117 1=true:=by kernel_rfl
theorem Uu:(Tryz.prog.info? 5).map (fun i=>(i.zero,i.size,i.bytes))=some (some (.int .u8 0),1,1):=by kernel_rfl
theorem bld_ne:(117:TypeId)≠5:=by decide
theorem cc_used (b:Nat) (w:World) (h0:w.cell? ⟨b,0,none⟩=some (.pointer (some ⟨b,0,none⟩))) :
  Calls Tryz.prog 140 #[.pointer (some ⟨b,0,none⟩)] w fun e w'=>e=.returned (.tuple #[])/\w'=w:=by
 obtain ⟨j,hj,_⟩:=mh.1 Ut
 go_enter Tryz.func140,Tryz.ntmps140
 go_wp2_with fail;rw [Lib.run_neq_ptr_same w _ Tryz.underlying115 hj];go_wp2_with fail
 go_end0
 exact ⟨rfl,rfl⟩
theorem cc_fresh (b:Nat) (w:World) (h0:w.cell? ⟨b,0,none⟩=some (.pointer none)) (hsh:w.shape? b=some (117,2)) (hfz:w.frozen? ⟨b,0,none⟩=false) :
  Calls Tryz.prog 140 #[.pointer (some ⟨b,0,none⟩)] w fun e w'=>e=.returned (.tuple #[])/\w'=w.setCell ⟨b,0,none⟩ (.pointer (some ⟨b,0,none⟩)):=by
 obtain ⟨j,hj,hjs⟩:=mh.1 Ut
 go_enter Tryz.func140,Tryz.ntmps140
 go_wp2_with fail;rw [Lib.run_to_unsafe w ⟨b,0,none⟩ Tryz.underlying115 Tryz.underlying205 hj (by rw [hjs];decide) hsh (Nat.zero_lt_succ 1)];simp only [Result.andThen];rw [Oper.upon_value];go_wp2_with fail;rw [run_callFunc_extern Tryz.func198 (by kernel_rfl) (by kernel_rfl) (by kernel_rfl) (e:=Extern.AbiNoEscape.same) (by kernel_rfl)];rw [Lib.run_noEscape];simp only [Result.andThen];rw [Oper.upon_value];go_wp2_with fail;rw [Lib.run_from_unsafe w ⟨b,0,none⟩ Tryz.underlying205 Tryz.underlying115 hj hsh bld_lies];simp only [Result.andThen];rw [Oper.upon_value];go_wp2_with fail
 go_end0
 exact ⟨rfl,rfl⟩
theorem cc_t (B b:Nat) (bs:List Value) (w:World) (h:Lib.IsBuilderF 117 5 B b bs w) :
  Calls Tryz.prog 140 #[.pointer (some ⟨b,0,none⟩)] w fun e w'=>e=.returned (.tuple #[])/\(Lib.BuilderAtF 117 5 B b (.pointer (some ⟨b,0,none⟩)) bs w'/\Below B w w'/\Lib.OthersKept 5 (some b) w w'):=by
 rcases h with h | h
 ·refine (cc_fresh b w h.cell0 h.shape h.frozen0).mono ?_
  rintro e w' ⟨rfl,rfl⟩;exact ⟨rfl,h.used _,(dM B w).setCell (p:=⟨b,0,none⟩) h.1 _,(Lib.OthersKept.refl _ _ w).setCell ⟨b,0,none⟩ rfl _⟩
 ·refine (cc_used b w h.cell0).mono ?_
  rintro e w' ⟨rfl,rfl⟩;exact ⟨rfl,h,dM B _,Lib.OthersKept.refl _ _ _⟩
theorem Ph (B b:Nat) (bs:List Value) (c:Int) (w:World) (h:Lib.IsBuilderF 117 5 B b bs w) (hlen:bs.length+1<=140737488355328) (hBw:B<=w.heap.size) :
  Calls Tryz.prog 92 #[.pointer (some ⟨b,0,none⟩),.int .u8 c] w fun e w'=>e=.returned .nilIface/\(Lib.BuilderAtF 117 5 B b (.pointer (some ⟨b,0,none⟩)) (bs++[.int .u8 c]) w'/\Below B w w'/\Lib.OthersKept 5 (some b) w w'):=by
 obtain ⟨i0,hi,hzz⟩:=mh.1 Uu;simp only [mj] at hzz;obtain ⟨hz0,hz1,hz2⟩:=hzz;have Ni:=aa (cc_t B b bs w h);clear h
 go_enter Tryz.func92,Tryz.ntmps92
 go_wp2_with fail;refine Ni.out.mono ?_;rintro e w1 ⟨rfl,h1,hb1,hk1⟩;obtain ⟨hB,v,hbk,hown,hne⟩:=h1;have c0:w1.cell? ⟨b,0,none⟩=some (.pointer (some ⟨b,0,none⟩)):=by rw [CH hbk];rfl
 have c1:w1.cell? ⟨b,1,none⟩=some v:=by rw [CH hbk];rfl
 go_wp2_with (at_builtin;refine wpList_append_ownF _ rfl _ _ 77 rfl B 5 i0 (.int .u8 0) 1 1 Tryz.underlying77 hi hz0 hz1 hz2 rfl (by decide) _ _ _ rfl (hown.alloc _) ⟨w1.heap.size,0,none⟩ 1 1 [.int .u8 c] rfl rfl ?c1 ?c2 ?c3 ?c4 ?c5 ?_)
 case c1 =>
  intro j u hj
  match j,hj with
  | 0,hj=>simp at hj;subst hj;simp [Addr.add]
 case c2=>intro u hu;simp at hu;subst hu;rfl
 case c3=>unfold maxLen;omega
 case c4=>omega
 case c5=>have:=hb1.size;simp;omega
 intro v' w2 hown' hgrow _;have hlt:b<w1.heap.size:=by
  rcases Nat.lt_or_ge b w1.heap.size with h' | h'
  ·exact h'
  ·simp [Array.getElem?_eq_none h'] at hbk
 have hb2:w2.heap[b]? = some (.cells #[.pointer (some ⟨b,0,none⟩),v] 117 (0,0)):=by rw [hgrow.block b (by simp;omega) (fun e=>hne e.symm),Lib.alloc_old w1 _ b hlt];exact hbk
 have d0:w2.cell? ⟨b,0,none⟩=some (.pointer (some ⟨b,0,none⟩)):=by rw [CH hb2];rfl
 have d1:w2.cell? ⟨b,1,none⟩=some v:=by rw [CH hb2];rfl
 have f1:w2.frozen? ⟨b,1,none⟩=false:=Lib.frozen_of_heap hb2 1;obtain ⟨g,cap,rfl⟩:∃g cap,v'=.slice (some ⟨g,0,none⟩) (bs.length+1) cap:=by
  rcases hown'.2 with ⟨_,h0⟩ | ⟨g,cap,cur,fz,hv,_⟩
  ·omega
  ·exact ⟨g,cap,hv⟩
 go_wp2_with fail;go_ret;refine ⟨rfl,?_,?_,((hk1.alloc _).grown hgrow (Lib.ownsRowF_kind (hown.alloc _))).setCell ⟨b,1,none⟩ rfl _⟩
 ·exact Lib.BuilderAtF.put (T:=117) (e:=5) hB hb2 (bs':=bs++[.int .u8 c]) (by simpa using hown') bld_ne
 ·exact ((hb1.alloc (by have:=hb1.size;omega) _).grown hgrow (by have:=hb1.size;simp;omega) (fun k hk=>(hown.lt k hk).1)).setCell (p:=⟨b,1,none⟩) hB _
theorem wstr_t (B b:Nat) (bs:List Value) (s:ByteArray) (w:World) (h:Lib.IsBuilderF 117 5 B b bs w) (hlen:bs.length+s.size<=140737488355328) (hBw:B<=w.heap.size) :
  Calls Tryz.prog 91 #[.pointer (some ⟨b,0,none⟩),.string s] w fun e w'=>e=.returned (.tuple #[.int .i64 s.size,.nilIface])/\(Lib.BuilderAtF 117 5 B b (.pointer (some ⟨b,0,none⟩)) (bs++Lib.strCells s) w'/\Below B w w'/\Lib.OthersKept 5 (some b) w w'):=by
 obtain ⟨i0,hi,hzz⟩:=mh.1 Uu;simp only [mj] at hzz;obtain ⟨hz0,hz1,hz2⟩:=hzz;have Ni:=aa (cc_t B b bs w h);clear h
 go_enter Tryz.func91,Tryz.ntmps91
 go_wp2_with fail;refine Ni.out.mono ?_;rintro e w1 ⟨rfl,h1,hb1,hk1⟩;obtain ⟨hB,v,hbk,hown,hne⟩:=h1;have c0:w1.cell? ⟨b,0,none⟩=some (.pointer (some ⟨b,0,none⟩)):=by rw [CH hbk];rfl
 have c1:w1.cell? ⟨b,1,none⟩=some v:=by rw [CH hbk];rfl
 go_wp2_with (at_builtin;refine Lib.wpList_append_own_stringF _ rfl _ _ 77 9 rfl B 5 i0 Tryz.underlying77 Tryz.underlying9 hi hz0 hz1 hz2 _ _ _ rfl hown s rfl ?c3 ?c4 ?c5 ?_)
 case c3=>unfold maxLen;omega
 case c4=>omega
 case c5=>have:=hb1.size;omega
 intro v' w2 hown' hgrow _;have hlt:b<w1.heap.size:=by
  rcases Nat.lt_or_ge b w1.heap.size with h' | h'
  ·exact h'
  ·simp [Array.getElem?_eq_none h'] at hbk
 have hb2:w2.heap[b]? = some (.cells #[.pointer (some ⟨b,0,none⟩),v] 117 (0,0)):=by rw [hgrow.block b hlt (fun e=>hne e.symm)];exact hbk
 have d0:w2.cell? ⟨b,0,none⟩=some (.pointer (some ⟨b,0,none⟩)):=by rw [CH hb2];rfl
 have d1:w2.cell? ⟨b,1,none⟩=some v:=by rw [CH hb2];rfl
 have f1:w2.frozen? ⟨b,1,none⟩=false:=Lib.frozen_of_heap hb2 1;obtain ⟨ao,n',cap,rfl⟩:∃ao n' cap,v'=.slice ao n' cap:=by
  rcases hown'.2 with ⟨hv,_⟩ | ⟨g,cap,cur,fz,hv,_⟩
  ·exact ⟨_,_,_,hv⟩
  ·exact ⟨_,_,_,hv⟩
 go_wp2_with fail;go_ret2;refine ⟨rfl,?_,?_,(hk1.grown hgrow (Lib.ownsRowF_kind hown)).setCell ⟨b,1,none⟩ rfl _⟩
 ·exact Lib.BuilderAtF.put (T:=117) (e:=5) hB hb2 (bs':=bs++Lib.strCells s) (by simpa [Lib.strCells_length] using hown') bld_ne
 ·exact (hb1.grown hgrow (by have:=hb1.size;omega) (fun k hk=>(hown.lt k hk).1)).setCell (p:=⟨b,1,none⟩) hB _
theorem bstr_t (B b:Nat) (l:List UInt8) (w:World) (h:Lib.IsBuilderF 117 5 B b (Lib.byteCells l) w) (hBw:B<=w.heap.size) :
  Calls Tryz.prog 94 #[.pointer (some ⟨b,0,none⟩)] w fun e w'=>e=.returned (.string ⟨l.toArray⟩)/\(Lib.IsBuilderF 117 5 B b (Lib.byteCells l) w'/\Below B w w'/\Lib.OthersKept 5 (some b) w w') :=
 Any.Builder_String_any_k Tryz.bldG ⟨⟨by kernel_rfl,by kernel_rfl⟩,Tryz.underlying5,Tryz.isAgg5,Tryz.sizeOf5,Tryz.zeroValue5,by kernel_rfl,by kernel_rfl,by kernel_rfl,by decide⟩ B b l w h hBw
mutual
def dy:RT->List UInt8
 | .node nm []=>nm.data.toList
 | .node _ (k::ks)=>40::(dy k++fK ks++[41])
def fK:List RT->List UInt8
 | []=>[]
 | r::rs=>44::(dy r++fK rs)
end
def mJ:List RT->List UInt8
 | []=>[]
 | k::ks=>40::(dy k++fK ks)
theorem txRs_app (l:List RT) (c:RT):fK (l++[c])=fK l++44::dy c:=by
 induction l with
 | nil=>simp [fK]
 | cons a l ih=>rw [cr,fK,fK,ih];simp
theorem J3 (l:List RT) (c:RT):mJ (l++[c])=mJ l++(if l.length=0 then 40 else 44)::dy c:=by
 cases l with
 | nil=>simp [mJ,fK]
 | cons a l=>rw [cr,mJ,mJ,txRs_app,if_neg (by simp)];simp
theorem B3 (nm:ByteArray) {ks:List RT} (h:ks≠[]):dy (.node nm ks)=mJ ks++[41]:=by
 cases ks with
 | nil=>exact absurd rfl h
 | cons k ks=>rw [dy,mJ];simp
theorem FY (nm:ByteArray):dy (.node nm [])=nm.data.toList:=by rw [dy]
theorem Uv (l m:List RT):(fK (l++m)).length=(fK l).length+(fK m).length:=by
 induction l with
 | nil=>simp [fK]
 | cons a l ih=>rw [cr,fK,fK];simp [ih];omega
theorem IU (l:List RT) (k:Nat):(mJ (l.take k)).length<=(mJ l).length:=by
 cases l with
 | nil=>simp [mJ]
 | cons a l =>
  cases k with
  | zero=>simp [mJ]
  | succ k =>
   rw [Bk,mJ,mJ];have:=Uv (l.take k) (l.drop k);rw [wR] at this;simp only [aT,aZ];omega
structure rL (B b:Nat) (pre:List UInt8) (w wr:World):Prop where
 bl:Lib.IsBuilderF 117 5 B b (Lib.byteCells pre) wr
 up:Below B w wr
 ot:Lib.OthersKept 5 (some b) w wr
theorem rL.size {B b:Nat} {pre:List UInt8} {w wr:World} (h:rL B b pre w wr) (hB:B<=w.heap.size):B<=wr.heap.size:=aJ hB h.up.size
theorem rL.byte {B b:Nat} {pre:List UInt8} {w wr w2:World} {x:UInt8} {c:Int} (h:rL B b pre w wr) (hc:c=x.toNat) (h1:Lib.BuilderAtF 117 5 B b (.pointer (some ⟨b,0,none⟩)) (Lib.byteCells pre++[.int .u8 c]) w2) (h2:Below B wr w2) (h3:Lib.OthersKept 5 (some b) wr w2):rL B b (pre++[x]) w w2:=by
 subst hc;exact ⟨.inr (by rw [show Lib.byteCells (pre++[x])=Lib.byteCells pre++[.int .u8 x.toNat] from cg];exact h1),h.up.trans h2,h.ot.trans h3⟩
theorem rL.next {B b:Nat} {pre pre2:List UInt8} {w wr w2:World} (h:rL B b pre w wr) (k:rL B b pre2 wr w2):rL B b pre2 w w2:=⟨k.bl,h.up.trans k.up,h.ot.trans k.ot⟩
theorem cU.others {base n b:Nat} {A:Nat->Nat} {kv:Nat->Value} {F:ct} {w w':World} (h:cU base n A kv F w) (hb:b<base) (k:Lib.OthersKept 5 (some b) w w'):cU base n A kv F w':=by
 refine h.same (fun i hi=>?_) fun i g hi hg=>?_
 ·have h1:=h.node i hi
  rw [h1];refine k _ _ h1 (fun e=>by have:=h.lo i hi;cases e;omega) (fun c fz e=>?_);injection e with _ e2 _;exact absurd e2 (by decide)
 ·have hlo:=(h.ni hi hg).1
  obtain ⟨_,h1 | ⟨g2,cap,cur,h1,_,hc,_⟩⟩:=h.own i hi
  ·rw [h1.1] at hg;cases hg
  ·rw [h1] at hg
   have hg:some g2=some g:=hg;injection hg with hg;subst hg;rw [hc];refine k _ _ hc (fun e=>by cases e;omega) (fun c fz e=>?_);injection e with _ e2 _;exact absurd e2 (by decide)
def C9 (b fb:Nat) (w:World):Prop:=w.heap[fb]? = some (Obj.cells #[.func (.func 90) #[] #[.pointer (some ⟨b,0,none⟩),.pointer (some ⟨fb,0,none⟩)]] 118 (0,0))
theorem C9.cell {b fb:Nat} {w:World} (h:C9 b fb w):w.cell? ⟨fb,0,none⟩=some (.func (.func 90) #[] #[.pointer (some ⟨b,0,none⟩),.pointer (some ⟨fb,0,none⟩)]):=by
 have h:w.heap[fb]? = _:=h;simp [World.cell?,h]
theorem C9.others {b fb:Nat} {w w':World} (h:C9 b fb w) (hne:fb≠b) (k:Lib.OthersKept 5 (some b) w w'):C9 b fb w':=by
 have h:w.heap[fb]? = _:=h;refine k _ _ h (fun e=>by cases e;exact hne rfl) (fun c fz e=>?_);injection e with _ e2 _;exact absurd e2 (by decide)
def PtPost (B b:Nat) (pre:List UInt8) (w:World) (e:Ending) (w':World):Prop:=e=.returned (.tuple #[])/\rL B b pre w w'
theorem print1_t {base n B b fb:Nat} {A:Nat->Nat} {kv:Nat->Value} {F:ct} {rk:Nat->Nat} (hw:Wf F n rk) (hl:∀z,z<n->(F.kids z).length<=1000) (hbb:b<base) (Da:fb≠b):∀(d i:Nat) (pre:List UInt8) (w:World),i<n->rk i<=d->cU base n A kv F w->C9 b fb w ->
  Lib.IsBuilderF 117 5 B b (Lib.byteCells pre) w->pre.length+(dy (bB F rk i)).length<=140737488355328->B<=w.heap.size ->
  Calls Tryz.prog 90 (#[.pointer (some ⟨A i,0,none⟩)]++#[.pointer (some ⟨b,0,none⟩),.pointer (some ⟨fb,0,none⟩)]) w (PtPost B b (pre++dy (bB F rk i)) w):=by
 intro d
 induction d using Nat.strongRecOn with
 | ind d ih =>
  intro i pre w hi hd hF iT hbl hlen hB;have eP:∀args w,(callFunc 90 args).run Tryz.prog w=.ok (.enter 90 args) w:=enters_of Tryz.func90 (by kernel_rfl) rfl;have hown:=hF.own i hi;obtain ⟨q,cap,hv,hq⟩:=hown.form (n:=(F.kids i).length) (by simp);have hkc:=hF.zB hi;rw [hv] at hkc;have hnm:=hF.name hi;by_cases h0:F.kids i=[]
  ·have Q9:dy (bB F rk i)=(F.nm i).data.toList:=by rw [fO hw hi,h0];exact FY _
   rw [Q9] at hlen ⊢;(have d1:(((F.kids i).length:Int)==0)=true:=by rw [h0];rfl);have HW:=aa (wstr_t B b (Lib.byteCells pre) (F.nm i) w hbl (by rw [Lib.byteCells_length];exact hlen) hB);have HE:Hid (∀w',Lib.BuilderAtF 117 5 B b (.pointer (some ⟨b,0,none⟩)) (Lib.byteCells pre++Lib.strCells (F.nm i)) w'->Below B w w'->Lib.OthersKept 5 (some b) w w'->rL B b (pre++(F.nm i).data.toList) w w'):=fun w' h1 h2 h3 =>
    ⟨.inr (by rw [Lib.strCells_eq,<- show Lib.byteCells (pre++(F.nm i).data.toList)=Lib.byteCells pre++Lib.byteCells (F.nm i).data.toList from cg] at h1;exact h1),h2,h3⟩
   clear hown hq hv ih hF iT hbl hlen h0 Q9;generalize F.nm i=nm at *
   go_enter Tryz.func90,Tryz.ntmps90
   go_wp2_with fail;refine HW.out.mono ?_;rintro e w' ⟨rfl,h1,h2,h3⟩;have HN:=aa (HE.out w' h1 h2 h3);clear h1 h2 h3;go_wp2_with fail
   go_end0
   exact ⟨rfl,HN.out⟩
  ·obtain ⟨L,Eu⟩:∃L,L=F.kids i:=⟨_,rfl⟩
   (have Qu:0<L.length:=by rw [Eu];exact Ak.2 h0);(have kI:L.length<=1000:=by rw [Eu];exact hl i hi);rw [<- Eu] at hown hv hkc;(have Q9:dy (bB F rk i)=mJ (L.map (bB F rk))++[41]:=by rw [fO hw hi,<- Eu];exact B3 _ (by rw [Eu];simpa using h0));rw [Q9] at hlen ⊢;have d1:((L.length:Int)==0)=false:=beq_eq_false_iff_ne.2 (by omega);obtain ⟨gk,rfl⟩:∃g,q=some ⟨g,0,none⟩:=by
    rcases hq with rfl | h
    ·obtain ⟨_,h | ⟨g,_,_,h,_⟩⟩:=hown
     ·have:=h.2;rw [aG] at this;omega
     ·rw [hv] at h;cases h
    ·exact h
   (have HLEN:Hid (∀k,pre.length+(mJ ((L.take k).map (bB F rk))).length+1<=140737488355328):=fun k=>by have:=IU (L.map (bB F rk)) k;rw [<- List.map_take] at this;simp only [aZ,aT,dO] at hlen;omega);(have HST:Hid (rL B b (pre++mJ ((L.take 0).map (bB F rk))) w w):=by rw [Hid,List.take_zero,wQ,mJ,gN];exact ⟨hbl,dM _ _,Lib.OthersKept.refl _ _ _⟩);have HF:=aa hF;have dz:=aa iT;have gG:=aa Eu;have qu:=aa ih;have HV:=aa hv
   have gI:Hid (∀c∈L,c<n/\rk c<rk i):=fun c hc=>hw.kid i hi c (by rw [<- Eu];exact hc);clear hown hq hv ih hF iT hbl hlen h0 Q9 Eu hnm
   go_enter Tryz.func90,Tryz.ntmps90
   go_wp2_with fail
   go_loopw [4,5,22] (fun _ _ x wr=>∃k:Nat,k<=L.length/\x=.int .i64 k/\Hid (rL B b (pre++mJ ((L.take k).map (bB F rk))) w wr)) (fun _ _ x _=>L.length - (intOf x).toNat)
   case atStart=>exact ⟨0,aL _,rfl,HST.out⟩
   case round =>
    obtain ⟨k,hk,rfl,hO⟩:=hrel;obtain ⟨wo,rfl⟩:∃wo:World,wo=wr:=⟨_,rfl⟩;by_cases hlt:k<L.length
    ·have Tr:L[k]? = some L[k]:=iQ hlt
     have hFo:=HF.out.others hbb hO.out.ot;have hrow:=hFo.SZ (i:=i) (j:=k) (c:=L[k]) hi HV.out (by rw [<- gG.out];exact Tr);have jt:=gI.out L[k] (lg hlt);(have kK:Hid (((L.take k).map (bB F rk)).length=k):=by rw [Hid,aG,gV];omega);have r4:Hid (mJ ((L.take (k+1)).map (bB F rk))=mJ ((L.take k).map (bB F rk))++((if k=0 then 40 else 44)::dy (bB F rk L[k]))):=by rw [Hid,List.take_add_one,Tr,cg];show mJ (_++[bB F rk L[k]])=_;rw [J3,kK.out]
     have jG:=aa (fun c:Int=>Ph B b (Lib.byteCells (pre++mJ ((L.take k).map (bB F rk)))) c wo hO.out.bl (by rw [Lib.byteCells_length,aZ];exact HLEN.out k) (hO.out.size hB));have HO:=aa hO.out;have bu:=aa hlt;have nV:=aa jt;obtain ⟨mn,hmn,vo⟩:∃mn:Int,min (k:Int) 1=mn/\((k=0/\mn=0)\/(k≠0/\mn=1)):=⟨_,rfl,by omega⟩;(have i1:(0:Int)<=(k:Int):=by omega);(have i2:(k:Int)<(L.length:Int):=by omega);clear Tr hFo jt hO;generalize L[k]=c at *;rcases vo with ⟨kW,rfl⟩ | ⟨kW,rfl⟩
     ·rw [if_pos kW] at r4
      clear kW;go_wp2_with fail;refine (jG.out _).mono ?_;rintro e w2 ⟨rfl,h1,h2,h3⟩;have HS:=aa (HO.out.byte (x:=40) rfl h1 h2 h3);clear h1 h2 h3;have IV:=(dz.out.others Da HS.out.ot).cell
      have jq:=aa (qu.out (rk c) (by have:=nV.out.2;omega) c (pre++mJ ((L.take k).map (bB F rk))++[40]) w2 nV.out.1 (af _) (HF.out.others hbb HS.out.ot) (dz.out.others Da HS.out.ot) HS.out.bl (by
       have:=HLEN.out (k+1);rw [r4.out] at this;simp only [aZ,aT,dO] at this ⊢
       omega) (HS.out.size hB))
      go_wp2_with fail;refine jq.out.mono ?_;rintro e w3 ⟨rfl,h4⟩;(have HN:Hid (rL B b (pre++mJ ((L.take (k+1)).map (bB F rk))) w w3):=by have:=HS.out.next h4;rw [Hid,r4.out];simpa [List.append_assoc] using this);clear h4 jq HS;go_wp2_with fail
      go_roundw
      case rel=>exact ⟨k+1,bu.out,by go_num,HN.out⟩
      case measure=>have:=bu.out;simp [intOf];omega
     ·rw [if_neg kW] at r4
      clear kW;go_wp2_with fail;refine (jG.out _).mono ?_;rintro e w2 ⟨rfl,h1,h2,h3⟩;have HS:=aa (HO.out.byte (x:=44) rfl h1 h2 h3);clear h1 h2 h3;have IV:=(dz.out.others Da HS.out.ot).cell
      have jq:=aa (qu.out (rk c) (by have:=nV.out.2;omega) c (pre++mJ ((L.take k).map (bB F rk))++[44]) w2 nV.out.1 (af _) (HF.out.others hbb HS.out.ot) (dz.out.others Da HS.out.ot) HS.out.bl (by
       have:=HLEN.out (k+1);rw [r4.out] at this;simp only [aZ,aT,dO] at this ⊢
       omega) (HS.out.size hB))
      go_wp2_with fail;refine jq.out.mono ?_;rintro e w3 ⟨rfl,h4⟩;(have HN:Hid (rL B b (pre++mJ ((L.take (k+1)).map (bB F rk))) w w3):=by have:=HS.out.next h4;rw [Hid,r4.out];simpa [List.append_assoc] using this);clear h4 jq HS;go_wp2_with fail
      go_roundw
      case rel=>exact ⟨k+1,bu.out,by go_num,HN.out⟩
      case measure=>have:=bu.out;simp [intOf];omega
    ·obtain rfl:k=L.length:=by omega
     have hO:=hO.out;rw [gh] at hO;have HO:=aa hO;have jG:=aa (Ph B b (Lib.byteCells (pre++mJ (L.map (bB F rk)))) 41 wo hO.bl (by rw [Lib.byteCells_length,aZ];have:=HLEN.out L.length;rw [gh] at this;exact this) (hO.size hB));clear hO;go_wp2_with fail;refine jG.out.mono ?_;rintro e w2 ⟨rfl,h1,h2,h3⟩;have HS:=aa (HO.out.byte (x:=41) rfl h1 h2 h3);clear h1 h2 h3;go_wp2_with fail
     go_end0
     exact ⟨rfl,by rw [<- dN];exact HS.out⟩
end
end Go.Proofs.YthgabkgmkolobaaGreat
