/- Parse, plain: the machine over a stack of lists of rose trees; the forest that grows. .. -/
import Derived.Lib.IndexAny
import Derived.Shelf.Strings.BuilderK
import Derived.Ground.Names2Prog
import Derived.Test.YthgabkgmkolobaaGreatQ23
set_option maxRecDepth 100000
set_option maxHeartbeats 2000000
namespace Go.Proofs.YthgabkgmkolobaaGreat
def bT:List UInt8:=[40,41,44,59]
def Rh:List (List RT)->List (List RT)
 | Z::Y::st=>(Y++[.node ByteArray.empty Z])::st
 | st=>st
def WG (r:RT):List (List RT)->List (List RT)
 | Z::st=>(Z++[r])::st
 | []=>[]
def Ou:List (List RT)->RT
 | (r::_)::_=>r
 | _=>.node ByteArray.empty []
def pz:Nat->List UInt8->List (List RT)->Bool->Option RT
 | 0,_,_,_=>none
 | _+1,[],_,_=>none
 | f+1,c::s,st,dn =>
  if c=40 then (if dn=true then none else pz f s ([]::st) false)
  else if c=41 then (if dn=false\/st.length=1 then none else pz f s (Rh st) true)
  else if c=44 then (if dn=false\/st.length=1 then none else pz f s st false)
  else if c=59 then (if dn=false\/st.length≠1\/s≠[] then none else some (Ou st))
  else if dn=true then none
  else if Lib.indexAny (c::s) bT<0 then none
  else pz f ((c::s).drop (Lib.indexAny (c::s) bT).toNat) (WG (.node ⟨((c::s).take (Lib.indexAny (c::s) bT).toNat).toArray⟩ []) st) true
def jM (s:List UInt8):Option RT:=pz (s.length+1) s [[]] false
section
variable {F G:aX} {n m:Nat} {rk:Nat->Nat}
theorem Cm (hF:Wf F n rk) (hG:Wf G m rk):∀(d c:Nat),rk c<=d->c<n->c<m->(∀z,b8 F rk c z=true->G.kids z=F.kids z/\G.nm z=F.nm z)->aV G rk c=aV F rk c
 | d,c,hd,hc,hm,hz=>by
  obtain ⟨h1,h2⟩:=hz c (jt hF hc)
  rw [dY hF hc,dY hG hm,h1,h2]
  congr 1
  refine jR fun k hk=>?_
  have hkk:=hF.kid c hc k hk
  have hkm:=(hG.kid c hm k (by rw [h1];exact hk)).1
  cases d with
  | zero=>omega
  | succ d=>exact Cm hF hG d k (by omega) hkk.1 hkm fun z hs=>hz z (nI hF hc hk hs)
def Ov (F:aX):aX:=⟨fun i=>⟨Array.replicate i 0⟩,F.old,F.kids⟩
theorem Ow (hF:Wf F n rk) (one:∀p q k,p<n->q<n->k∈F.kids p->k∈F.kids q->p=q) (nd:∀i,i<n->(F.kids i).Nodup):uj (Ov F) n rk :=
 ⟨⟨fun i hi k hk=>hF.kid i hi k hk⟩,one,nd,fun a b _ _ _ _ e=>by
  have e:(⟨Array.replicate a 0⟩:ByteArray)=⟨Array.replicate b 0⟩:=e
  have:=congrArg (fun s:ByteArray=>s.data.size) e
  simpa using this⟩
theorem Ox (hF:Wf F n rk) {c:Nat} (hc:c<n) (z:Nat):b8 (Ov F) rk c z=b8 F rk c z :=
 Rf (G:=Ov F) hF ⟨fun i hi k hk=>hF.kid i hi k hk⟩ hc (ah _) (fun _ _=>rfl) z
theorem G3 (hF:Wf F n rk):∀(d c:Nat),rk c<=d->c<n->b5 (Ov F) rk c=b5 F rk c
 | d,c,hd,hc=>by
  have hU:Wf (Ov F) n rk:=⟨fun i hi k hk=>hF.kid i hi k hk⟩
  rw [cD hF hc,cD hU hc]
  congr 1
  refine iK fun k hk=>?_
  have hkk:=hF.kid c hc k hk
  cases d with
  | zero=>omega
  | succ d=>exact G3 hF d k (by omega) hkk.1
theorem Ri (hF:Wf F n rk) (one:∀p q k,p<n->q<n->k∈F.kids p->k∈F.kids q->p=q) (nd:∀i,i<n->(F.kids i).Nodup) {R:Nat} (hR:∀i,i<n->rk i<=R) {i x y j:Nat} (hi:i<n) (hx:x∈F.kids i) (hy:y∈F.kids i) (h1:b8 F rk x j=true) (h2:b8 F rk y j=true):x=y :=
 A2 (Ow hF one nd) hR hi hx hy (by rw [Ox hF (hF.kid i hi x hx).1];exact h1) (by rw [Ox hF (hF.kid i hi y hy).1];exact h2)
theorem EK (hF:Wf F n rk) (one:∀p q k,p<n->q<n->k∈F.kids p->k∈F.kids q->p=q) (nd:∀i,i<n->(F.kids i).Nodup) {R:Nat} (hR:∀i,i<n->rk i<=R) {i:Nat} (hi:i<n):(b5 F rk i).Nodup:=by
 rw [<- G3 hF (rk i) i (ah _) hi];exact j9 (Ow hF one nd) hR hi (ah _)
end
def nh (z:Nat):Nat:=2000 - z
def xq (F:aX):Option Nat->List Nat->List (List RT)->Prop
 | nx,o::os,Z::st=>(F.nm o).size=0/\(∃ks,F.kids o=ks++nx.toList/\ks.map (aV F nh)=Z)/\xq F (some o) os st
 | _,[],[]=>True
 | _,_,_=>False
structure lN (F:aX) (n:Nat) (op:List Nat) (st:List (List RT)):Prop where
 big:n<=2000
 kid:∀i,i<n->∀k∈F.kids i,i<k/\k<n
 one:∀p q k,p<n->q<n->k∈F.kids p->k∈F.kids q->p=q
 nd:∀i,i<n->(F.kids i).Nodup
 zip:xq F none op st
 opn:∀o∈op,o<n
 ne:op≠[]
section
variable {F:aX} {n:Nat} {op:List Nat} {st:List (List RT)}
theorem lN.wf (h:lN F n op st):Wf F n nh:=⟨fun i hi k hk=>by obtain ⟨h1,h2⟩:=h.kid i hi k hk;have:=h.big;exact ⟨h2,by unfold nh;omega⟩⟩
theorem G4 (i:Nat):nh i<=2000:=Nat.sub_le _ _
theorem xq.len {F:aX}:∀ {nx:Option Nat} {op:List Nat} {st:List (List RT)},xq F nx op st->op.length=st.length
 | _,[],[],_=>rfl
 | _,_::os,_::st,h=>by rw [aO,aO,h.2.2.len]
 | _,[],_::_,h=>h.elim
 | _,_::_,[],h=>h.elim
def jI (F:aX) (n o:Nat) (nm:ByteArray):aX:=⟨upd F.nm n nm,upd F.old n 0,upd (upd F.kids n []) o (F.kids o++[n])⟩
theorem qq {F:aX} {n o:Nat} {nm:ByteArray}:(jI F n o nm).kids o=F.kids o++[n]:=upd_same _ _ _
theorem qu {F:aX} {n o:Nat} {nm:ByteArray} (h:o<n):(jI F n o nm).kids n=[]:=by
 show upd _ o _ n=[];rw [upd_ne _ _ (by omega),upd_same]
theorem uu {F:aX} {n o:Nat} {nm:ByteArray} {z:Nat} (h:z≠o) (h2:z≠n):(jI F n o nm).kids z=F.kids z:=by
 show upd _ o _ z=_;rw [upd_ne _ _ h,upd_ne _ _ h2]
theorem zM {F:aX} {n o:Nat} {nm:ByteArray} {z:Nat} (h2:z≠n):(jI F n o nm).nm z=F.nm z:=upd_ne _ _ h2
theorem s9 {F:aX} {n o:Nat} {nm:ByteArray} (hk:∀i,i<n->∀k∈F.kids i,i<k/\k<n) (ho:o<n) {i k:Nat} (hi:i<n+1) (hm:k∈(jI F n o nm).kids i):(i<n/\k∈F.kids i)\/(i=o/\k=n):=by
 by_cases e:i=o
 ·subst e
  rw [qq] at hm;rcases cu.1 hm with h1 | h1
  ·exact .inl ⟨ho,h1⟩
  ·exact .inr ⟨rfl,by simpa using h1⟩
 ·by_cases e2:i=n
  ·subst e2;rw [qu ho] at hm;cases hm
  ·rw [uu e e2] at hm;exact .inl ⟨by omega,hm⟩
theorem Ky (h:lN F n op st) {o:Nat} (ho:o<n) (nm:ByteArray) (hb:n<2000):Wf (jI F n o nm) (n+1) nh:=⟨fun i hi k hm=>by
 unfold nh
 rcases s9 h.kid ho hi hm with ⟨h1,h2⟩ | ⟨h1,h2⟩
 ·have:=h.kid i h1 k h2;omega
 ·omega⟩
theorem EL (h:lN F n op st) {o:Nat} (ho:o<n) (nm:ByteArray) (hb:n<2000) {c:Nat} (hc:c<n) (hs:b8 F nh c o=false):aV (jI F n o nm) nh c=aV F nh c :=
 Cm h.wf (Ky h ho nm hb) _ c (ah _) hc (by omega) fun z hz=>by
  have hzn:=pR h.wf hc (ah _) hz
  have hne:z≠o:=fun e=>by rw [e,hs] at hz;cases hz
  exact ⟨uu hne (by omega),zM (by omega)⟩
theorem G5 (h:lN F n op st) {o:Nat} (ho:o<n) (nm:ByteArray) (hb:n<2000):∀ {y:Nat} {os:List Nat} {zs:List (List RT)},(∀p∈os,p<n)->y<n->b8 F nh y o=true->xq F (some y) os zs->xq (jI F n o nm) (some y) os zs
 | _,[],[],_,_,_,_=>trivial
 | y,p::os,Z::zs,hp,hy,hs,hz=>by
  obtain ⟨h1,⟨ks,h2,h3⟩,h4⟩:=hz
  have G2:=hp p (by simp)
  have WH:y∈F.kids p:=by rw [h2];simp
  have hpy:=(h.kid p G2 y WH).1
  have WI:=nI h.wf G2 WH hs
  have hne:p≠o:=fun e=>by
   subst e
   have:=nQ h.wf hy hs
   have hb2:=h.big
   unfold nh at this
   omega
  refine ⟨by rw [zM (by omega)];exact h1,⟨ks,by rw [uu hne (by omega)];exact h2,?_⟩,G5 h ho nm hb (fun q hq=>hp q (by simp [hq])) G2 WI h4⟩
  rw [<- h3]
  refine jR fun c hc=>?_
  have yc:c∈F.kids p:=by rw [h2];simp [hc]
  have eY:=(h.kid p G2 c yc).2
  refine EL h ho nm hb eY ?_
  cases hsc:b8 F nh c o with
  | false=>rfl
  | true =>
   exfalso
   have e:=Ri h.wf h.one h.nd (fun i _=>G4 i) G2 yc WH hsc hs
   subst e
   have gV:=h.nd p G2
   rw [h2] at gV
   have:=(gy.1 gV).2.2 c hc c (by simp)
   exact this rfl
 | _,[],_::_,_,_,_,hz=>hz.elim
 | _,_::_,[],_,_,_,hz=>hz.elim
end
section
variable {F:aX} {n:Nat} {o:Nat} {os:List Nat} {Z:List RT} {st:List (List RT)}
theorem lN.on (h:lN F n (o::os) st):o<n:=h.opn o (by simp)
theorem lN.size (h:lN F n (o::os) (Z::st)):(F.nm o).size=0/\(F.kids o).map (aV F nh)=Z:=by
 obtain ⟨h1,⟨ks,h2,h3⟩,_⟩:=h.zip;refine ⟨h1,?_⟩;rw [h2];simpa using h3
theorem EM (h:lN F n (o::os) (Z::st)) (nm:ByteArray) (hb:n<2000) :
  (∀i,i<n+1->∀k∈(jI F n o nm).kids i,i<k/\k<n+1)/\(∀p q k,p<n+1->q<n+1->k∈(jI F n o nm).kids p->k∈(jI F n o nm).kids q->p=q)/\(∀i,i<n+1->((jI F n o nm).kids i).Nodup) /\
  xq (jI F n o nm) (some o) os st/\(∀c∈F.kids o,aV (jI F n o nm) nh c=aV F nh c)/\aV (jI F n o nm) nh n=.node nm []:=by
 have ho:=h.on;refine ⟨fun i hi k hk=>?_,fun p q k hp hq h1 h2=>?_,fun i hi=>?_,G5 h ho nm hb (fun p hp=>h.opn p (by simp [hp])) ho (jt h.wf ho) h.zip.2.2,fun c hc=>?_,?_⟩
 ·rcases s9 h.kid ho hi hk with ⟨h1,h2⟩ | ⟨h1,h2⟩
  ·have:=h.kid i h1 k h2;omega
  ·omega
 ·rcases s9 h.kid ho hp h1 with ⟨a1,a2⟩ | ⟨a1,a2⟩
  ·rcases s9 h.kid ho hq h2 with ⟨b1,b2⟩ | ⟨b1,b2⟩
   ·exact h.one p q k a1 b1 a2 b2
   ·have:=(h.kid p a1 k a2).2;omega
  ·rcases s9 h.kid ho hq h2 with ⟨b1,b2⟩ | ⟨b1,b2⟩
   ·have:=(h.kid q b1 k b2).2;omega
   ·omega
 ·by_cases e:i=o
  ·subst e
   rw [qq,gy];refine ⟨h.nd i ho,by simp,fun a ha b hb e=>?_⟩;(have hb:b=n:=by simpa using hb);have:=(h.kid i ho a ha).2;omega
  ·by_cases e2:i=n
   ·subst e2;rw [qu ho];exact List.nodup_nil
   ·rw [uu e e2];exact h.nd i (by omega)
 ·have eY:=h.kid o ho c hc
  refine EL h ho nm hb eY.2 ?_;cases hs:b8 F nh c o with
  | false=>rfl
  | true =>
   have:=nQ h.wf eY.2 hs;have hb2:=h.big;unfold nh at this;omega
 ·rw [dY (Ky h ho nm hb) (qz n),qu ho]
  show RT.node (upd F.nm n nm n) []=_;rw [upd_same]
theorem lN.leaf (h:lN F n (o::os) (Z::st)) (nm:ByteArray) (hb:n<2000):lN (jI F n o nm) (n+1) (o::os) ((Z++[.node nm []])::st):=by
 obtain ⟨a1,a2,a3,a4,a5,a6⟩:=EM h nm hb;have ho:=h.on;refine ⟨by omega,a1,a2,a3,⟨by rw [zM (by omega)];exact h.size.1,⟨_,(fM _).symm,?_⟩,a4⟩,fun p hp=>by have:=h.opn p hp;omega,by simp⟩;rw [qq,cm,bI,List.map_nil,a6];congr 1;rw [<- h.size.2];exact jR a5
theorem lN.open (h:lN F n (o::os) (Z::st)) (hb:n<2000):lN (jI F n o ByteArray.empty) (n+1) (n::o::os) ([]::Z::st):=by
 obtain ⟨a1,a2,a3,a4,a5,a6⟩:=EM h ByteArray.empty hb;have ho:=h.on;refine ⟨by omega,a1,a2,a3,⟨?_,⟨[],by rw [qu ho];rfl,rfl⟩,by rw [zM (by omega)];exact h.size.1,⟨F.kids o,qq,?_⟩,a4⟩,fun p hp=>?_,by simp⟩
 ·show (upd F.nm n ByteArray.empty n).size=0
  rw [upd_same];rfl
 ·rw [<- h.size.2]
  exact jR a5
 ·rcases bX.1 hp with e | e
  ·omega
  ·have:=h.opn p e;omega
theorem lN.pop {q:Nat} {Y:List RT} (h:lN F n (o::q::os) (Z::Y::st)):lN F n (q::os) ((Y++[.node ByteArray.empty Z])::st):=by
 obtain ⟨h1,⟨ks,h2,h3⟩,h4,⟨yT,h5,h6⟩,h7⟩:=h.zip;have ho:=h.on;refine ⟨h.big,h.kid,h.one,h.nd,⟨h4,⟨yT++[o],by rw [h5];simp,?_⟩,h7⟩,fun p hp=>h.opn p (by simp at hp ⊢;rcases hp with e | e<;>simp [e]),by simp⟩;rw [cm,h6,bI,List.map_nil,dY h.wf ho];have hn:F.nm o=ByteArray.empty:=ByteArray.ext (Array.eq_empty_of_size_eq_zero h1);rw [hn,h.size.2]
theorem lN.done {r:RT} {Y:List RT} (h:lN F n [o] [r::Y]):∃c ks,F.kids o=c::ks/\c<n/\gG F nh c=flat r:=by
 obtain ⟨_,h2⟩:=h.size;have ho:=h.on;cases hk:F.kids o with
 | nil=>rw [hk] at h2;cases h2
 | cons c ks =>
  rw [hk,bI] at h2;injection h2 with h2 h3;have eY:=(h.kid o ho c (by rw [hk];simp)).2;exact ⟨c,ks,rfl,eY,by rw [JH h.wf eY (EK h.wf h.one h.nd (fun i _=>G4 i) eY),h2]⟩
theorem lN.len (h:lN F n (o::os) (Z::st)):(o::os).length=st.length+1:=by rw [h.zip.len];rfl
end
end Go.Proofs.YthgabkgmkolobaaGreat
namespace Go.Proofs
open Go.Shelf
def Tryz.bldG_ren:Go.Shelf.Ren:=⟨fun | 169=>94 | n=>n,fun | 70=>115 | 9=>9 | 0=>0 | 72=>117 | 37=>77 | 127=>164 | 3=>3 | 5=>5 | n=>n,fun | n=>n⟩
theorem Tryz.bldG:Go.Proofs.Lays.n169 Tryz.prog Tryz.bldG_ren:={
 mixed:=by kernel_rfl
 f169:=Tryz.func94.trans (congrArg some (by kernel_rfl))
 t0:=Tryz.underlying0
 a0:=Tryz.isAgg0
 z0:=Tryz.sizeOf0
 v0:=Tryz.zeroValue0
 t3:=Tryz.underlying3
 a3:=Tryz.isAgg3
 z3:=Tryz.sizeOf3
 v3:=Tryz.zeroValue3
 t9:=Tryz.underlying9
 a9:=Tryz.isAgg9
 z9:=Tryz.sizeOf9
 v9:=Tryz.zeroValue9
 t37:=Tryz.underlying77
 a37:=Tryz.isAgg77
 z37:=Tryz.sizeOf77
 v37:=Tryz.zeroValue77
 t70:=Tryz.underlying115
 a70:=Tryz.isAgg115
 z70:=Tryz.sizeOf115
 v70:=Tryz.zeroValue115
 t72:=Tryz.underlying117
 a72:=Tryz.isAgg117
 z72:=Tryz.sizeOf117
 v72:=Tryz.zeroValue117
 t127:=Tryz.underlying164
 a127:=Tryz.isAgg164
 z127:=Tryz.sizeOf164
 v127:=Tryz.zeroValue164 }
end Go.Proofs
namespace Go.Proofs.YthgabkgmkolobaaGreat
open Go.RowKit Go.Deep
theorem G6:(Tryz.prog.info? 117).map (·.size)=some 2:=by kernel_rfl
theorem Rj:liesAt Tryz.prog Tryz.prog.depth 117 (2 / Tryz.prog.cellsOf 117) 0 117 1=true:=by kernel_rfl
theorem G7:(Tryz.prog.info? 5).map (fun i=>(i.zero,i.size,i.bytes))=some (some (.int .u8 0),1,1):=by kernel_rfl
theorem Oy:(117:TypeId)≠5:=by decide
theorem Ue (b:Nat) (w:World) (h0:w.cell? ⟨b,0,none⟩=some (.pointer (some ⟨b,0,none⟩))) :
  Calls Tryz.prog 140 #[.pointer (some ⟨b,0,none⟩)] w fun e w'=>e=.returned (.tuple #[])/\w'=w:=by
 obtain ⟨j,hj,_⟩:=iq.1 G6
 go_enter Tryz.func140,Tryz.ntmps140
 go_wp2_with fail;rw [Lib.run_neq_ptr_same w _ Tryz.underlying115 hj];go_wp2_with fail
 go_end0
 exact ⟨rfl,rfl⟩
theorem Rk (b:Nat) (w:World) (h0:w.cell? ⟨b,0,none⟩=some (.pointer none)) (hsh:w.shape? b=some (117,2)) (hfz:w.frozen? ⟨b,0,none⟩=false) :
  Calls Tryz.prog 140 #[.pointer (some ⟨b,0,none⟩)] w fun e w'=>e=.returned (.tuple #[])/\w'=w.setCell ⟨b,0,none⟩ (.pointer (some ⟨b,0,none⟩)):=by
 obtain ⟨j,hj,hjs⟩:=iq.1 G6
 go_enter Tryz.func140,Tryz.ntmps140
 go_wp2_with fail;rw [Lib.run_to_unsafe w ⟨b,0,none⟩ Tryz.underlying115 Tryz.underlying205 hj (by rw [hjs];decide) hsh (Nat.zero_lt_succ 1)];simp only [Result.andThen];rw [Oper.upon_value];go_wp2_with fail;rw [run_callFunc_extern Tryz.func198 (by kernel_rfl) (by kernel_rfl) (by kernel_rfl) (e:=Extern.AbiNoEscape.same) (by kernel_rfl)];rw [Lib.run_noEscape];simp only [Result.andThen];rw [Oper.upon_value];go_wp2_with fail;rw [Lib.run_from_unsafe w ⟨b,0,none⟩ Tryz.underlying205 Tryz.underlying115 hj hsh Rj];simp only [Result.andThen];rw [Oper.upon_value];go_wp2_with fail
 go_end0
 exact ⟨rfl,rfl⟩
theorem WJ (B b:Nat) (bs:List Value) (w:World) (h:Lib.IsBuilderF 117 5 B b bs w) :
  Calls Tryz.prog 140 #[.pointer (some ⟨b,0,none⟩)] w fun e w'=>e=.returned (.tuple #[])/\(Lib.BuilderAtF 117 5 B b (.pointer (some ⟨b,0,none⟩)) bs w'/\Below B w w'/\Lib.OthersKept 5 (some b) w w'):=by
 rcases h with h | h
 ·refine (Rk b w h.cell0 h.shape h.frozen0).mono ?_
  rintro e w' ⟨rfl,rfl⟩;exact ⟨rfl,h.used _,(cN B w).setCell (p:=⟨b,0,none⟩) h.1 _,(Lib.OthersKept.refl _ _ w).setCell ⟨b,0,none⟩ rfl _⟩
 ·refine (Ue b w h.cell0).mono ?_
  rintro e w' ⟨rfl,rfl⟩;exact ⟨rfl,h,cN B _,Lib.OthersKept.refl _ _ _⟩
theorem Dg (B b:Nat) (bs:List Value) (c:Int) (w:World) (h:Lib.IsBuilderF 117 5 B b bs w) (hlen:bs.length+1<=140737488355328) (hBw:B<=w.heap.size) :
  Calls Tryz.prog 92 #[.pointer (some ⟨b,0,none⟩),.int .u8 c] w fun e w'=>e=.returned .nilIface/\(Lib.BuilderAtF 117 5 B b (.pointer (some ⟨b,0,none⟩)) (bs++[.int .u8 c]) w'/\Below B w w'/\Lib.OthersKept 5 (some b) w w'):=by
 obtain ⟨i0,hi,hzz⟩:=iq.1 G7;simp only [iM] at hzz;obtain ⟨hz0,hz1,hz2⟩:=hzz;have M5:=aa (WJ B b bs w h);clear h
 go_enter Tryz.func92,Tryz.ntmps92
 go_wp2_with fail;refine M5.out.mono ?_;rintro e w1 ⟨rfl,h1,hb1,hk1⟩;obtain ⟨hB,v,hbk,hown,hne⟩:=h1;have c0:w1.cell? ⟨b,0,none⟩=some (.pointer (some ⟨b,0,none⟩)):=by rw [tS hbk];rfl
 have c1:w1.cell? ⟨b,1,none⟩=some v:=by rw [tS hbk];rfl
 go_wp2_with (at_builtin;refine wpList_append_ownF _ rfl _ _ 77 rfl B 5 i0 (.int .u8 0) 1 1 Tryz.underlying77 hi hz0 hz1 hz2 rfl (by decide) _ _ _ rfl (hown.alloc _) ⟨w1.heap.size,0,none⟩ 1 1 [.int .u8 c] rfl rfl ?c1 ?c2 ?c3 ?c4 ?c5 ?_)
 case c1 =>
  intro j u hj
  match j,hj with
  | 0,hj=>simp at hj;subst hj;simp [Addr.add]
 case c2=>intro u hu;simp at hu;subst hu;rfl
 case c3=>unfold maxLen;omega
 case c4=>omega
 case c5=>have:=hb1.size;simp;omega
 intro v' w2 hown' hgrow _;have hlt:b<w1.heap.size:=by
  rcases Nat.lt_or_ge b w1.heap.size with h' | h'
  ·exact h'
  ·simp [Array.getElem?_eq_none h'] at hbk
 have hb2:w2.heap[b]? = some (.cells #[.pointer (some ⟨b,0,none⟩),v] 117 (0,0)):=by rw [hgrow.block b (by simp;omega) (fun e=>hne e.symm),Lib.alloc_old w1 _ b hlt];exact hbk
 have d0:w2.cell? ⟨b,0,none⟩=some (.pointer (some ⟨b,0,none⟩)):=by rw [tS hb2];rfl
 have d1:w2.cell? ⟨b,1,none⟩=some v:=by rw [tS hb2];rfl
 have f1:w2.frozen? ⟨b,1,none⟩=false:=Lib.frozen_of_heap hb2 1;obtain ⟨g,cap,rfl⟩:∃g cap,v'=.slice (some ⟨g,0,none⟩) (bs.length+1) cap:=by
  rcases hown'.2 with ⟨_,h0⟩ | ⟨g,cap,cur,fz,hv,_⟩
  ·omega
  ·exact ⟨g,cap,hv⟩
 go_wp2_with fail;go_ret;refine ⟨rfl,?_,?_,((hk1.alloc _).grown hgrow (Lib.ownsRowF_kind (hown.alloc _))).setCell ⟨b,1,none⟩ rfl _⟩
 ·exact Lib.BuilderAtF.put (T:=117) (e:=5) hB hb2 (bs':=bs++[.int .u8 c]) (by simpa using hown') Oy
 ·exact ((hb1.alloc (by have:=hb1.size;omega) _).grown hgrow (by have:=hb1.size;simp;omega) (fun k hk=>(hown.lt k hk).1)).setCell (p:=⟨b,1,none⟩) hB _
theorem WK (B b:Nat) (bs:List Value) (s:ByteArray) (w:World) (h:Lib.IsBuilderF 117 5 B b bs w) (hlen:bs.length+s.size<=140737488355328) (hBw:B<=w.heap.size) :
  Calls Tryz.prog 91 #[.pointer (some ⟨b,0,none⟩),.string s] w fun e w'=>e=.returned (.tuple #[.int .i64 s.size,.nilIface])/\(Lib.BuilderAtF 117 5 B b (.pointer (some ⟨b,0,none⟩)) (bs++Lib.strCells s) w'/\Below B w w'/\Lib.OthersKept 5 (some b) w w'):=by
 obtain ⟨i0,hi,hzz⟩:=iq.1 G7;simp only [iM] at hzz;obtain ⟨hz0,hz1,hz2⟩:=hzz;have M5:=aa (WJ B b bs w h);clear h
 go_enter Tryz.func91,Tryz.ntmps91
 go_wp2_with fail;refine M5.out.mono ?_;rintro e w1 ⟨rfl,h1,hb1,hk1⟩;obtain ⟨hB,v,hbk,hown,hne⟩:=h1;have c0:w1.cell? ⟨b,0,none⟩=some (.pointer (some ⟨b,0,none⟩)):=by rw [tS hbk];rfl
 have c1:w1.cell? ⟨b,1,none⟩=some v:=by rw [tS hbk];rfl
 go_wp2_with (at_builtin;refine Lib.wpList_append_own_stringF _ rfl _ _ 77 9 rfl B 5 i0 Tryz.underlying77 Tryz.underlying9 hi hz0 hz1 hz2 _ _ _ rfl hown s rfl ?c3 ?c4 ?c5 ?_)
 case c3=>unfold maxLen;omega
 case c4=>omega
 case c5=>have:=hb1.size;omega
 intro v' w2 hown' hgrow _;have hlt:b<w1.heap.size:=by
  rcases Nat.lt_or_ge b w1.heap.size with h' | h'
  ·exact h'
  ·simp [Array.getElem?_eq_none h'] at hbk
 have hb2:w2.heap[b]? = some (.cells #[.pointer (some ⟨b,0,none⟩),v] 117 (0,0)):=by rw [hgrow.block b hlt (fun e=>hne e.symm)];exact hbk
 have d0:w2.cell? ⟨b,0,none⟩=some (.pointer (some ⟨b,0,none⟩)):=by rw [tS hb2];rfl
 have d1:w2.cell? ⟨b,1,none⟩=some v:=by rw [tS hb2];rfl
 have f1:w2.frozen? ⟨b,1,none⟩=false:=Lib.frozen_of_heap hb2 1;obtain ⟨ao,n',cap,rfl⟩:∃ao n' cap,v'=.slice ao n' cap:=by
  rcases hown'.2 with ⟨hv,_⟩ | ⟨g,cap,cur,fz,hv,_⟩
  ·exact ⟨_,_,_,hv⟩
  ·exact ⟨_,_,_,hv⟩
 go_wp2_with fail;go_ret2;refine ⟨rfl,?_,?_,(hk1.grown hgrow (Lib.ownsRowF_kind hown)).setCell ⟨b,1,none⟩ rfl _⟩
 ·exact Lib.BuilderAtF.put (T:=117) (e:=5) hB hb2 (bs':=bs++Lib.strCells s) (by simpa [Lib.strCells_length] using hown') Oy
 ·exact (hb1.grown hgrow (by have:=hb1.size;omega) (fun k hk=>(hown.lt k hk).1)).setCell (p:=⟨b,1,none⟩) hB _
theorem WL (B b:Nat) (l:List UInt8) (w:World) (h:Lib.IsBuilderF 117 5 B b (Lib.byteCells l) w) (hBw:B<=w.heap.size) :
  Calls Tryz.prog 94 #[.pointer (some ⟨b,0,none⟩)] w fun e w'=>e=.returned (.string ⟨l.toArray⟩)/\(Lib.IsBuilderF 117 5 B b (Lib.byteCells l) w'/\Below B w w'/\Lib.OthersKept 5 (some b) w w') :=
 Any.Builder_String_any_k Tryz.bldG ⟨⟨by kernel_rfl,by kernel_rfl⟩,Tryz.underlying5,Tryz.isAgg5,Tryz.sizeOf5,Tryz.zeroValue5,by kernel_rfl,by kernel_rfl,by kernel_rfl,by decide⟩ B b l w h hBw
end Go.Proofs.YthgabkgmkolobaaGreat
