/- slices.IndexFunc, slices.DeleteFunc at rows, with a function that grows the heap. The .. -/
import Derived.Lib.IndexAny
import Derived.Test.YtfomhlbhcifgbaaGreatDoorQ27
set_option maxRecDepth 100000
set_option maxHeartbeats 1000000
namespace Go.Proofs.YtfomhlbhcifgbaaGreatDoor
section
open Go.RowKit Go.Deep
theorem NU (g:Nat) (lb:Array Value) (eg:∀args w,(callFunc g args).run Tryz.prog w=.ok (.enter g args) w) (S:Nat->Prop) (w:World) (v:Value) (n:Nat) (f:Nat->Value) (p:Nat->Bool)
  (h:aB S w v n f) (hn:n<=1000000) (hp:∀k w',k<n->Up w w'->Calls Tryz.prog g (#[f k]++lb) w' fun e w''=>e=.returned (.bool (p k))/\Up w' w'') :
  Calls Tryz.prog 28 #[v,.func (.func g) #[] lb] w fun e w'=>e=.returned (.int .i64 (bZ p n))/\Up w w':=by
 obtain ⟨q,cap,rfl,hcap,H⟩:=h.open;have HP:=aa hp;have HH:=aa H;clear h hp H;go_in;go_wp2
 go_loopw [5,8] (fun _ i wr=>∃k:Nat,k<=n/\i=.int .i64 k/\Hid (Up w wr)/\Hid (∀j,j<k->p j=false)) (fun _ i _=>n - (intOf i).toNat)
 case atStart=>exact ⟨0,bg _,rfl,Up.refl _,fun j hj=>absurd hj (cz _)⟩
 case round =>
  obtain ⟨k,hk,rfl,hU,hd⟩:=hrel;obtain ⟨wo,rfl⟩:=e9 wr;by_cases hlt:k<n
  ·obtain ⟨b,off,rfl,hc⟩:=HH.out k hlt
   have hc:=hU.out.cell hc;have sU:=aa (HP.out k wo hlt hU.out);cases hv:p k
   ·rw [hv] at sU
    have HV:=aa hv;clear hv;go_wp2_with fail;refine sU.out.mono ?_;rintro e w' ⟨rfl,kK⟩;have bF:=aa (hU.out.trans kK);clear kK;go_wp2
    go_roundw
    case rel=>exact ⟨k+1,by omega,by go_num,bF,fun j hj=>if e:j=k then by subst e;exact HV.out else hd.out j (by omega)⟩
    case measure=>simp [intOf];omega
   ·rw [hv] at sU
    have HV:=aa hv;clear hv;go_wp2_with fail;refine sU.out.mono ?_;rintro e w' ⟨rfl,kK⟩;have bF:=aa (hU.out.trans kK);clear kK;go_wp2;go_ret;exact ⟨aU (jR hlt hd.out HV.out).symm,bF.out⟩
  ·go_wp2
   go_ret;exact ⟨aU (gY fun j hj=>hd.out j (by omega)).symm,hU.out⟩
end
section
section
variable {F:aW} {n:Nat} {rk:Nat->Nat}
theorem Q7 (h:Wf F n rk):∀ {d i:Nat} (p:Option Nat) (np:Int) (s:wU),i<n->rk i<=d->(bW F rk i).Nodup->p≠some i->s.mp.lookup p=some np->(∀j∈bW F rk i,s.mp.lookup (some j)=none) ->
  E7 s ((dW F rk i p).foldl (oh F) s) (jk (bh F rk i) s.ps.length np) (dH (bh F rk i)) (bW F rk i):=by
 intro d
 induction d with
 | zero =>
  intro i p np s hi hd XO hp hl hn;have hk:F.kids i=[]:=by
   cases hk:F.kids i with
   | nil=>rfl
   | cons k l=>have:=(h.kid i hi k (by rw [hk];simp)).2;omega
  rw [gw h hi,ey h hi,cu h hi,hk];have hni:=hn i (by rw [cu h hi];simp);refine ⟨?_,?_,fun k hk2=>dM _ (hk2 i (by simp))⟩
  ·show s.ps++[((lz s.mp (some i) _).lookup p).getD 0]=_
   rw [dM _ hp,hl];rfl
  ·rfl
 | succ d ih =>
  intro i p np s hi hd XO hp hl hn;rw [gw h hi,ey h hi,cu h hi];have hni:=hn i (by rw [cu h hi];simp);have iR:=XO;rw [cu h hi,sK] at iR;have key:∀(l:List Nat),(∀k∈l,k∈F.kids i)->(l.flatMap fun k=>bW F rk k).Nodup->(∀k∈l,i∉bW F rk k)->∀(s2:wU) (own:Nat),s2.mp.lookup (some i)=some (own:Int)->(∀k∈l,∀j∈bW F rk k,s2.mp.lookup (some j)=none) ->
    E7 s2 ((l.flatMap fun k=>dW F rk k (some i)).foldl (oh F) s2) (fu (l.map (bh F rk)) own s2.ps.length) (eH (l.map (bh F rk))) (l.flatMap fun k=>bW F rk k):=by
   intro l
   induction l with
   | nil=>intro _ _ _ s2 own _ _;exact ⟨by simp [fu],by simp [eH],fun _ _=>rfl⟩
   | cons c l ihl =>
    intro hin hdl hil s2 own ho hno
    have hcc:=h.kid i hi c (hin c (by simp))
    rw [iI,List.foldl_append,iI]
    rw [iI,sJ] at hdl
    have h1:=ih (some i) (own:Int) s2 hcc.1 (by omega) hdl.1 (fun e=>by
     injection e with e
     have:=hcc.2;rw [e] at this;omega) ho (hno c (by simp))
    have h2:=ihl (fun k hk=>hin k (by simp [hk])) hdl.2.1 (fun k hk=>hil k (by simp [hk])) ((dW F rk c (some i)).foldl (oh F) s2) own
     ((h1.old (some i) (fun j hj e=>by injection e with e;subst e;exact hil c (by simp) hj)).trans ho)
     (fun k hk j hj=>(h1.old (some j) (fun j2 hj2 e=>by
      injection e with e;subst e
      exact hdl.2.2 j hj2 j (jo.2 ⟨k,hk,hj⟩) rfl)).trans (hno k (by simp [hk]) j hj))
    refine ⟨?_,?_,fun k hk=>?_⟩
    ·rw [h2.ps,h1.ps,cV,fu,cU,bG,lW]
    ·rw [h2.ns,h1.ns,cV,eH,cU]
    ·rw [h2.old k (fun j hj=>hk j (by simp [hj])),h1.old k (fun j hj=>hk j (by simp [hj]))]
  have hin:∀k∈F.kids i,i∉bW F rk k:=fun k hk hm=>iR.1 (jo.2 ⟨k,hk,hm⟩)
  have h3:=key (F.kids i) (fun k hk=>hk) iR.2 hin (oh F s (i,p)) s.ps.length (tB _ hni) (fun k hk j hj=>by
   show (lz s.mp (some i) _).lookup (some j)=none;rw [dM _ (fun e=>by injection e with e;subst e;exact hin k hk hj)]
   exact hn j (by rw [cu h hi];exact yR _ (jo.2 ⟨k,hk,hj⟩)))
  have hps:(oh F s (i,p)).ps=s.ps++[np]:=by show s.ps++[((lz s.mp (some i) _).lookup p).getD 0]=_;rw [dM _ hp,hl];rfl
  rw [List.foldl_cons];refine ⟨?_,?_,fun k hk=>?_⟩
  ·rw [h3.ps,hps,jk,cU,bG];rfl
  ·rw [h3.ns]
   show (s.ns++[F.nm i])++_=_;rw [dH,cU];rfl
  ·rw [h3.old k (fun j hj=>hk j (by simp [hj]))]
   exact dM _ (hk i (by simp))
theorem Jp (h:Wf F n rk) {i:Nat} (hi:i<n) (iR:(bW F rk i).Nodup):fR F rk i=flat (bh F rk i):=by
 have h1:=Q7 h (d:=rk i) none (-1) CS hi (aj _) iR (fun e=>by cases e) rfl (fun j _=>rfl);unfold fR flat cH;rw [h1.ps,h1.ns];rfl
end
end
section
def cN:List UInt8:=[40,41,44,59]
def Q8:List (List RT)->List (List RT)
 | Z::Y::st=>(Y++[.node ByteArray.empty Z])::st
 | st=>st
def XP (r:RT):List (List RT)->List (List RT)
 | Z::st=>(Z++[r])::st
 | []=>[]
def NV:List (List RT)->RT
 | (r::_)::_=>r
 | _=>.node ByteArray.empty []
def pz:Nat->List UInt8->List (List RT)->Bool->Option RT
 | 0,_,_,_=>none
 | _+1,[],_,_=>none
 | f+1,c::s,st,dn =>
  if c=40 then (if dn=true then none else pz f s ([]::st) false)
  else if c=41 then (if dn=false\/st.length=1 then none else pz f s (Q8 st) true)
  else if c=44 then (if dn=false\/st.length=1 then none else pz f s st false)
  else if c=59 then (if dn=false\/st.length≠1\/s≠[] then none else some (NV st))
  else if dn=true then none
  else if Lib.indexAny (c::s) cN<0 then none
  else pz f ((c::s).drop (Lib.indexAny (c::s) cN).toNat) (XP (.node ⟨((c::s).take (Lib.indexAny (c::s) cN).toNat).toArray⟩ []) st) true
def nH (s:List UInt8):Option RT:=pz (s.length+1) s [[]] false
section
variable {F G:aW} {n m:Nat} {rk:Nat->Nat}
theorem BV (hF:Wf F n rk) (hG:Wf G m rk):∀(d c:Nat),rk c<=d->c<n->c<m->(∀z,bY F rk c z=true->G.kids z=F.kids z/\G.nm z=F.nm z)->bh G rk c=bh F rk c
 | d,c,hd,hc,hm,hz=>by
  obtain ⟨h1,h2⟩:=hz c (iU hF hc)
  rw [ey hF hc,ey hG hm,h1,h2]
  congr 1
  refine iK fun k hk=>?_
  have hkk:=hF.kid c hc k hk
  have hkm:=(hG.kid c hm k (by rw [h1];exact hk)).1
  cases d with
  | zero=>omega
  | succ d=>exact BV hF hG d k (by omega) hkk.1 hkm fun z hs=>hz z (ng hF hc hk hs)
def NW (F:aW):aW:=⟨fun i=>⟨Array.replicate i 0⟩,F.old,F.kids⟩
theorem NX (hF:Wf F n rk) (one:∀p q k,p<n->q<n->k∈F.kids p->k∈F.kids q->p=q) (nd:∀i,i<n->(F.kids i).Nodup):tA (NW F) n rk :=
 ⟨⟨fun i hi k hk=>hF.kid i hi k hk⟩,one,nd,fun a b _ _ _ _ e=>by
  have e:(⟨Array.replicate a 0⟩:ByteArray)=⟨Array.replicate b 0⟩:=e
  have:=congrArg (fun s:ByteArray=>s.data.size) e
  simpa using this⟩
theorem NY (hF:Wf F n rk) {c:Nat} (hc:c<n) (z:Nat):bY (NW F) rk c z=bY F rk c z :=
 Q1 (G:=NW F) hF ⟨fun i hi k hk=>hF.kid i hi k hk⟩ hc (aj _) (fun _ _=>rfl) z
theorem Hp (hF:Wf F n rk):∀(d c:Nat),rk c<=d->c<n->bW (NW F) rk c=bW F rk c
 | d,c,hd,hc=>by
  have hU:Wf (NW F) n rk:=⟨fun i hi k hk=>hF.kid i hi k hk⟩
  rw [cu hF hc,cu hU hc]
  congr 1
  refine gW fun k hk=>?_
  have hkk:=hF.kid c hc k hk
  cases d with
  | zero=>omega
  | succ d=>exact Hp hF d k (by omega) hkk.1
theorem Q9 (hF:Wf F n rk) (one:∀p q k,p<n->q<n->k∈F.kids p->k∈F.kids q->p=q) (nd:∀i,i<n->(F.kids i).Nodup) {R:Nat} (hR:∀i,i<n->rk i<=R) {i x y j:Nat} (hi:i<n) (hx:x∈F.kids i) (hy:y∈F.kids i) (h1:bY F rk x j=true) (h2:bY F rk y j=true):x=y :=
 AD (NX hF one nd) hR hi hx hy (by rw [NY hF (hF.kid i hi x hx).1];exact h1) (by rw [NY hF (hF.kid i hi y hy).1];exact h2)
theorem Ek (hF:Wf F n rk) (one:∀p q k,p<n->q<n->k∈F.kids p->k∈F.kids q->p=q) (nd:∀i,i<n->(F.kids i).Nodup) {R:Nat} (hR:∀i,i<n->rk i<=R) {i:Nat} (hi:i<n):(bW F rk i).Nodup:=by
 rw [<- Hp hF (rk i) i (aj _) hi];exact lB (NX hF one nd) hR hi (aj _)
end
def mI (z:Nat):Nat:=2000 - z
def wk (F:aW):Option Nat->List Nat->List (List RT)->Prop
 | nx,o::os,Z::st=>(F.nm o).size=0/\(∃ks,F.kids o=ks++nx.toList/\ks.map (bh F mI)=Z)/\wk F (some o) os st
 | _,[],[]=>True
 | _,_,_=>False
structure kM (F:aW) (n:Nat) (op:List Nat) (st:List (List RT)):Prop where
 big:n<=2000
 kid:∀i,i<n->∀k∈F.kids i,i<k/\k<n
 one:∀p q k,p<n->q<n->k∈F.kids p->k∈F.kids q->p=q
 nd:∀i,i<n->(F.kids i).Nodup
 zip:wk F none op st
 opn:∀o∈op,o<n
 ne:op≠[]
section
variable {F:aW} {n:Nat} {op:List Nat} {st:List (List RT)}
theorem kM.wf (h:kM F n op st):Wf F n mI:=⟨fun i hi k hk=>by obtain ⟨h1,h2⟩:=h.kid i hi k hk;have:=h.big;exact ⟨h2,by unfold mI;omega⟩⟩
theorem Hq (i:Nat):mI i<=2000:=Nat.sub_le _ _
theorem wk.len {F:aW}:∀ {nx:Option Nat} {op:List Nat} {st:List (List RT)},wk F nx op st->op.length=st.length
 | _,[],[],_=>rfl
 | _,_::os,_::st,h=>by rw [bB,bB,h.2.2.len]
 | _,[],_::_,h=>h.elim
 | _,_::_,[],h=>h.elim
def jc (F:aW) (n o:Nat) (nm:ByteArray):aW:=⟨upd F.nm n nm,upd F.old n 0,upd (upd F.kids n []) o (F.kids o++[n])⟩
theorem pH {F:aW} {n o:Nat} {nm:ByteArray}:(jc F n o nm).kids o=F.kids o++[n]:=upd_same _ _ _
theorem pI {F:aW} {n o:Nat} {nm:ByteArray} (h:o<n):(jc F n o nm).kids n=[]:=by
 show upd _ o _ n=[];rw [upd_ne _ _ (by omega),upd_same]
theorem tF {F:aW} {n o:Nat} {nm:ByteArray} {z:Nat} (h:z≠o) (h2:z≠n):(jc F n o nm).kids z=F.kids z:=by
 show upd _ o _ z=_;rw [upd_ne _ _ h,upd_ne _ _ h2]
theorem y8 {F:aW} {n o:Nat} {nm:ByteArray} {z:Nat} (h2:z≠n):(jc F n o nm).nm z=F.nm z:=upd_ne _ _ h2
theorem sg {F:aW} {n o:Nat} {nm:ByteArray} (hk:∀i,i<n->∀k∈F.kids i,i<k/\k<n) (ho:o<n) {i k:Nat} (hi:i<n+1) (hm:k∈(jc F n o nm).kids i):(i<n/\k∈F.kids i)\/(i=o/\k=n):=by
 by_cases e:i=o
 ·subst e
  rw [pH] at hm;rcases eD.1 hm with h1 | h1
  ·exact .inl ⟨ho,h1⟩
  ·exact .inr ⟨rfl,by simpa using h1⟩
 ·by_cases e2:i=n
  ·subst e2;rw [pI ho] at hm;cases hm
  ·rw [tF e e2] at hm;exact .inl ⟨by omega,hm⟩
theorem Kf (h:kM F n op st) {o:Nat} (ho:o<n) (nm:ByteArray) (hb:n<2000):Wf (jc F n o nm) (n+1) mI:=⟨fun i hi k hm=>by
 unfold mI
 rcases sg h.kid ho hi hm with ⟨h1,h2⟩ | ⟨h1,h2⟩
 ·have:=h.kid i h1 k h2;omega
 ·omega⟩
theorem Em (h:kM F n op st) {o:Nat} (ho:o<n) (nm:ByteArray) (hb:n<2000) {c:Nat} (hc:c<n) (hs:bY F mI c o=false):bh (jc F n o nm) mI c=bh F mI c :=
 BV h.wf (Kf h ho nm hb) _ c (aj _) hc (by omega) fun z hz=>by
  have hzn:=oT h.wf hc (aj _) hz
  have hne:z≠o:=fun e=>by rw [e,hs] at hz;cases hz
  exact ⟨tF hne (by omega),y8 (by omega)⟩
theorem Hr (h:kM F n op st) {o:Nat} (ho:o<n) (nm:ByteArray) (hb:n<2000):∀ {y:Nat} {os:List Nat} {zs:List (List RT)},(∀p∈os,p<n)->y<n->bY F mI y o=true->wk F (some y) os zs->wk (jc F n o nm) (some y) os zs
 | _,[],[],_,_,_,_=>trivial
 | y,p::os,Z::zs,hp,hy,hs,hz=>by
  obtain ⟨h1,⟨ks,h2,h3⟩,h4⟩:=hz
  have Hf:=hp p (by simp)
  have XQ:y∈F.kids p:=by rw [h2];simp
  have hpy:=(h.kid p Hf y XQ).1
  have XR:=ng h.wf Hf XQ hs
  have hne:p≠o:=fun e=>by
   subst e
   have:=nA h.wf hy hs
   have hb2:=h.big
   unfold mI at this
   omega
  refine ⟨by rw [y8 (by omega)];exact h1,⟨ks,by rw [tF hne (by omega)];exact h2,?_⟩,Hr h ho nm hb (fun q hq=>hp q (by simp [hq])) Hf XR h4⟩
  rw [<- h3]
  refine iK fun c hc=>?_
  have sP:c∈F.kids p:=by rw [h2];simp [hc]
  have dZ:=(h.kid p Hf c sP).2
  refine Em h ho nm hb dZ ?_
  cases hsc:bY F mI c o with
  | false=>rfl
  | true =>
   exfalso
   have e:=Q9 h.wf h.one h.nd (fun i _=>Hq i) Hf sP XQ hsc hs
   subst e
   have iR:=h.nd p Hf
   rw [h2] at iR
   have:=(sJ.1 iR).2.2 c hc c (by simp)
   exact this rfl
 | _,[],_::_,_,_,_,hz=>hz.elim
 | _,_::_,[],_,_,_,hz=>hz.elim
end
section
variable {F:aW} {n:Nat} {o:Nat} {os:List Nat} {Z:List RT} {st:List (List RT)}
theorem kM.on (h:kM F n (o::os) st):o<n:=h.opn o (by simp)
theorem kM.size (h:kM F n (o::os) (Z::st)):(F.nm o).size=0/\(F.kids o).map (bh F mI)=Z:=by
 obtain ⟨h1,⟨ks,h2,h3⟩,_⟩:=h.zip;refine ⟨h1,?_⟩;rw [h2];simpa using h3
theorem En (h:kM F n (o::os) (Z::st)) (nm:ByteArray) (hb:n<2000) :
  (∀i,i<n+1->∀k∈(jc F n o nm).kids i,i<k/\k<n+1)/\(∀p q k,p<n+1->q<n+1->k∈(jc F n o nm).kids p->k∈(jc F n o nm).kids q->p=q)/\(∀i,i<n+1->((jc F n o nm).kids i).Nodup) /\
  wk (jc F n o nm) (some o) os st/\(∀c∈F.kids o,bh (jc F n o nm) mI c=bh F mI c)/\bh (jc F n o nm) mI n=.node nm []:=by
 have ho:=h.on;refine ⟨fun i hi k hk=>?_,fun p q k hp hq h1 h2=>?_,fun i hi=>?_,Hr h ho nm hb (fun p hp=>h.opn p (by simp [hp])) ho (iU h.wf ho) h.zip.2.2,fun c hc=>?_,?_⟩
 ·rcases sg h.kid ho hi hk with ⟨h1,h2⟩ | ⟨h1,h2⟩
  ·have:=h.kid i h1 k h2;omega
  ·omega
 ·rcases sg h.kid ho hp h1 with ⟨a1,a2⟩ | ⟨a1,a2⟩
  ·rcases sg h.kid ho hq h2 with ⟨b1,b2⟩ | ⟨b1,b2⟩
   ·exact h.one p q k a1 b1 a2 b2
   ·have:=(h.kid p a1 k a2).2;omega
  ·rcases sg h.kid ho hq h2 with ⟨b1,b2⟩ | ⟨b1,b2⟩
   ·have:=(h.kid q b1 k b2).2;omega
   ·omega
 ·by_cases e:i=o
  ·subst e
   rw [pH,sJ];refine ⟨h.nd i ho,by simp,fun a ha b hb e=>?_⟩;(have hb:b=n:=by simpa using hb);have:=(h.kid i ho a ha).2;omega
  ·by_cases e2:i=n
   ·subst e2;rw [pI ho];exact List.nodup_nil
   ·rw [tF e e2];exact h.nd i (by omega)
 ·have dZ:=h.kid o ho c hc
  refine Em h ho nm hb dZ.2 ?_;cases hs:bY F mI c o with
  | false=>rfl
  | true =>
   have:=nA h.wf dZ.2 hs;have hb2:=h.big;unfold mI at this;omega
 ·rw [ey (Kf h ho nm hb) (kC n),pI ho]
  show RT.node (upd F.nm n nm n) []=_;rw [upd_same]
theorem kM.leaf (h:kM F n (o::os) (Z::st)) (nm:ByteArray) (hb:n<2000):kM (jc F n o nm) (n+1) (o::os) ((Z++[.node nm []])::st):=by
 obtain ⟨a1,a2,a3,a4,a5,a6⟩:=En h nm hb;have ho:=h.on;refine ⟨by omega,a1,a2,a3,⟨by rw [y8 (by omega)];exact h.size.1,⟨_,(gm _).symm,?_⟩,a4⟩,fun p hp=>by have:=h.opn p hp;omega,by simp⟩;rw [pH,cm,cV,List.map_nil,a6];congr 1;rw [<- h.size.2];exact iK a5
theorem kM.open (h:kM F n (o::os) (Z::st)) (hb:n<2000):kM (jc F n o ByteArray.empty) (n+1) (n::o::os) ([]::Z::st):=by
 obtain ⟨a1,a2,a3,a4,a5,a6⟩:=En h ByteArray.empty hb;have ho:=h.on;refine ⟨by omega,a1,a2,a3,⟨?_,⟨[],by rw [pI ho];rfl,rfl⟩,by rw [y8 (by omega)];exact h.size.1,⟨F.kids o,pH,?_⟩,a4⟩,fun p hp=>?_,by simp⟩
 ·show (upd F.nm n ByteArray.empty n).size=0
  rw [upd_same];rfl
 ·rw [<- h.size.2]
  exact iK a5
 ·rcases bQ.1 hp with e | e
  ·omega
  ·have:=h.opn p e;omega
theorem kM.pop {q:Nat} {Y:List RT} (h:kM F n (o::q::os) (Z::Y::st)):kM F n (q::os) ((Y++[.node ByteArray.empty Z])::st):=by
 obtain ⟨h1,⟨ks,h2,h3⟩,h4,⟨Tm,h5,h6⟩,h7⟩:=h.zip;have ho:=h.on;refine ⟨h.big,h.kid,h.one,h.nd,⟨h4,⟨Tm++[o],by rw [h5];simp,?_⟩,h7⟩,fun p hp=>h.opn p (by simp at hp ⊢;rcases hp with e | e<;>simp [e]),by simp⟩;rw [cm,h6,cV,List.map_nil,ey h.wf ho];have hn:F.nm o=ByteArray.empty:=ByteArray.ext (Array.eq_empty_of_size_eq_zero h1);rw [hn,h.size.2]
theorem kM.done {r:RT} {Y:List RT} (h:kM F n [o] [r::Y]):∃c ks,F.kids o=c::ks/\c<n/\fR F mI c=flat r:=by
 obtain ⟨_,h2⟩:=h.size;have ho:=h.on;cases hk:F.kids o with
 | nil=>rw [hk] at h2;cases h2
 | cons c ks =>
  rw [hk,cV] at h2;injection h2 with h2 h3;have dZ:=(h.kid o ho c (by rw [hk];simp)).2;exact ⟨c,ks,rfl,dZ,by rw [Jp h.wf dZ (Ek h.wf h.one h.nd (fun i _=>Hq i) dZ),h2]⟩
theorem kM.len (h:kM F n (o::os) (Z::st)):(o::os).length=st.length+1:=by rw [h.zip.len];rfl
end
end
section
section
variable {F:aW} {n:Nat} {rk:Nat->Nat} {P:Nat->Bool}
theorem NZ (h:Wf F n rk) {i:Nat} (hi:i<n) (hg:lX (bh F rk i)):aX (bh F rk i)<=n:=by
 rw [<- lD,tC h hi (aj _),aD];exact r6 (BU h _ i (aj _) hi hg) fun x hx=>oT h hi (aj _) ((ew h hi (aj _)).1 hx)
end
end
end Go.Proofs.YtfomhlbhcifgbaaGreatDoor
