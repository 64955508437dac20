/- Texts of rose trees, plain: what the machine reads is the text of the result, and the .. -/
import Derived.Test.YtfomhlbhcifgbaaGreatDoorQ28
set_option maxRecDepth 100000
namespace Go.Proofs.YtfomhlbhcifgbaaGreatDoor
theorem Hs {c:UInt8} {s:List UInt8} (h:c∉cN):Lib.indexAny (c::s) cN<0\/1<=Lib.indexAny (c::s) cN:=by
 have hc:cN.contains c=false:=by
  cases e:cN.contains c with
  | false=>rfl
  | true=>exact absurd (A2.1 e) h
 rw [Lib.indexAny,hc];have:=Lib.indexAny_ge cN s;by_cases e:Lib.indexAny s cN = -1
 ·left;simp [e]
 ·right;rw [if_neg (by simp),if_neg (by simpa using e)];omega
theorem CX {c:UInt8} (h1:c≠40) (h2:c≠41) (h3:c≠44) (h4:c≠59):c∉cN:=by simp [cN,h1,h2,h3,h4]
theorem uN:∀(f g:Nat) (s:List UInt8) (st:List (List RT)) (b:Bool),s.length<f->s.length<g->pz f s st b=pz g s st b
 | 0,_,s,_,_,h,_=>by omega
 | _,0,s,_,_,_,h=>by omega
 | f+1,g+1,[],st,b,_,_=>rfl
 | f+1,g+1,c::s,st,b,hf,hg=>by
  rw [bB] at hf hg
  have key:∀(s':List UInt8) (st':List (List RT)) (b':Bool),s'.length<f->s'.length<g->pz f s' st' b'=pz g s' st' b':=fun s' st' b' h1 h2=>uN f g s' st' b' h1 h2
  rw [pz,pz]
  by_cases c1:c=40
  ·rw [if_pos c1,if_pos c1,key s _ _ (by omega) (by omega)]
  rw [if_neg c1,if_neg c1]
  by_cases c2:c=41
  ·rw [if_pos c2,if_pos c2,key s _ _ (by omega) (by omega)]
  rw [if_neg c2,if_neg c2]
  by_cases c3:c=44
  ·rw [if_pos c3,if_pos c3,key s _ _ (by omega) (by omega)]
  rw [if_neg c3,if_neg c3]
  by_cases c4:c=59
  ·rw [if_pos c4,if_pos c4]
  rw [if_neg c4,if_neg c4]
  by_cases c5:b=true
  ·rw [if_pos c5,if_pos c5]
  rw [if_neg c5,if_neg c5]
  rcases Hs (s:=s) (CX c1 c2 c3 c4) with h | h
  ·rw [if_pos h,if_pos h]
  ·rw [if_neg (by omega),if_neg (by omega)]
   have hd:((c::s).drop (Lib.indexAny (c::s) cN).toNat).length<=s.length:=by
    rw [List.length_drop,bB];omega
   exact key _ _ _ (by omega) (by omega)
def ox (s:List UInt8) (st:List (List RT)) (b:Bool):Option RT:=pz (s.length+1) s st b
theorem UC (s:List UInt8):nH s=ox s [[]] false:=rfl
theorem Ra (s:List UInt8) (st:List (List RT)):ox (40::s) st false=ox s ([]::st) false:=by
 unfold ox;rw [pz,if_pos rfl,if_neg (by simp)];exact uN _ _ _ _ _ (by simp) (by simp)
theorem Eo (s:List UInt8) (Z Y:List RT) (st:List (List RT)):ox (41::s) (Z::Y::st) true=ox s ((Y++[.node ByteArray.empty Z])::st) true:=by
 unfold ox;rw [pz,if_neg (by decide),if_pos rfl,if_neg (by simp)];exact uN _ _ _ _ _ (by simp) (by simp)
theorem N3 (s:List UInt8) (Z Y:List RT) (st:List (List RT)):ox (44::s) (Z::Y::st) true=ox s (Z::Y::st) false:=by
 unfold ox;rw [pz,if_neg (by decide),if_neg (by decide),if_pos rfl,if_neg (by simp)];exact uN _ _ _ _ _ (by simp) (by simp)
theorem UD (r:RT) (Z:List RT):ox [59] [r::Z] true=some r:=by
 unfold ox;rw [pz,if_neg (by decide),if_neg (by decide),if_neg (by decide),if_pos rfl,if_neg (by simp)];rfl
theorem Rb {n s:List UInt8} {d:UInt8} (h0:n≠[]) (h:∀c∈n,c∉cN) (hd:d∈cN) (Z:List RT) (st:List (List RT)):ox (n++d::s) (Z::st) false=ox (d::s) ((Z++[.node ⟨n.toArray⟩ []])::st) true:=by
 have hi:Lib.indexAny (n++d::s) cN=(n.length:Nat):=by
  refine Lib.indexAny_hit (x:=d) (fun j b hj hb=>?_) (by simp) (A2.2 hd);rw [KP hj] at hb;have hm:=A4 hb;cases e:cN.contains b with
  | false=>rfl
  | true=>exact absurd (A2.1 e) (h b hm)
 cases n with
 | nil=>exact absurd rfl h0
 | cons c n =>
  have hc:=h c (by simp);simp only [cN,bQ,List.not_mem_nil,or_false,not_or] at hc;unfold ox;rw [cw] at hi ⊢;rw [pz,if_neg hc.1,if_neg hc.2.1,if_neg hc.2.2.1,if_neg hc.2.2.2,if_neg (by simp),if_neg (by rw [hi];omega),hi];have e1:((c::(n++d::s)).drop ((((c::n).length:Nat):Int)).toNat)=d::s:=by rw [ei,<- cw,List.drop_left]
  have e2:((c::(n++d::s)).take ((((c::n).length:Nat):Int)).toNat)=c::n:=by rw [ei,<- cw,List.take_left]
  rw [e1,e2];exact uN _ _ _ _ _ (by simp;omega) (by simp)
def oy (r:RT):Prop:=∀s∈cn r,(s.kids≠[]->s.nm.size=0)/\(s.kids=[]->s.nm.data.toList≠[]/\∀c∈s.nm.data.toList,c∉cN)
theorem uO {nm:ByteArray} {ks:List RT} (h:oy (.node nm ks)) {k:RT} (hk:k∈ks):oy k:=fun s hs =>
 h s (by rw [cn,ou];exact yR _ (jo.2 ⟨k,hk,hs⟩))
theorem Rc {nm:ByteArray} {ks:List RT} (h0:nm.size=0) (h1:ks≠[]) (h:∀k∈ks,oy k):oy (.node nm ks):=fun s hs=>by
 rw [cn,ou,bQ,jo] at hs
 rcases hs with rfl | ⟨k,hk,hs⟩
 ·exact ⟨fun _=>h0,fun e=>absurd e h1⟩
 ·exact h k hk s hs
theorem Re {nm:ByteArray} (h1:nm.data.toList≠[]) (h:∀c∈nm.data.toList,c∉cN):oy (.node nm []):=fun s hs=>by
 rw [cn,dL,eN] at hs;subst hs
 exact ⟨fun e=>absurd rfl e,fun _=>⟨h1,h⟩⟩
theorem Rf {nm:ByteArray} (h:nm.size=0):nm=ByteArray.empty:=Q6 h rfl
mutual
theorem yB:∀(r:RT),oy r->∀(d:UInt8) (s:List UInt8) (Z:List RT) (st:List (List RT)),d∈cN->ox (dO r++d::s) (Z::st) false=ox (d::s) ((Z++[r])::st) true
 | .node nm [],h,d,s,Z,st,hd=>by
  obtain ⟨_,h1⟩:=h _ (by rw [cn];exact sI)
  obtain ⟨h1,h2⟩:=h1 rfl
  have h1:nm.data.toList≠[]:=h1
  have h2:∀c∈nm.data.toList,c∉cN:=h2
  rw [dO,Rb h1 h2 hd]
 | .node nm (k::ks),h,d,s,Z,st,hd=>by
  obtain ⟨h1,_⟩:=h _ (by rw [cn];exact sI)
  have h1:=Rf (h1 (by simp [RT.kids]))
  have h1:nm=ByteArray.empty:=h1
  rw [dO,cw,Ra,cU,cU]
  cases hks:ks with
  | nil =>
   rw [eL,dz,cw,dz,yB k (uO h (by simp)) 41 _ _ _ (by decide),Eo,h1];rfl
  | cons k2 Tm =>
   rw [<- hks]
   have e:∀X:List UInt8,eL ks++X=44::(dO k2++eL Tm++X):=fun X=>by rw [hks,eL,cw]
   rw [e,yB k (uO h (by simp)) 44 _ _ _ (by decide),<- e,dz,List.singleton_append,Kg ks (fun q hq=>uO h (by simp [hq])) 41 _ _ _ _ (by decide),Eo,h1,List.singleton_append]
theorem Kg:∀(ks:List RT),(∀k∈ks,oy k)->∀(d:UInt8) (s:List UInt8) (Z Y:List RT) (st:List (List RT)),d∈cN->ox (eL ks++d::s) (Z::Y::st) true=ox (d::s) ((Z++ks)::Y::st) true
 | [],_,d,s,Z,Y,st,_=>by rw [eL,dz,gm]
 | k::ks,h,d,s,Z,Y,st,hd=>by
  rw [eL,cw,N3,cU]
  have hk:=h k (by simp)
  have ih:=Kg ks (fun q hq=>h q (by simp [hq])) d s (Z++[k]) Y st hd
  rw [cU,List.singleton_append] at ih
  rw [<- ih]
  cases ks with
  | nil=>rw [eL,dz,yB k hk d _ _ _ hd]
  | cons k2 Tm=>rw [eL,cw,yB k hk 44 _ _ _ (by decide)]
end
mutual
theorem CY:∀(r:RT),oy r->aX r<=(dO r).length/\∀s∈dH r,s.size<=(dO r).length
 | .node nm [],h=>by
  obtain ⟨_,h1⟩:=h _ (by rw [cn];exact sI)
  have h1:nm.data.toList≠[]:=(h1 rfl).1
  have hl:0<nm.data.toList.length:=yQ.2 h1
  rw [aX,cM,dO,dH,eH]
  refine ⟨by omega,fun s hs=>?_⟩
  rw [eN.1 hs,size_data];exact aj _
 | .node nm (k::ks),h=>by
  obtain ⟨h1,_⟩:=h _ (by rw [cn];exact sI)
  have h1:nm.size=0:=h1 (by simp [RT.kids])
  obtain ⟨a1,a2⟩:=CY k (uO h (by simp))
  obtain ⟨b1,b2⟩:=Ht ks (fun q hq=>uO h (by simp [hq]))
  rw [aX,cM,dO,dH,eH,bB,bG,bG]
  refine ⟨by simp;omega,fun s hs=>?_⟩
  rcases bQ.1 hs with rfl | hs
  ·omega
  ·rcases eD.1 hs with hs | hs
   ·have:=a2 s hs;omega
   ·have:=b2 s hs;omega
theorem Ht:∀(ks:List RT),(∀k∈ks,oy k)->cM ks<=(eL ks).length/\∀s∈eH ks,s.size<=(eL ks).length
 | [],_=>⟨by rw [cM];exact bg _,fun s hs=>by rw [eH] at hs;cases hs⟩
 | k::ks,h=>by
  obtain ⟨a1,a2⟩:=CY k (h k (by simp))
  obtain ⟨b1,b2⟩:=Ht ks (fun q hq=>h q (by simp [hq]))
  rw [cM,eL,eH,bB,bG]
  refine ⟨by omega,fun s hs=>?_⟩
  rcases eD.1 hs with hs | hs
  ·have:=a2 s hs;omega
  ·have:=b2 s hs;omega
end
theorem Hu {r:RT} (h:oy r):nH (dO r++[59])=some r:=by
 rw [UC,yB r h 59 [] [] [] (by decide),dz,UD]
theorem N5 {r q:RT} (hr:oy r) (hq:oy q) (e:dO r=dO q):r=q:=by
 have h:=Hu hr;rw [e,Hu hq] at h;exact (Option.some.inj h).symm
def pT:List (List RT)->Bool->List UInt8
 | [],_=>[]
 | [Z],_=>match Z with
  | []=>[]
  | r::_=>dO r
 | Z::Y::st,b=>pT (Y::st) false++(if Z=[] then [40] else iB Z++(if b then [] else [44]))
def aaC (st:List (List RT)) (b:Bool):Prop:=(∀Z∈st,∀r∈Z,oy r)/\st≠[]/\(b=true->∀Z,st.head? = some Z->Z≠[])/\(∀Z,st.getLast? = some Z->Z.length<=1/\((st.length≠1\/b=false)->Z=[]))
theorem Rg {Z Y:List RT} {st:List (List RT)} (h0:Z≠[]) (hl:st=[]->Y=[]):pT ((Y++[.node ByteArray.empty Z])::st) true=pT (Z::Y::st) true++[41]:=by
 cases st with
 | nil =>
  rw [hl rfl];simp only [pT,dz,if_neg h0];rw [AL _ h0];simp
 | cons X st =>
  have hne:Y++[RT.node ByteArray.empty Z]≠[]:=by simp
  simp only [pT,if_neg h0,if_neg hne,if_true,CW,AL _ h0];by_cases hY:Y=[]
  ·subst hY;simp [iB]
  ·have:Y.length≠0:=by simpa using hY
   simp [hY]
theorem Kh:∀(s:List UInt8) (n:Nat),Lib.indexAny s cN=(n:Int)->∀x∈s.take n,x∉cN
 | [],n,h,x,hx=>by simp at hx
 | c::s,0,_,x,hx=>by simp at hx
 | c::s,n+1,h,x,hx=>by
  rw [Lib.indexAny] at h
  cases hc:cN.contains c with
  | true=>rw [hc,if_pos rfl] at h;omega
  | false =>
   rw [hc,if_neg (by simp)] at h
   by_cases e:Lib.indexAny s cN = -1
   ·rw [e] at h;simp at h;omega
   ·rw [if_neg (by simpa using e)] at h
    rw [List.take_succ_cons,bQ] at hx
    rcases hx with rfl | hx
    ·intro hm;rw [A2.2 hm] at hc;cases hc
    ·exact Kh s n (by omega) x hx
theorem Tn:∀(s:List UInt8) (n:Nat),Lib.indexAny s cN=(n:Int)->n<s.length
 | [],n,h=>by rw [Lib.indexAny] at h;omega
 | c::s,0,_=>by simp
 | c::s,n+1,h=>by
  rw [Lib.indexAny] at h
  cases hc:cN.contains c with
  | true=>rw [hc,if_pos rfl] at h;omega
  | false =>
   rw [hc,if_neg (by simp)] at h
   by_cases e:Lib.indexAny s cN = -1
   ·rw [e] at h;simp at h;omega
   ·rw [if_neg (by simpa using e)] at h
    have:=Tn s n (by omega)
    rw [bB];omega
theorem LF (s:ByteArray) (k n:Nat):(⟨((s.data.toList.drop k).take n).toArray⟩:ByteArray)=s.extract k (k+n):=by
 apply A7;rw [A1];simp [Nat.add_sub_cancel_left]
theorem uP:∀(f:Nat) (s:List UInt8) (st:List (List RT)) (b:Bool) (r:RT),s.length<f->aaC st b->pz f s st b=some r->pT st b++s=dO r++[59]/\oy r
 | 0,_,_,_,_,h,_,_=>by omega
 | f+1,[],st,b,r,_,_,e=>by cases e
 | f+1,c::s,st,b,r,hf,hI,e=>by
  rw [bB] at hf
  obtain ⟨i1,i2,i3,i4⟩:=hI
  rw [pz] at e
  by_cases c1:c=40
  ·rw [if_pos c1] at e
   cases b with
   | true=>rw [if_pos rfl] at e;cases e
   | false =>
    rw [if_neg (by simp)] at e
    obtain ⟨h1,h2⟩:=uP f s ([]::st) false r (by omega) ⟨fun Z hZ=>by
     rcases bQ.1 hZ with rfl | h
     ·intro r hr;cases hr
     ·exact i1 Z h,by simp,(fun h=>by cases h),fun Z hZ=>by
      cases st with
      | nil=>exact absurd rfl i2
      | cons Y st =>
       rw [sH] at hZ
       have:=i4 Z hZ
       exact ⟨this.1,fun _=>this.2 (.inr rfl)⟩⟩ e
    refine ⟨?_,h2⟩
    rw [<- h1,c1]
    cases st with
    | nil=>exact absurd rfl i2
    | cons Y st=>simp [pT]
  rw [if_neg c1] at e
  by_cases c2:c=41
  ·rw [if_pos c2] at e
   by_cases hb:b=false\/st.length=1
   ·rw [if_pos hb] at e;cases e
   ·rw [if_neg hb] at e
    have hb1:b=true:=by cases b<;>simp at hb ⊢
    subst hb1
    match st,i2,hb with
    | [],h,_=>exact absurd rfl h
    | [Z],_,h=>exact absurd (.inr rfl) h
    | Z::Y::st,_,_ =>
     have hZ:Z≠[]:=i3 rfl Z rfl
     have hY:st=[]->Y=[]:=fun h=>by subst h;exact (i4 Y rfl).2 (.inl (by simp))
     rw [show Q8 (Z::Y::st)=(Y++[.node ByteArray.empty Z])::st from rfl] at e
     obtain ⟨h1,h2⟩:=uP f s ((Y++[.node ByteArray.empty Z])::st) true r (by omega) ⟨fun X hX r hr=>by
      rcases bQ.1 hX with rfl | h
      ·rcases eD.1 hr with h | h
       ·exact i1 Y (by simp) r h
       ·rw [eN.1 h];exact Rc rfl hZ fun k hk=>i1 Z (by simp) k hk
      ·exact i1 X (by simp [h]) r hr,by simp,(fun _ X hX=>by cases hX;simp),fun X hX=>by
       cases st with
       | nil =>
        cases hX;rw [hY rfl]
        exact ⟨by simp,fun h=>by simp at h⟩
       | cons W st =>
        rw [sH] at hX
        have:=i4 X (by rw [sH,sH];exact hX)
        exact ⟨this.1,fun _=>this.2 (.inl (by simp))⟩⟩ e
     refine ⟨?_,h2⟩
     rw [<- h1,Rg hZ hY,c2];simp
  rw [if_neg c2] at e
  by_cases c3:c=44
  ·rw [if_pos c3] at e
   by_cases hb:b=false\/st.length=1
   ·rw [if_pos hb] at e;cases e
   ·rw [if_neg hb] at e
    have hb1:b=true:=by cases b<;>simp at hb ⊢
    subst hb1
    match st,i2,hb with
    | [],h,_=>exact absurd rfl h
    | [Z],_,h=>exact absurd (.inr rfl) h
    | Z::Y::st,_,_ =>
     have hZ:Z≠[]:=i3 rfl Z rfl
     obtain ⟨h1,h2⟩:=uP f s (Z::Y::st) false r (by omega) ⟨i1,by simp,(fun h=>by cases h),fun X hX=>⟨(i4 X hX).1,fun _=>(i4 X hX).2 (.inl (by simp))⟩⟩ e
     refine ⟨?_,h2⟩
     rw [<- h1,c3]
     simp [pT,hZ]
  rw [if_neg c3] at e
  by_cases c4:c=59
  ·rw [if_pos c4] at e
   by_cases hb:b=false\/st.length≠1\/s≠[]
   ·rw [if_pos hb] at e;cases e
   ·rw [if_neg hb] at e
    have hb1:b=true:=by cases b<;>simp at hb ⊢
    have hs:s=[]:=by simp at hb;exact hb.2.2
    have hl:st.length=1:=by simp at hb;exact hb.2.1
    subst hb1;subst hs
    match st,hl with
    | [Z],_ =>
     have hZ:Z≠[]:=i3 rfl Z rfl
     cases Z with
     | nil=>exact absurd rfl hZ
     | cons q Z =>
      cases e
      rw [c4]
      exact ⟨rfl,i1 (q::Z) sI q sI⟩
  rw [if_neg c4] at e
  by_cases c5:b=true
  ·rw [if_pos c5] at e;cases e
  rw [if_neg c5] at e
  have hb:b=false:=by cases b<;>simp at c5 ⊢
  subst hb
  by_cases c6:Lib.indexAny (c::s) cN<0
  ·rw [if_pos c6] at e;cases e
  rw [if_neg c6] at e
  have hn:=(Hs (s:=s) (CX c1 c2 c3 c4)).resolve_left c6
  obtain ⟨n,hn2⟩:∃n:Nat,Lib.indexAny (c::s) cN=(n:Int):=⟨(Lib.indexAny (c::s) cN).toNat,by omega⟩
  rw [hn2,ei] at e
  have hno:∀x∈(c::s).take n,x∉cN:=Kh _ n hn2
  match st,i2 with
  | Z::st,_ =>
   have hne:(c::s).take n≠[]:=by
    cases n with
    | zero=>omega
    | succ n=>simp
   rw [show ∀q,XP q (Z::st)=(Z++[q])::st from fun _=>rfl] at e
   obtain ⟨h1,h2⟩:=uP f ((c::s).drop n) ((Z++[.node ⟨((c::s).take n).toArray⟩ []])::st) true r (by rw [List.length_drop,bB];omega) ⟨fun X hX r hr=>by
     rcases bQ.1 hX with rfl | h
     ·rcases eD.1 hr with h | h
      ·exact i1 Z (by simp) r h
      ·rw [eN.1 h];exact Re (by simpa using hne) (by simpa using hno)
     ·exact i1 X (by simp [h]) r hr,by simp,(fun _ X hX=>by cases hX;simp),fun X hX=>by
      cases st with
      | nil =>
       cases hX;rw [(i4 Z rfl).2 (.inr rfl)]
       exact ⟨by simp,fun h=>by simp at h⟩
      | cons W st =>
       rw [sH] at hX
       have:=i4 X (by rw [sH];exact hX)
       exact ⟨this.1,fun _=>this.2 (.inr rfl)⟩⟩ e
   refine ⟨?_,h2⟩
   rw [<- h1]
   have ht:c::s=(c::s).take n++(c::s).drop n:=(A5 _ _).symm
   cases st with
   | nil =>
    rw [(i4 Z rfl).2 (.inr rfl)]
    simp only [pT,dz,dO]
    exact ht
   | cons W st =>
    have KU:Z++[RT.node ⟨((c::s).take n).toArray⟩ []]≠[]:=by simp
    simp only [pT,if_neg KU,if_true,CW,dO,gm]
    by_cases hZ:Z=[]
    ·subst hZ;simp [iB]
    ·have hz:Z.length≠0:=by simpa using hZ
     simp [hZ]
theorem N6 {s:List UInt8} {r:RT} (h:nH s=some r):s=dO r++[59]/\oy r:=by
 obtain ⟨h1,h2⟩:=uP _ s [[]] false r (kC _) ⟨(fun Z hZ r hr=>by simp at hZ;subst hZ;cases hr),by simp,(fun h=>by cases h),fun Z hZ=>by cases hZ;simp⟩ h;exact ⟨h1,h2⟩
theorem N8 {s:List UInt8} {r:RT} (h:nH s=some r):(flat r).ps.length<=s.length/\(flat r).ns.length<=s.length/\∀k,(gs (flat r).ns k).size<=s.length:=by
 obtain ⟨h1,h2⟩:=N6 h;obtain ⟨h3,h4⟩:=CY r h2;have hl:s.length=(dO r).length+1:=by rw [h1];simp
 refine ⟨by rw [oZ];omega,by rw [y7];omega,fun k=>?_⟩;by_cases hk:k<(dH r).length
 ·have hm:gs (dH r) k∈dH r:=by simp [gs,hk]
  have:=h4 _ hm;show (gs (dH r) k).size<=_;omega
 ·have:gs (flat r).ns k=ByteArray.empty:=by
   show (dH r).getD k ByteArray.empty=_
   simp [show (dH r).length<=k by omega]
  rw [this];exact bg _
end Go.Proofs.YtfomhlbhcifgbaaGreatDoor
