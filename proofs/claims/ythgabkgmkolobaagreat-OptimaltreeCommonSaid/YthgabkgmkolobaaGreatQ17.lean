/- Texts of rose trees, plain: what the machine reads is the text of the result, and the .. -/
import Derived.Shelf.SlLaysM
import Derived.Ground.SlgmProg
import Derived.Shelf.SortM.Plain
import Derived.Shelf.SortM.SortNone
import Derived.Sort.OwnSortedInts
import Derived.Laws.IdiomStrings
import Derived.Shelf.Slices.In.SortNone
import Derived.Shelf.Lays
import Derived.Shelf.Sort.Plain
import Derived.Test.YthgabkgmkolobaaGreatQ16
set_option maxRecDepth 100000
namespace Go.Proofs.YthgabkgmkolobaaGreat
section
theorem Uw {c:UInt8} {s:List UInt8} (h:c∉dS):Lib.indexAny (c::s) dS<0\/1<=Lib.indexAny (c::s) dS:=by
 have hc:dS.contains c=false:=by
  cases e:dS.contains c with
  | false=>rfl
  | true=>exact absurd (iP.1 e) h
 rw [Lib.indexAny,hc];have:=Lib.indexAny_ge dS s;by_cases e:Lib.indexAny s dS = -1
 ·left;simp [e]
 ·right;rw [if_neg (by simp),if_neg (by simpa using e)];omega
theorem Pj {c:UInt8} (h1:c≠40) (h2:c≠41) (h3:c≠44) (h4:c≠59):c∉dS:=by simp [dS,h1,h2,h3,h4]
theorem EJ:∀(f g:Nat) (s:List UInt8) (st:List (List RT)) (b:Bool),s.length<f->s.length<g->pz f s st b=pz g s st b
 | 0,_,s,_,_,h,_=>by omega
 | _,0,s,_,_,_,h=>by omega
 | f+1,g+1,[],st,b,_,_=>rfl
 | f+1,g+1,c::s,st,b,hf,hg=>by
  rw [aT] at hf hg
  have key:∀(s':List UInt8) (st':List (List RT)) (b':Bool),s'.length<f->s'.length<g->pz f s' st' b'=pz g s' st' b':=fun s' st' b' h1 h2=>EJ f g s' st' b' h1 h2
  rw [pz,pz]
  by_cases c1:c=40
  ·rw [if_pos c1,if_pos c1,key s _ _ (by omega) (by omega)]
  rw [if_neg c1,if_neg c1]
  by_cases c2:c=41
  ·rw [if_pos c2,if_pos c2,key s _ _ (by omega) (by omega)]
  rw [if_neg c2,if_neg c2]
  by_cases c3:c=44
  ·rw [if_pos c3,if_pos c3,key s _ _ (by omega) (by omega)]
  rw [if_neg c3,if_neg c3]
  by_cases c4:c=59
  ·rw [if_pos c4,if_pos c4]
  rw [if_neg c4,if_neg c4]
  by_cases c5:b=true
  ·rw [if_pos c5,if_pos c5]
  rw [if_neg c5,if_neg c5]
  rcases Uw (s:=s) (Pj c1 c2 c3 c4) with h | h
  ·rw [if_pos h,if_pos h]
  ·rw [if_neg (by omega),if_neg (by omega)]
   have hd:((c::s).drop (Lib.indexAny (c::s) dS).toNat).length<=s.length:=by
    rw [wO,aT];omega
   exact key _ _ _ (by omega) (by omega)
def xu (s:List UInt8) (st:List (List RT)) (b:Bool):Option RT:=pz (s.length+1) s st b
theorem paR_pzr (s:List UInt8):qw s=xu s [[]] false:=rfl
theorem pzr_open (s:List UInt8) (st:List (List RT)):xu (40::s) st false=xu s ([]::st) false:=by
 unfold xu;rw [pz,if_pos rfl,if_neg (by simp)];exact EJ _ _ _ _ _ (by simp) (by simp)
theorem Ra (s:List UInt8) (Z Y:List RT) (st:List (List RT)):xu (41::s) (Z::Y::st) true=xu s ((Y++[.node ByteArray.empty Z])::st) true:=by
 unfold xu;rw [pz,if_neg (by decide),if_pos rfl,if_neg (by simp)];exact EJ _ _ _ _ _ (by simp) (by simp)
theorem pzr_comma (s:List UInt8) (Z Y:List RT) (st:List (List RT)):xu (44::s) (Z::Y::st) true=xu s (Z::Y::st) false:=by
 unfold xu;rw [pz,if_neg (by decide),if_neg (by decide),if_pos rfl,if_neg (by simp)];exact EJ _ _ _ _ _ (by simp) (by simp)
theorem pzr_end (r:RT) (Z:List RT):xu [59] [r::Z] true=some r:=by
 unfold xu;rw [pz,if_neg (by decide),if_neg (by decide),if_neg (by decide),if_pos rfl,if_neg (by simp)];rfl
theorem pzr_name {n s:List UInt8} {d:UInt8} (h0:n≠[]) (h:∀c∈n,c∉dS) (hd:d∈dS) (Z:List RT) (st:List (List RT)):xu (n++d::s) (Z::st) false=xu (d::s) ((Z++[.node ⟨n.toArray⟩ []])::st) true:=by
 have hi:Lib.indexAny (n++d::s) dS=(n.length:Nat):=by
  refine Lib.indexAny_hit (x:=d) (fun j b hj hb=>?_) (by simp) (iP.2 hd);rw [M3 hj] at hb;have hm:=M5 hb;cases e:dS.contains b with
  | false=>rfl
  | true=>exact absurd (iP.1 e) (h b hm)
 cases n with
 | nil=>exact absurd rfl h0
 | cons c n =>
  have hc:=h c (by simp);simp only [dS,aW,qD,or_false,not_or] at hc;unfold xu;rw [cr] at hi ⊢;rw [pz,if_neg hc.1,if_neg hc.2.1,if_neg hc.2.2.1,if_neg hc.2.2.2,if_neg (by simp),if_neg (by rw [hi];omega),hi];have e1:((c::(n++d::s)).drop ((((c::n).length:Nat):Int)).toNat)=d::s:=by rw [cZ,<- cr,List.drop_left]
  have e2:((c::(n++d::s)).take ((((c::n).length:Nat):Int)).toNat)=c::n:=by rw [cZ,<- cr,List.take_left]
  rw [e1,e2];exact EJ _ _ _ _ _ (by simp;omega) (by simp)
def tu (r:RT):Prop:=∀s∈bH r,(s.kids≠[]->s.nm.size=0)/\(s.kids=[]->s.nm.data.toList≠[]/\∀c∈s.nm.data.toList,c∉dS)
theorem A4 {nm:ByteArray} {ks:List RT} (h:tu (.node nm ks)) {k:RT} (hk:k∈ks):tu k:=fun s hs =>
 h s (by rw [bH,tP];exact pH _ (jP.2 ⟨k,hk,hs⟩))
theorem Ux {nm:ByteArray} {ks:List RT} (h0:nm.size=0) (h1:ks≠[]) (h:∀k∈ks,tu k):tu (.node nm ks):=fun s hs=>by
 rw [bH,tP,aW,jP] at hs
 rcases hs with rfl | ⟨k,hk,hs⟩
 ·exact ⟨fun _=>h0,fun e=>absurd e h1⟩
 ·exact h k hk s hs
theorem Uy {nm:ByteArray} (h1:nm.data.toList≠[]) (h:∀c∈nm.data.toList,c∉dS):tu (.node nm []):=fun s hs=>by
 rw [bH,eZ,dP] at hs;subst hs
 exact ⟨fun e=>absurd rfl e,fun _=>⟨h1,h⟩⟩
theorem Uz {nm:ByteArray} (h:nm.size=0):nm=ByteArray.empty:=size0_eq h rfl
mutual
theorem IW:∀(r:RT),tu r->∀(d:UInt8) (s:List UInt8) (Z:List RT) (st:List (List RT)),d∈dS->xu (dy r++d::s) (Z::st) false=xu (d::s) ((Z++[r])::st) true
 | .node nm [],h,d,s,Z,st,hd=>by
  obtain ⟨_,h1⟩:=h _ (by rw [bH];exact tL)
  obtain ⟨h1,h2⟩:=h1 rfl
  have h1:nm.data.toList≠[]:=h1
  have h2:∀c∈nm.data.toList,c∉dS:=h2
  rw [dy,pzr_name h1 h2 hd]
 | .node nm (k::ks),h,d,s,Z,st,hd=>by
  obtain ⟨h1,_⟩:=h _ (by rw [bH];exact tL)
  have h1:=Uz (h1 (by simp [RT.kids]))
  have h1:nm=ByteArray.empty:=h1
  rw [dy,cr,pzr_open,dN,dN]
  cases hks:ks with
  | nil =>
   rw [fK,cH,cr,cH,IW k (A4 h (by simp)) 41 _ _ _ (by decide),Ra,h1];rfl
  | cons k2 IQ =>
   rw [<- hks]
   have e:∀X:List UInt8,fK ks++X=44::(dy k2++fK IQ++X):=fun X=>by rw [hks,fK,cr]
   rw [e,IW k (A4 h (by simp)) 44 _ _ _ (by decide),<- e,cH,List.singleton_append,YX ks (fun q hq=>A4 h (by simp [hq])) 41 _ _ _ _ (by decide),Ra,h1,List.singleton_append]
theorem YX:∀(ks:List RT),(∀k∈ks,tu k)->∀(d:UInt8) (s:List UInt8) (Z Y:List RT) (st:List (List RT)),d∈dS->xu (fK ks++d::s) (Z::Y::st) true=xu (d::s) ((Z++ks)::Y::st) true
 | [],_,d,s,Z,Y,st,_=>by rw [fK,cH,gN]
 | k::ks,h,d,s,Z,Y,st,hd=>by
  rw [fK,cr,pzr_comma,dN]
  have hk:=h k (by simp)
  have ih:=YX ks (fun q hq=>h q (by simp [hq])) d s (Z++[k]) Y st hd
  rw [dN,List.singleton_append] at ih
  rw [<- ih]
  cases ks with
  | nil=>rw [fK,cH,IW k hk d _ _ _ hd]
  | cons k2 IQ=>rw [fK,cr,IW k hk 44 _ _ _ (by decide)]
end
mutual
theorem J4:∀(r:RT),tu r->aU r<=(dy r).length/\∀s∈gJ r,s.size<=(dy r).length
 | .node nm [],h=>by
  obtain ⟨_,h1⟩:=h _ (by rw [bH];exact tL)
  have h1:nm.data.toList≠[]:=(h1 rfl).1
  have hl:0<nm.data.toList.length:=Ak.2 h1
  rw [aU,bE,dy,gJ,gZ]
  refine ⟨by omega,fun s hs=>?_⟩
  rw [dP.1 hs,size_data];exact af _
 | .node nm (k::ks),h=>by
  obtain ⟨h1,_⟩:=h _ (by rw [bH];exact tL)
  have h1:nm.size=0:=h1 (by simp [RT.kids])
  obtain ⟨a1,a2⟩:=J4 k (A4 h (by simp))
  obtain ⟨b1,b2⟩:=UA ks (fun q hq=>A4 h (by simp [hq]))
  rw [aU,bE,dy,gJ,gZ,aT,aZ,aZ]
  refine ⟨by simp;omega,fun s hs=>?_⟩
  rcases aW.1 hs with rfl | hs
  ·omega
  ·rcases dV.1 hs with hs | hs
   ·have:=a2 s hs;omega
   ·have:=b2 s hs;omega
theorem UA:∀(ks:List RT),(∀k∈ks,tu k)->bE ks<=(fK ks).length/\∀s∈gZ ks,s.size<=(fK ks).length
 | [],_=>⟨by rw [bE];exact aL _,fun s hs=>by rw [gZ] at hs;cases hs⟩
 | k::ks,h=>by
  obtain ⟨a1,a2⟩:=J4 k (h k (by simp))
  obtain ⟨b1,b2⟩:=UA ks (fun q hq=>h q (by simp [hq]))
  rw [bE,fK,gZ,aT,aZ]
  refine ⟨by omega,fun s hs=>?_⟩
  rcases dV.1 hs with hs | hs
  ·have:=a2 s hs;omega
  ·have:=b2 s hs;omega
end
theorem EK {r:RT} (h:tu r):qw (dy r++[59])=some r:=by
 rw [paR_pzr,IW r h 59 [] [] [] (by decide),cH,pzr_end]
theorem tx_inj {r q:RT} (hr:tu r) (hq:tu q) (e:dy r=dy q):r=q:=by
 have h:=EK hr;rw [e,EK hq] at h;exact (Option.some.inj h).symm
def pT:List (List RT)->Bool->List UInt8
 | [],_=>[]
 | [Z],_=>match Z with
  | []=>[]
  | r::_=>dy r
 | Z::Y::st,b=>pT (Y::st) false++(if Z=[] then [40] else mJ Z++(if b then [] else [44]))
def PInv (st:List (List RT)) (b:Bool):Prop:=(∀Z∈st,∀r∈Z,tu r)/\st≠[]/\(b=true->∀Z,st.head? = some Z->Z≠[])/\(∀Z,st.getLast? = some Z->Z.length<=1/\((st.length≠1\/b=false)->Z=[]))
theorem pT_close {Z Y:List RT} {st:List (List RT)} (h0:Z≠[]) (hl:st=[]->Y=[]):pT ((Y++[.node ByteArray.empty Z])::st) true=pT (Z::Y::st) true++[41]:=by
 cases st with
 | nil =>
  rw [hl rfl];simp only [pT,cH,if_neg h0];rw [B3 _ h0];simp
 | cons X st =>
  have hne:Y++[RT.node ByteArray.empty Z]≠[]:=by simp
  simp only [pT,if_neg h0,if_neg hne,if_true,J3,B3 _ h0];by_cases hY:Y=[]
  ·subst hY;simp [mJ]
  ·have:Y.length≠0:=by simpa using hY
   simp [hY]
theorem YY:∀(s:List UInt8) (n:Nat),Lib.indexAny s dS=(n:Int)->∀x∈s.take n,x∉dS
 | [],n,h,x,hx=>by simp at hx
 | c::s,0,_,x,hx=>by simp at hx
 | c::s,n+1,h,x,hx=>by
  rw [Lib.indexAny] at h
  cases hc:dS.contains c with
  | true=>rw [hc,if_pos rfl] at h;omega
  | false =>
   rw [hc,if_neg (by simp)] at h
   by_cases e:Lib.indexAny s dS = -1
   ·rw [e] at h;simp at h;omega
   ·rw [if_neg (by simpa using e)] at h
    rw [Bk,aW] at hx
    rcases hx with rfl | hx
    ·intro hm;rw [iP.2 hm] at hc;cases hc
    ·exact YY s n (by omega) x hx
theorem ia_lt:∀(s:List UInt8) (n:Nat),Lib.indexAny s dS=(n:Int)->n<s.length
 | [],n,h=>by rw [Lib.indexAny] at h;omega
 | c::s,0,_=>by simp
 | c::s,n+1,h=>by
  rw [Lib.indexAny] at h
  cases hc:dS.contains c with
  | true=>rw [hc,if_pos rfl] at h;omega
  | false =>
   rw [hc,if_neg (by simp)] at h
   by_cases e:Lib.indexAny s dS = -1
   ·rw [e] at h;simp at h;omega
   ·rw [if_neg (by simpa using e)] at h
    have:=ia_lt s n (by omega)
    rw [aT];omega
theorem ba_extract (s:ByteArray) (k n:Nat):(⟨((s.data.toList.drop k).take n).toArray⟩:ByteArray)=s.extract k (k+n):=by
 apply j9;rw [Fm];simp [Nat.add_sub_cancel_left]
theorem EL:∀(f:Nat) (s:List UInt8) (st:List (List RT)) (b:Bool) (r:RT),s.length<f->PInv st b->pz f s st b=some r->pT st b++s=dy r++[59]/\tu r
 | 0,_,_,_,_,h,_,_=>by omega
 | f+1,[],st,b,r,_,_,e=>by cases e
 | f+1,c::s,st,b,r,hf,hI,e=>by
  rw [aT] at hf
  obtain ⟨i1,i2,i3,i4⟩:=hI
  rw [pz] at e
  by_cases c1:c=40
  ·rw [if_pos c1] at e
   cases b with
   | true=>rw [if_pos rfl] at e;cases e
   | false =>
    rw [if_neg (by simp)] at e
    obtain ⟨h1,h2⟩:=EL f s ([]::st) false r (by omega) ⟨fun Z hZ=>by
     rcases aW.1 hZ with rfl | h
     ·intro r hr;cases hr
     ·exact i1 Z h,by simp,(fun h=>by cases h),fun Z hZ=>by
      cases st with
      | nil=>exact absurd rfl i2
      | cons Y st =>
       rw [CJ] at hZ
       have:=i4 Z hZ
       exact ⟨this.1,fun _=>this.2 (.inr rfl)⟩⟩ e
    refine ⟨?_,h2⟩
    rw [<- h1,c1]
    cases st with
    | nil=>exact absurd rfl i2
    | cons Y st=>simp [pT]
  rw [if_neg c1] at e
  by_cases c2:c=41
  ·rw [if_pos c2] at e
   by_cases hb:b=false\/st.length=1
   ·rw [if_pos hb] at e;cases e
   ·rw [if_neg hb] at e
    have hb1:b=true:=by cases b<;>simp at hb ⊢
    subst hb1
    match st,i2,hb with
    | [],h,_=>exact absurd rfl h
    | [Z],_,h=>exact absurd (.inr rfl) h
    | Z::Y::st,_,_ =>
     have hZ:Z≠[]:=i3 rfl Z rfl
     have hY:st=[]->Y=[]:=fun h=>by subst h;exact (i4 Y rfl).2 (.inl (by simp))
     rw [show popZ (Z::Y::st)=(Y++[.node ByteArray.empty Z])::st from rfl] at e
     obtain ⟨h1,h2⟩:=EL f s ((Y++[.node ByteArray.empty Z])::st) true r (by omega) ⟨fun X hX r hr=>by
      rcases aW.1 hX with rfl | h
      ·rcases dV.1 hr with h | h
       ·exact i1 Y (by simp) r h
       ·rw [dP.1 h];exact Ux rfl hZ fun k hk=>i1 Z (by simp) k hk
      ·exact i1 X (by simp [h]) r hr,by simp,(fun _ X hX=>by cases hX;simp),fun X hX=>by
       cases st with
       | nil =>
        cases hX;rw [hY rfl]
        exact ⟨by simp,fun h=>by simp at h⟩
       | cons W st =>
        rw [CJ] at hX
        have:=i4 X (by rw [CJ,CJ];exact hX)
        exact ⟨this.1,fun _=>this.2 (.inl (by simp))⟩⟩ e
     refine ⟨?_,h2⟩
     rw [<- h1,pT_close hZ hY,c2];simp
  rw [if_neg c2] at e
  by_cases c3:c=44
  ·rw [if_pos c3] at e
   by_cases hb:b=false\/st.length=1
   ·rw [if_pos hb] at e;cases e
   ·rw [if_neg hb] at e
    have hb1:b=true:=by cases b<;>simp at hb ⊢
    subst hb1
    match st,i2,hb with
    | [],h,_=>exact absurd rfl h
    | [Z],_,h=>exact absurd (.inr rfl) h
    | Z::Y::st,_,_ =>
     have hZ:Z≠[]:=i3 rfl Z rfl
     obtain ⟨h1,h2⟩:=EL f s (Z::Y::st) false r (by omega) ⟨i1,by simp,(fun h=>by cases h),fun X hX=>⟨(i4 X hX).1,fun _=>(i4 X hX).2 (.inl (by simp))⟩⟩ e
     refine ⟨?_,h2⟩
     rw [<- h1,c3]
     simp [pT,hZ]
  rw [if_neg c3] at e
  by_cases c4:c=59
  ·rw [if_pos c4] at e
   by_cases hb:b=false\/st.length≠1\/s≠[]
   ·rw [if_pos hb] at e;cases e
   ·rw [if_neg hb] at e
    have hb1:b=true:=by cases b<;>simp at hb ⊢
    have hs:s=[]:=by simp at hb;exact hb.2.2
    have hl:st.length=1:=by simp at hb;exact hb.2.1
    subst hb1;subst hs
    match st,hl with
    | [Z],_ =>
     have hZ:Z≠[]:=i3 rfl Z rfl
     cases Z with
     | nil=>exact absurd rfl hZ
     | cons q Z =>
      cases e
      rw [c4]
      exact ⟨rfl,i1 (q::Z) tL q tL⟩
  rw [if_neg c4] at e
  by_cases c5:b=true
  ·rw [if_pos c5] at e;cases e
  rw [if_neg c5] at e
  have hb:b=false:=by cases b<;>simp at c5 ⊢
  subst hb
  by_cases c6:Lib.indexAny (c::s) dS<0
  ·rw [if_pos c6] at e;cases e
  rw [if_neg c6] at e
  have hn:=(Uw (s:=s) (Pj c1 c2 c3 c4)).resolve_left c6
  obtain ⟨n,hn2⟩:∃n:Nat,Lib.indexAny (c::s) dS=(n:Int):=⟨(Lib.indexAny (c::s) dS).toNat,by omega⟩
  rw [hn2,cZ] at e
  have hno:∀x∈(c::s).take n,x∉dS:=YY _ n hn2
  match st,i2 with
  | Z::st,_ =>
   have hne:(c::s).take n≠[]:=by
    cases n with
    | zero=>omega
    | succ n=>simp
   rw [show ∀q,addZ q (Z::st)=(Z++[q])::st from fun _=>rfl] at e
   obtain ⟨h1,h2⟩:=EL f ((c::s).drop n) ((Z++[.node ⟨((c::s).take n).toArray⟩ []])::st) true r (by rw [wO,aT];omega) ⟨fun X hX r hr=>by
     rcases aW.1 hX with rfl | h
     ·rcases dV.1 hr with h | h
      ·exact i1 Z (by simp) r h
      ·rw [dP.1 h];exact Uy (by simpa using hne) (by simpa using hno)
     ·exact i1 X (by simp [h]) r hr,by simp,(fun _ X hX=>by cases hX;simp),fun X hX=>by
      cases st with
      | nil =>
       cases hX;rw [(i4 Z rfl).2 (.inr rfl)]
       exact ⟨by simp,fun h=>by simp at h⟩
      | cons W st =>
       rw [CJ] at hX
       have:=i4 X (by rw [CJ];exact hX)
       exact ⟨this.1,fun _=>this.2 (.inr rfl)⟩⟩ e
   refine ⟨?_,h2⟩
   rw [<- h1]
   have ht:c::s=(c::s).take n++(c::s).drop n:=(wR _ _).symm
   cases st with
   | nil =>
    rw [(i4 Z rfl).2 (.inr rfl)]
    simp only [pT,cH,dy]
    exact ht
   | cons W st =>
    have O3:Z++[RT.node ⟨((c::s).take n).toArray⟩ []]≠[]:=by simp
    simp only [pT,if_neg O3,if_true,J3,dy,gN]
    by_cases hZ:Z=[]
    ·subst hZ;simp [mJ]
    ·have hz:Z.length≠0:=by simpa using hZ
     simp [hZ]
theorem Rb {s:List UInt8} {r:RT} (h:qw s=some r):s=dy r++[59]/\tu r:=by
 obtain ⟨h1,h2⟩:=EL _ s [[]] false r (pI _) ⟨(fun Z hZ r hr=>by simp at hZ;subst hZ;cases hr),by simp,(fun h=>by cases h),fun Z hZ=>by cases hZ;simp⟩ h;exact ⟨h1,h2⟩
theorem IX {s:List UInt8} {r:RT} (h:qw s=some r):(flat r).ps.length<=s.length/\(flat r).ns.length<=s.length/\∀k,(gs (flat r).ns k).size<=s.length:=by
 obtain ⟨h1,h2⟩:=Rb h;obtain ⟨h3,h4⟩:=J4 r h2;have hl:s.length=(dy r).length+1:=by rw [h1];simp
 refine ⟨by rw [wj];omega,by rw [AZ];omega,fun k=>?_⟩;by_cases hk:k<(gJ r).length
 ·have hm:gs (gJ r) k∈gJ r:=by simp [gs,hk]
  have:=h4 _ hm;show (gs (gJ r) k).size<=_;omega
 ·have:gs (flat r).ns k=ByteArray.empty:=by
   show (gJ r).getD k ByteArray.empty=_
   simp [show (gJ r).length<=k by omega]
  rw [this];exact aL _
end
section
def oK (ps:List Int) (n:Nat):Nat->Nat->Nat
 | 0,k=>k
 | d+1,k=>if n<k then oK ps n d (gi ps k).toNat else k
def ew (ps:List Int) (n i:Nat):Bool:=decide (oK ps n i i=n)
theorem jb {ps:List Int} (h:k8 ps=true) {k:Nat} (hk:k<ps.length) (h0:0<k):0<=gi ps k/\gi ps k<k:=by
 have h1:=JV h hk;unfold qq at h1;rw [if_neg (by omega)] at h1;simpa using h1
theorem climb_fuel {ps:List Int} (hp:k8 ps=true) (n:Nat):∀ {d e k:Nat},k<ps.length->k<=d->k<=e->oK ps n d k=oK ps n e k:=by
 intro d
 induction d with
 | zero =>
  intro e k hl h1 h2;obtain rfl:k=0:=by omega
  cases e with
  | zero=>rfl
  | succ e=>simp [oK]
 | succ d ih =>
  intro e k hl h1 h2;cases e with
  | zero =>
   (obtain rfl:k=0:=by omega);simp [oK]
  | succ e =>
   rw [oK,oK];split
   ·rename_i hnk
    have:=jb hp hl (by omega);exact ih (by omega) (by omega) (by omega)
   ·rfl
theorem FZ {ps:List Int} (hp:k8 ps=true) {n k:Nat} (hk:k<ps.length) (hn:n<k):oK ps n k k=oK ps n (gi ps k).toNat (gi ps k).toNat:=by
 have h1:=jb hp hk (by omega);obtain ⟨m,rfl⟩:∃m,k=m+1:=⟨k - 1,by omega⟩;rw [oK,if_pos hn];exact climb_fuel hp n (by omega) (by omega) (af _)
theorem tR {ps:List Int} {n k:Nat} (hn:¬n<k):oK ps n k k=k:=by
 cases k with
 | zero=>rfl
 | succ k=>rw [oK,if_neg hn]

theorem x7 {ps:List Int} (i:Nat):ew ps i i=true:=by unfold ew;rw [tR (by omega)];simp
theorem uO {ps:List Int} (_:k8 ps=true) {i:Nat}:∀ {j:Nat},j<ps.length->ew ps i j=true->i<=j:=by
 intro j
 induction j using Nat.strongRecOn with
 | ind j ih =>
  intro hj h;by_cases e:i<j
  ·omega
  ·unfold ew at h
   rw [tR e] at h;(have:j=i:=by simpa using h);omega
theorem rM {ps:List Int} (hp:k8 ps=true) {i j:Nat} (hj:j<ps.length) (hi:i<j):ew ps i j=ew ps i (gi ps j).toNat:=by
 unfold ew;rw [FZ hp hj hi]
theorem EM {ps:List Int} (hp:k8 ps=true) {i:Nat}:∀ {j:Nat},j<ps.length->(ew ps i j=true↔j=i\/∃c,c<ps.length/\i<c/\gi ps c=(i:Int)/\ew ps c j=true):=by
 intro j
 induction j using Nat.strongRecOn with
 | ind j ih =>
  intro hj;by_cases e:i<j
  ·have hpar:=jb hp hj (by omega)
   have Us:((gi ps j).toNat:Int)=gi ps j:=Int.toNat_of_nonneg hpar.1;(have hpl:(gi ps j).toNat<j:=by omega);rw [rM hp hj e,ih _ hpl (by omega)];constructor
   ·rintro (h | ⟨c,h1,h2,h3,h4⟩)
    ·exact .inr ⟨j,hj,e,by omega,x7 j⟩
    ·have:=uO hp (show (gi ps j).toNat<ps.length by omega) h4
     exact .inr ⟨c,h1,h2,h3,by rw [rM hp hj (by omega)];exact h4⟩
   ·rintro (h | ⟨c,h1,h2,h3,h4⟩)
    ·omega
    ·have GH:=uO hp hj h4
     by_cases ec:c=j
     ·subst ec;left;omega
     ·right
      exact ⟨c,h1,h2,h3,by rw [rM hp hj (by omega)] at h4;exact h4⟩
  ·unfold ew
   rw [tR e];constructor
   ·intro h;left;simpa using h
   ·rintro (h | ⟨c,h1,h2,h3,h4⟩)
    ·simpa using h
    ·have:=uO hp hj h4;omega
end
section
section
variable {F:ct} {n:Nat} {rk:Nat->Nat} {P:Nat->Bool}
theorem good_size (h:Wf F n rk) {i:Nat} (hi:i<n) (hg:iq (bB F rk i)):aU (bB F rk i)<=n:=by
 rw [<- rH,CY h hi (af _),aG];exact xX (NK h _ i (af _) hi hg) fun x hx=>vZ h hi (af _) ((gO h hi (af _)).1 hx)
end
end
section
open Go.RowKit Go.Deep
def x8 (l:List (ByteArray×Value)) (k:ByteArray) (v:Value):List (ByteArray×Value):=if (l.lookup k).isNone then l++[(k,v)] else l.map fun x=>if x.1=k then (k,v) else x
def SMap (w:World) (b:Nat) (l:List (ByteArray×Value)):Prop:=∃es clock,w.heap[b]? = some (.map es clock)/\es.toList.map (fun x=>(x.key,x.val))=l.map (fun x=>(Value.string x.1,x.2))
def Db (l:List (ByteArray×Value)):Prop:=(l.map (·.1)).Nodup
theorem ba_beq (a b:ByteArray):(a==b)=decide (a=b):=by
 obtain ⟨a⟩:=a;obtain ⟨b⟩:=b;have:((⟨a⟩:ByteArray)==⟨b⟩)=(a==b):=rfl;rw [this];by_cases h:a=b
 ·subst h;simp
 ·have h2:¬(⟨a⟩:ByteArray)=⟨b⟩:=fun e=>h (ByteArray.mk.inj e)
  rw [decide_eq_false h2];simpa using h
theorem x9 (a:ByteArray):(a==a)=true:=by rw [ba_beq];simp
theorem Ay {a b:ByteArray} (h:¬a=b):(a==b)=false:=by rw [ba_beq];simpa using h
section
variable {P:Program} {w:World}
theorem findNow_s (k:ByteArray):∀(es:List MapEntry) (l:List (ByteArray×Value)) (i:Nat),
  es.map (fun x=>(x.key,x.val))=l.map (fun x=>(Value.string x.1,x.2)) ->
   (l.lookup k=none/\Instr.findNow .string (.string k) es i=some none)\/∃j v,l.lookup k=some v/\(l[j]?).map (·.1)=some k/\Instr.findNow .string (.string k) es i=some (some (i+j,v)):=by
 intro es
 induction es with
 | nil =>
  intro l i hl;cases l with
  | nil=>exact .inl ⟨rfl,rfl⟩
  | cons=>cases hl
 | cons x es ih =>
  intro l i hl;cases l with
  | nil=>cases hl
  | cons y l =>
   simp only [cK,List.cons.injEq,mj] at hl;obtain ⟨⟨h1,h2⟩,h3⟩:=hl;obtain ⟨y1,y2⟩:=y;have h1:x.key=.string y1:=h1;have h2:x.val=y2:=h2;by_cases h:k=y1
   ·subst h
    refine .inr ⟨0,y2,by rw [eC,x9],rfl,?_⟩;simp [Instr.findNow,Instr.sameNow,h1,h2,x9]
   ·have hb:(k==y1)=false:=Ay h
    rcases ih l (i+1) h3 with ⟨h4,h5⟩ | ⟨j,v,h4,h5,h6⟩
    ·refine .inl ⟨by rw [eC,hb];exact h4,?_⟩
     simp [Instr.findNow,Instr.sameNow,h1,hb,h5]
    ·refine .inr ⟨j+1,v,by rw [eC,hb];exact h4,by simpa using h5,?_⟩
     simp [Instr.findNow,Instr.sameNow,h1,hb,h6];omega
theorem Rc {t:TypeId} (ht:P.underlying t=some .string) (k:ByteArray) (es:List MapEntry) (l:List (ByteArray×Value)) (hl:es.map (fun x=>(x.key,x.val))=l.map (fun x=>(Value.string x.1,x.2))) :
  (l.lookup k=none/\(Instr.findKey t (.string k) es).run P w=.ok none w)\/∃j v,l.lookup k=some v/\(l[j]?).map (·.1)=some k/\(Instr.findKey t (.string k) es).run P w=.ok (some (j,v)) w:=by
 have hu:=run_underlying (w:=w) ht;rcases findNow_s k es l 0 hl with ⟨h1,h2⟩ | ⟨j,v,h1,h2,h3⟩
 ·exact .inl ⟨h1,by simp [Instr.findKey,hu,h2]⟩
 ·exact .inr ⟨j,v,h1,h2,by simp [Instr.findKey,hu,h3]⟩
theorem Az {t:TypeId} (ht:P.underlying t=some .string) (em:Bool) (k:ByteArray):(Instr.checkKey em 10000 t (.string k)).run P w=.ok () w:=by
 have hu:=run_underlying (w:=w) ht;show (Instr.checkKey em (9999+1) t (.string k)).run P w=_;unfold Instr.checkKey;simp [hu]
theorem UB {l:List (ByteArray×Value)} {k:ByteArray}:l.lookup k=none↔k∉l.map (·.1):=by
 induction l with
 | nil=>simp
 | cons y l ih =>
  obtain ⟨y1,y2⟩:=y
  rw [eC]
  by_cases h:k=y1
  ·subst h;simp [x9]
  ·have hb:(k==y1)=false:=Ay h
   rw [hb];simp only [cK,aW,not_or]
   exact ⟨fun h2=>⟨h,ih.1 h2⟩,fun h2=>ih.2 h2.2⟩
theorem putS_keys (l:List (ByteArray×Value)) (k:ByteArray) (v:Value):(x8 l k v).map (·.1)=if (l.lookup k).isNone then l.map (·.1)++[k] else l.map (·.1):=by
 unfold x8;split
 ·simp
 ·rw [jO]
  refine lU fun x _=>?_;show (if x.1=k then (k,v) else x).1=x.1;split
  ·rename_i h;exact h.symm
  ·rfl
theorem Re {l:List (ByteArray×Value)} (h:Db l) (k:ByteArray) (v:Value):Db (x8 l k v):=by
 unfold Db;rw [putS_keys];split
 ·rename_i h2
  have h3:k∉l.map (·.1):=UB.1 (by simpa using h2);rw [nR];refine ⟨h,by simp,fun a ha b hb=>?_⟩;have:b=k:=by simpa using hb
  subst this;exact fun e=>h3 (by rw [<- e];exact ha)
 ·exact h
theorem modS_uniq {l:List (ByteArray×Value)} (h:Db l) {k:ByteArray} (v:Value) {j:Nat} (hj:(l[j]?).map (·.1)=some k):(l.map fun x=>if x.1=k then (k,v) else x)=l.set j (k,v):=by
 apply wN;intro m;have hjl:j<l.length:=by
  cases hlj:l[j]? with
  | none=>rw [hlj] at hj;cases hj
  | some y=>exact (pF.1 hlj).1
 rw [jA,JR];by_cases e:j=m
 ·subst e
  rw [if_pos rfl,if_pos hjl];rw [iQ hjl] at hj ⊢;have h3:(l[j]).1=k:=by simpa using hj
  simp [h3]
 ·rw [if_neg e]
  cases hm:l[m]? with
  | none=>rfl
  | some y =>
   have hml:=(pF.1 hm).1;(have hne:y.1≠k:=fun h4=>by (have h5:(l.map (·.1))[m]? = (l.map (·.1))[j]?:=by rw [jA,jA,hm,hj];simp [h4]);(have h6:m<(l.map (·.1)).length:=by simpa using hml);(have h7:j<(l.map (·.1)).length:=by simpa using hjl);rw [iQ h6,iQ h7] at h5;injection h5 with h5;exact e ((List.getElem_inj h).1 h5).symm);simp [hne]
theorem SMap.made (w:World):SMap (w.alloc (.map #[] 0)) w.heap.size []:=⟨#[],0,(MapKept.heap_alloc w _).1,rfl⟩
theorem SMap.same {w':World} {b:Nat} {l:List (ByteArray×Value)} (h:SMap w b l) (hb:w'.heap[b]? = w.heap[b]?):SMap w' b l:=by
 obtain ⟨es,clock,h1,h2⟩:=h;exact ⟨es,clock,hb.trans h1,h2⟩
theorem SMap.lt {b:Nat} {l:List (ByteArray×Value)} (h:SMap w b l):b<w.heap.size:=by
 obtain ⟨es,clock,h1,_⟩:=h;exact (fR.1 h1).1
theorem UC {mt t el:TypeId} (hm:P.underlying mt=some (.map t el)) (ht:P.underlying t=some .string) {b:Nat} {l:List (ByteArray×Value)} (h:SMap w b l) (hq:Db l) (k:ByteArray) (v:Value) :
  ∃w',(Instr.mapUpdate mt (.map (some b)) (.string k) v).run P w=.ok () w'/\SMap w' b (x8 l k v)/\w'.heap.size=w.heap.size/\w'.os=w.os/\w'.tape=w.tape/\w'.output=w.output/\∀j,j≠b->w'.heap[j]? = w.heap[j]?:=by
 obtain ⟨es,clock,hb,hl⟩:=h;have hu:=run_underlying (w:=w) hm;have hg:=yX (P:=P) hb;have hbl:=(fR.1 hb).1;rcases Rc (w:=w) ht k es.toList l hl with ⟨h1,h2⟩ | ⟨j,v',h1,h5,h2⟩
 ·have hs:=Eg (P:=P) (.map (es.push { key:=.string k,val:=v,born:=clock }) (clock+1)) hb
  refine ⟨{ w with heap:=w.heap.setIfInBounds b (.map (es.push { key:=.string k,val:=v,born:=clock }) (clock+1)) },by simp [Instr.mapUpdate,hu,hg,Az ht,h2,hs],⟨es.push { key:=.string k,val:=v,born:=clock },clock+1,by simp [hbl],?_⟩,by simp,rfl,rfl,rfl,fun j hj=>by simp [Ne.symm hj]⟩;unfold x8;rw [h1];simp [hl]
 ·have hkey:((es[j]?).map (·.key))=some (.string k):=by
   have h8:=congrArg (fun q=>(q[j]?).map (·.1)) hl
   simp only [jA,Option.map_map] at h8
   have h9:(l[j]?).map (fun x=>Value.string x.1)=some (.string k):=by
    cases hlj:l[j]? with
    | none=>rw [hlj] at h5;cases h5
    | some y=>rw [hlj] at h5;simp at h5;simp [h5]
   have h10:(es.toList[j]?).map (·.key)=(l[j]?).map (fun x=>Value.string x.1):=h8
   rw [<- oW,h10,h9]
  have hst:(Instr.keyThatStays (((es[j]?).map (·.key)).getD (.string k)) (.string k)).run P w=.ok (.string k) w:=by
   rw [hkey]
   have h0:Instr.sameBits 10000 (.string k) (.string k)=true:=by simp [Instr.sameBits,x9]
   show (Instr.keyThatStays (.string k) (.string k)).run P w=_
   unfold Instr.keyThatStays
   rw [if_pos h0];rfl
  have hs:=Eg (P:=P) (.map (es.modify j fun e=>{ e with key:=.string k,val:=v }) clock) hb
  refine ⟨{ w with heap:=w.heap.setIfInBounds b (.map (es.modify j fun e=>{ e with key:=.string k,val:=v }) clock) },by simp [Instr.mapUpdate,hu,hg,Az ht,h2,hst,hs],⟨es.modify j fun e=>{ e with key:=.string k,val:=v },clock,by simp [hbl],?_⟩,by simp,rfl,rfl,rfl,fun m hm=>by simp [Ne.symm hm]⟩
  have hpl:x8 l k v=l.set j (k,v):=by
   unfold x8;rw [h1]
   exact modS_uniq hq v h5
  rw [hpl]
  apply wN
  intro m
  have h8:=congrArg (fun q=>q[m]?) hl
  simp only [jA] at h8
  rw [jA,jA,oW,zq2Q,JR]
  have hjl:j<l.length:=by
   cases hlj:l[j]? with
   | none=>rw [hlj] at h5;cases h5
   | some y=>exact (pF.1 hlj).1
  have hje:j<es.size:=by have:=congrArg List.length hl;simp at this;omega
  by_cases e:j=m
  ·subst e
   rw [if_pos rfl,if_pos rfl,if_pos hjl,Array.getElem?_eq_getElem hje]
   rfl
  ·rw [if_neg e,if_neg e,<- oW];exact h8
theorem IY {mt t el:TypeId} (hm:P.underlying mt=some (.map t el)) (ht:P.underlying t=some .string) {z:Value} (hz:(zeroValue el).run P w=.ok z w) {b:Nat} {l:List (ByteArray×Value)} (h:SMap w b l) (k:ByteArray) :
  (Instr.lookup mt (.map (some b)) (.string k) false).run P w=.ok ((l.lookup k).getD z) w:=by
 obtain ⟨es,clock,hb,hl⟩:=h;have hu:=run_underlying (w:=w) hm;have hg:=yX (P:=P) hb;rcases Rc (w:=w) ht k es.toList l hl with ⟨h1,h2⟩ | ⟨j,v',h1,_,h2⟩
 ·simp [Instr.lookup,hu,hg,Az ht,h2,hz,h1]
 ·simp [Instr.lookup,hu,hg,Az ht,h2,h1]
end
end
section
theorem KQ {l:List (ByteArray×Value)} {k j:ByteArray} {v:Value}:(x8 l k v).lookup j=if j=k then some v else l.lookup j:=by
 unfold x8;split
 ·rename_i h
  have h0:l.lookup k=none:=by simpa using h
  rw [List.lookup_append];by_cases e:j=k
  ·subst e;rw [if_pos rfl,h0];simp [List.lookup,x9]
  ·rw [if_neg e]
   (have:List.lookup j [(k,v)]=none:=by simp [List.lookup,Ay e]);rw [this];simp
 ·rename_i h
  have h0:(l.lookup k).isSome:=by
   cases hl:l.lookup k with
   | none=>rw [hl] at h;exact absurd rfl h
   | some x=>rfl
  clear h
  induction l with
  | nil=>cases h0
  | cons y l ih =>
   obtain ⟨y1,y2⟩:=y;rw [cK];by_cases e1:y1=k
   ·subst e1
    rw [if_pos rfl,eC];by_cases e:j=y1
    ·subst e;rw [x9,if_pos rfl]
    ·rw [Ay e,if_neg e,eC,Ay e]
     have hm:∀l:List (ByteArray×Value),List.lookup j (l.map fun x=>if x.1=y1 then (y1,v) else x)=List.lookup j l:=by
      intro l
      induction l with
      | nil=>rfl
      | cons z l ihl =>
       obtain ⟨z1,z2⟩:=z;rw [cK];by_cases ez:z1=y1
       ·subst ez;rw [if_pos rfl,eC,Ay e,eC,Ay e];exact ihl
       ·rw [if_neg ez,eC,eC,ihl]
     exact hm l
   ·rw [if_neg e1,eC,eC]
    rw [eC,Ay (fun h=>e1 h.symm)] at h0;by_cases e:j=y1
    ·subst e;rw [x9,if_neg e1]
    ·rw [Ay e];exact ih h0
end
section
open Go.RowKit Go.Shelf Go.Deep
theorem zero_int (W:World):(zeroValue 3).run Tryz.prog W=.ok (.int .i64 0) W:=by simp [Tryz.zeroValue3]
end
end Go.Proofs.YthgabkgmkolobaaGreat
namespace Go.Proofs
open Go.Shelf
def Tryz.sortZ_ren:Go.Shelf.Ren:=⟨fun | 5=>71 | 8=>127 | 7=>126 | 19=>181 | 20=>182 | 10=>172 | 11=>173 | 12=>174 | 13=>175 | 14=>176 | 15=>177 | 16=>178 | 17=>179 | 18=>180 | 30=>234 | 31=>235 | 32=>236 | 33=>237 | 34=>238 | 35=>131 | 40=>270 | n=>n,fun | 23=>26 | 25=>3 | 3=>3 | 32=>154 | 22=>26 | 0=>0 | 44=>191 | 46=>193 | 4=>4 | 36=>183 | 35=>182 | 41=>188 | 5=>5 | 9=>9 | 53=>238 | 57=>242 | 63=>267 | 64=>177 | n=>n,fun | n=>n⟩
theorem Tryz.sortZ:Go.Proofs.SlLaysM.n5 Tryz.prog Tryz.sortZ_ren:={
 mixed:=by kernel_rfl
 f5:=⟨Tryz.f71.name,by decide,Tryz.func71.trans (congrArg some (by kernel_rfl))⟩
 f7:=⟨Tryz.f126.name,by decide,Tryz.func126.trans (congrArg some (by kernel_rfl))⟩
 f8:=Tryz.func127.trans (congrArg some (by kernel_rfl))
 f10:=⟨Tryz.f172.name,by decide,Tryz.func172.trans (congrArg some (by kernel_rfl))⟩
 f11:=⟨Tryz.f173.name,by decide,Tryz.func173.trans (congrArg some (by kernel_rfl))⟩
 f12:=⟨Tryz.f174.name,by decide,Tryz.func174.trans (congrArg some (by kernel_rfl))⟩
 f13:=⟨Tryz.f175.name,by decide,Tryz.func175.trans (congrArg some (by kernel_rfl))⟩
 f14:=⟨Tryz.f176.name,by decide,Tryz.func176.trans (congrArg some (by kernel_rfl))⟩
 f15:=⟨Tryz.f177.name,by decide,Tryz.func177.trans (congrArg some (by kernel_rfl))⟩
 f16:=⟨Tryz.f178.name,by decide,Tryz.func178.trans (congrArg some (by kernel_rfl))⟩
 f17:=⟨Tryz.f179.name,by decide,Tryz.func179.trans (congrArg some (by kernel_rfl))⟩
 f18:=⟨Tryz.f180.name,by decide,Tryz.func180.trans (congrArg some (by kernel_rfl))⟩
 f19:=Tryz.func181.trans (congrArg some (by kernel_rfl))
 f20:=Tryz.func182.trans (congrArg some (by kernel_rfl))
 f30:=⟨Tryz.f234.name,by decide,Tryz.func234.trans (congrArg some (by kernel_rfl))⟩
 f31:=Tryz.func235.trans (congrArg some (by kernel_rfl))
 f32:=Tryz.func236.trans (congrArg some (by kernel_rfl))
 f33:=⟨Tryz.f237.name,by decide,Tryz.func237.trans (congrArg some (by kernel_rfl))⟩
 f34:=⟨Tryz.f238.name,by decide,Tryz.func238.trans (congrArg some (by kernel_rfl))⟩
 f35:=⟨Tryz.f131.name,by decide,Tryz.func131.trans (congrArg some (by kernel_rfl))⟩
 f40:=⟨Tryz.f270.name,by decide,Tryz.func270.trans (congrArg some (by kernel_rfl))⟩
 t0:=Tryz.underlying0
 a0:=Tryz.isAgg0
 z0:=Tryz.sizeOf0
 v0:=Tryz.zeroValue0
 t3:=Tryz.underlying3
 a3:=Tryz.isAgg3
 z3:=Tryz.sizeOf3
 v3:=Tryz.zeroValue3
 t4:=Tryz.underlying4
 a4:=Tryz.isAgg4
 z4:=Tryz.sizeOf4
 v4:=Tryz.zeroValue4
 t5:=Tryz.underlying5
 a5:=Tryz.isAgg5
 z5:=Tryz.sizeOf5
 v5:=Tryz.zeroValue5
 t9:=Tryz.underlying9
 a9:=Tryz.isAgg9
 z9:=Tryz.sizeOf9
 v9:=Tryz.zeroValue9
 t22:=Tryz.underlying26
 a22:=Tryz.isAgg26
 z22:=Tryz.sizeOf26
 v22:=Tryz.zeroValue26
 t23:=Tryz.underlying26
 a23:=Tryz.isAgg26
 z23:=Tryz.sizeOf26
 v23:=Tryz.zeroValue26
 t25:=Tryz.underlying3
 a25:=Tryz.isAgg3
 z25:=Tryz.sizeOf3
 v25:=Tryz.zeroValue3
 t32:=Tryz.underlying154
 a32:=Tryz.isAgg154
 z32:=Tryz.sizeOf154
 v32:=Tryz.zeroValue154
 t35:=Tryz.underlying182
 a35:=Tryz.isAgg182
 z35:=Tryz.sizeOf182
 v35:=Tryz.zeroValue182
 t36:=Tryz.underlying183
 a36:=Tryz.isAgg183
 z36:=Tryz.sizeOf183
 v36:=Tryz.zeroValue183
 t41:=Tryz.underlying188
 a41:=Tryz.isAgg188
 z41:=Tryz.sizeOf188
 v41:=Tryz.zeroValue188
 t44:=Tryz.underlying191
 a44:=Tryz.isAgg191
 z44:=Tryz.sizeOf191
 v44:=Tryz.zeroValue191
 t46:=Tryz.underlying193
 a46:=Tryz.isAgg193
 z46:=Tryz.sizeOf193
 v46:=Tryz.zeroValue193
 t53:=Tryz.underlying238
 a53:=Tryz.isAgg238
 z53:=Tryz.sizeOf238
 v53:=Tryz.zeroValue238
 t57:=Tryz.underlying242
 a57:=Tryz.isAgg242
 z57:=Tryz.sizeOf242
 v57:=Tryz.zeroValue242
 t63:=Tryz.underlying267
 a63:=Tryz.isAgg267
 z63:=Tryz.sizeOf267
 v63:=Tryz.zeroValue267
 t64:=Tryz.underlying177
 a64:=Tryz.isAgg177
 z64:=Tryz.sizeOf177
 v64:=Tryz.zeroValue177 }
end Go.Proofs
namespace Go.Proofs.YthgabkgmkolobaaGreat
section
open Go.RowKit Go.Shelf Go.Deep Go.Sort
def jC (xs:List Int):List Int:=xs.mergeSort fun x y=>decide (x<=y)
theorem qZ (xs:List Int):(jC xs).length=xs.length:=List.length_mergeSort _
end
section
section
variable {aac:List ByteArray} {l:List Yy}
theorem Dc (ns:List ByteArray):(aD ns).length=(qK ns).length:=by
 unfold aD;rw [aG];have h:∀k,k<=ns.length->((List.range k).filter fun i=>(gs ns i).size≠0).length=(qK (ns.take k)).length:=by
  intro k
  induction k with
  | zero=>intro _;rfl
  | succ k ih =>
   intro hk;(have hg:gs ns k=ns[k]:=by simp [gs,show k<ns.length by omega]);rw [rX,vg,aZ,ih (by omega),jY (show k<ns.length by omega),Ug,aZ,<- hg];congr 1;unfold qK;by_cases e:(gs ns k).size≠0
   ·rw [MZ (by simpa using e),MZ (by simpa using e)];rfl
   ·rw [JQ (by simpa using e),JQ (by simpa using e)];rfl
 have:=h ns.length (af _);rw [gh] at this;exact this
end
end
section
section
variable {t:az}
theorem A5 (h:aH t=0):∀(d i j:Nat),t.ps.length - i<=d->i<t.ps.length->j<t.ps.length->ep (fJ t) (dU t) i j=ew t.ps i j
 | 0,i,_,hd,hi,_=>by omega
 | d+1,i,j,hd,hi,hj=>by
  obtain ⟨_,_,_,hok,_⟩:=aF h
  have hw:=(eu h).wf
  rw [lR,EM hok hj,nN hw hi,Ah,beq_iff_eq,eO]
  constructor
  ·rintro (e | ⟨c,hc,e⟩)
   ·exact .inl e
   ·rw [iY] at hc
    obtain ⟨h1,h2,h3⟩:=cD.1 hc
    exact .inr ⟨c,h1,h2,h3,by rw [<- A5 h d c j (by omega) h1 hj];exact e⟩
  ·rintro (e | ⟨c,h1,h2,h3,e⟩)
   ·exact .inl e
   ·exact .inr ⟨c,by rw [iY];exact cD.2 ⟨h1,h2,h3⟩,by rw [A5 h d c j (by omega) h1 hj];exact e⟩
theorem Rf {ps:List Int} (hp:k8 ps=true) {i k:Nat} (hik:i<=k):∀(d j:Nat),j<=d->j<ps.length->ew ps i j=true->ew ps k j=true->ew ps i k=true
 | d,j,hd,hj,h1,h2=>by
  have hkj:=uO hp hj h2
  by_cases e:j=k
  ·subst e;exact h1
  ·obtain ⟨p0,pj⟩:=jb hp hj (by omega)
   rw [rM hp hj (by omega)] at h1 h2
   cases d with
   | zero=>omega
   | succ d=>exact Rf hp hik d (gi ps j).toNat (by omega) (by omega) h1 h2
end
end
end Go.Proofs.YthgabkgmkolobaaGreat
