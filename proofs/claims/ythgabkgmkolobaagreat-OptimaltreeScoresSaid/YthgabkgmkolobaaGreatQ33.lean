/- The reference's reader of texts, plain: it reads what the machine of Parse reads. Valid .. -/
import Derived.Laws.RangeAny
import Derived.WalkMore
import Derived.Shelf.Small.Utf8
import Derived.Test.YthgabkgmkolobaaGreatQ32
set_option maxRecDepth 100000
namespace Go.Proofs.YthgabkgmkolobaaGreat
section
def nmLen:List UInt8→Nat
 | []=>0
 | c::s=>if c∈bF then 0 else nmLen s+1
theorem zy:∀s:List UInt8,nmLen s≤s.length
 | []=>Nat.le_refl _
 | c::s=>by
  rw [nmLen,List.length_cons]
  have:=zy s
  split<;>omega
theorem AK:∀(s:List UInt8),∀c∈s.take (nmLen s),c∉bF
 | [],c,h=>by simp at h
 | d::s,c,h=>by
  rw [nmLen] at h
  split at h
  ·simp at h
  ·rw [List.take_succ_cons,List.mem_cons] at h
   rcases h with rfl | h
   ·assumption
   ·exact AK s c h
theorem Dm:∀(n:List UInt8) (d:UInt8) (s:List UInt8),(∀c∈n,c∉bF)→d∈bF→nmLen (n++d::s)=n.length
 | [],d,s,_,hd=>by rw [List.nil_append,nmLen,if_pos hd];rfl
 | c::n,d,s,h,hd=>by
  rw [List.cons_append,nmLen,if_neg (h c (by simp)),Dm n d s (fun x hx=>h x (by simp [hx])) hd];rfl
mutual
def rdN:Nat→List UInt8→Option (RT×List UInt8)
 | 0,_=>none
 | _+1,[]=>none
 | f+1,c::s=>if c=40 then rdK f [] s else if nmLen (c::s)=0 then none else some (.node ⟨((c::s).take (nmLen (c::s))).toArray⟩ [],(c::s).drop (nmLen (c::s)))
def rdK:Nat→List RT→List UInt8→Option (RT×List UInt8)
 | 0,_,_=>none
 | f+1,ks,s=>match rdN f s with
  | none=>none
  | some (_,[])=>none
  | some (k,d::s2)=>if d=41 then some (.node ByteArray.empty (ks++[k]),s2) else if d=44 then rdK f (ks++[k]) s2 else none
end
mutual
theorem x8:∀(f:Nat) (s:List UInt8) (r:RT) (l:List UInt8),rdN f s=some (r,l)→l.length<s.length
 | 0,s,r,l,h=>by rw [rdN] at h;cases h
 | f+1,[],r,l,h=>by rw [rdN] at h;cases h
 | f+1,c::s,r,l,h=>by
  rw [rdN] at h
  split at h
  ·have:=Jh f [] s r l h
   rw [List.length_cons];omega
  ·split at h
   ·cases h
   ·injection h with h
    injection h with h1 h2
    subst h2
    rw [List.length_drop]
    have:=zy (c::s)
    rw [List.length_cons] at this ⊢
    omega
theorem Jh:∀(f:Nat) (ks:List RT) (s:List UInt8) (r:RT) (l:List UInt8),rdK f ks s=some (r,l)→l.length<s.length
 | 0,ks,s,r,l,h=>by rw [rdK] at h;cases h
 | f+1,ks,s,r,l,h=>by
  rw [rdK] at h
  split at h
  ·cases h
  ·cases h
  ·rename_i k d s2 e
   have h1:=x8 f s k (d::s2) e
   rw [List.length_cons] at h1
   split at h
   ·injection h with h
    injection h with _ h
    subst h;omega
   ·split at h
    ·have:=Jh f _ s2 r l h
     omega
    ·cases h
end
theorem BK:∀(f g:Nat),(∀s:List UInt8,2*s.length<f→2*s.length<g→rdN f s=rdN g s)∧(∀(ks:List RT) (s:List UInt8),2*s.length+1<f→2*s.length+1<g→rdK f ks s=rdK g ks s)
 | 0,_=>⟨fun s h=>by omega,fun ks s h=>by omega⟩
 | f+1,0=>⟨fun s _ h=>by omega,fun ks s _ h=>by omega⟩
 | f+1,g+1=>by
  obtain ⟨h1,h2⟩:=BK f g
  refine ⟨fun s a b=>?_,fun ks s a b=>?_⟩
  ·cases s with
   | nil=>rw [rdN,rdN]
   | cons c s =>
    rw [List.length_cons] at a b
    rw [rdN,rdN]
    split
    ·exact h2 [] s (by omega) (by omega)
    ·rfl
  ·rw [rdK,rdK,h1 s (by omega) (by omega)]
   cases e:rdN g s with
   | none=>rfl
   | some q =>
    obtain ⟨k,l⟩:=q
    cases l with
    | nil=>rfl
    | cons d s2 =>
     have:=x8 g s k _ e
     rw [List.length_cons] at this
     show (if d=41 then _ else if d=44 then _ else _)=(if d=41 then _ else if d=44 then _ else _)
     split
     ·rfl
     ·split
      ·exact h2 _ _ (by omega) (by omega)
      ·rfl
def fQ (s:List UInt8):Option (RT×List UInt8):=rdN (2*s.length+1) s
def ru (ks:List RT) (s:List UInt8):Option (RT×List UInt8):=rdK (2*s.length+2) ks s
theorem FR (s:List UInt8):fQ (40::s)=ru [] s:=by
 unfold fQ ru;rw [rdN,if_pos rfl];exact (BK _ _).2 _ _ (by simp;omega) (by simp)
theorem gK {c:UInt8} (s:List UInt8) (h:c≠40):fQ (c::s)=if nmLen (c::s)=0 then none else some (.node ⟨((c::s).take (nmLen (c::s))).toArray⟩ [],(c::s).drop (nmLen (c::s))):=by
 unfold fQ;rw [rdN,if_neg h]
theorem FT (ks:List RT) (s:List UInt8):ru ks s=match fQ s with
  | none=>none
  | some (_,[])=>none
  | some (k,d::s2)=>if d=41 then some (.node ByteArray.empty (ks++[k]),s2) else if d=44 then ru (ks++[k]) s2 else none:=by
 unfold ru fQ;rw [rdK];cases e:rdN (2*s.length+1) s with
 | none=>rfl
 | some q =>
  obtain ⟨k,l⟩:=q;cases l with
  | nil=>rfl
  | cons d s2 =>
   have:=x8 _ s k _ e;rw [List.length_cons] at this;show (if d=41 then _ else if d=44 then _ else _)=(if d=41 then _ else if d=44 then _ else _);split
   ·rfl
   ·split
    ·exact (BK _ _).2 _ _ (by omega) (by omega)
    ·rfl
theorem BL:∀(f:Nat),(∀(s:List UInt8) (r:RT) (l:List UInt8),rdN f s=some (r,l)→s=txR r++l∧kA r)∧(∀(ks:List RT) (s:List UInt8) (r:RT) (l:List UInt8),rdK f ks s=some (r,l)→∃k xG,r=.node ByteArray.empty (ks++k::xG)∧s=txR k++txRs xG++41::l∧∀q∈k::xG,kA q)
 | 0=>⟨fun s r l h=>(by rw [rdN] at h;cases h),fun ks s r l h=>(by rw [rdK] at h;cases h)⟩
 | f+1=>by
  obtain ⟨h1,h2⟩:=BL f
  refine ⟨fun s r l h=>?_,fun ks s r l h=>?_⟩
  ·cases s with
   | nil=>rw [rdN] at h;cases h
   | cons c s =>
    rw [rdN] at h
    split at h
    ·rename_i hc
     obtain ⟨k,xG,rfl,h4,h5⟩:=h2 [] s r l h
     refine ⟨?_,FL rfl (by simp) (by simpa using h5)⟩
     rw [List.nil_append,txR,hc,h4];simp
    ·split at h
     ·cases h
     ·rename_i hc hn
      injection h with h
      injection h with h3 h4
      subst h3;subst h4
      refine ⟨by rw [txR,List.take_append_drop],FM ?_ (by simpa using AK (c::s))⟩
      show List.take _ _≠[]
      intro e
      have:=congrArg List.length e
      rw [List.length_take] at this
      have h5:=zy (c::s)
      simp only [List.length_nil] at this
      omega
  ·rw [rdK] at h
   split at h
   ·cases h
   ·cases h
   ·rename_i k d s2 e
    obtain ⟨h3,h4⟩:=h1 s k _ e
    split at h
    ·rename_i hd
     injection h with h
     injection h with h5 h6
     subst h5;subst h6
     exact ⟨k,[],rfl,by rw [h3,hd,txRs];simp,by simpa using h4⟩
    ·split at h
     ·rename_i _ hd
      obtain ⟨k2,xG,rfl,h6,h7⟩:=h2 _ _ _ _ h
      refine ⟨k,k2::xG,by simp,?_,fun q hq=>?_⟩
      ·rw [h3,hd,h6,txRs];simp
      ·rcases List.mem_cons.1 hq with rfl | hq
       ·exact h4
       ·exact h7 q hq
     ·cases h
mutual
theorem FU:∀(r:RT),kA r→∀(d:UInt8) (s:List UInt8),d∈bF→fQ (txR r++d::s)=some (r,d::s)
 | .node nm [],h,d,s,hd=>by
  obtain ⟨_,h1⟩:=h _ (by rw [subR];exact List.mem_cons_self)
  obtain ⟨h1,h2⟩:=h1 rfl
  have h1:nm.data.toList≠[]:=h1
  have h2:∀c∈nm.data.toList,c∉bF:=h2
  rw [txR]
  cases hn:nm.data.toList with
  | nil=>exact absurd hn h1
  | cons c n =>
   rw [hn] at h2
   have hc:c≠40:=fun e=>h2 c (by simp) (by rw [e];decide)
   have hl:=Dm (c::n) d s h2 hd
   rw [List.cons_append] at hl ⊢
   rw [gK _ hc,hl,if_neg (by simp),← List.cons_append,List.take_left,List.drop_left]
   have e:(⟨(c::n).toArray⟩:ByteArray)=nm:=eD (by rw [hn])
   rw [e]
 | .node nm (k::ks),h,d,s,hd=>by
  obtain ⟨h1,_⟩:=h _ (by rw [subR];exact List.mem_cons_self)
  have h1:nm=ByteArray.empty:=FN (h1 (by simp [RT.kids]))
  have e:txR k++txRs ks++[41]++d::s=(txR k++txRs ks)++41::(d::s):=by simp
  rw [txR,List.cons_append,FR,e,h1]
  exact MV (k::ks) (by simp) (fun q hq=>qq h hq) [] (d::s)
theorem MV:∀(qs:List RT),qs≠[]→(∀q∈qs,kA q)→∀(Z:List RT) (s:List UInt8),ru Z ((match qs with | []=>[] | k::ks=>txR k++txRs ks)++41::s)=some (.node ByteArray.empty (Z++qs),s)
 | [],h,_,_,_=>absurd rfl h
 | [k],_,h,Z,s=>by
  show ru Z ((txR k++txRs [])++41::s)=_
  rw [FT,txRs,List.append_nil,FU k (h k (by simp)) 41 s (by decide)]
  rfl
 | k::k2::ks,_,h,Z,s=>by
  have e:(txR k++txRs (k2::ks))++41::s=txR k++44::(txR k2++txRs ks++41::s):=by rw [txRs];simp
  have ih:=MV (k2::ks) (by simp) (fun q hq=>h q (by simp [hq])) (Z++[k]) s
  show ru Z ((txR k++txRs (k2::ks))++41::s)=_
  rw [e,FT,FU k (h k (by simp)) 44 _ (by decide)]
  show (if (44:UInt8)=41 then _ else if (44:UInt8)=44 then ru (Z++[k]) (txR k2++txRs ks++41::s) else none)=_
  rw [if_neg (by decide),if_pos rfl]
  have ih:ru (Z++[k]) (txR k2++txRs ks++41::s)=_:=ih
  rw [ih];simp
end
theorem BM {s:List UInt8} {r:RT}:fQ s=some (r,[59])↔iL s=some r:=by
 constructor
 ·intro h
  obtain ⟨h1,h2⟩:=(BL _).1 s r [59] h;rw [h1];exact tJ h2
 ·intro h
  obtain ⟨h1,h2⟩:=Dl h;rw [h1];exact FU r h2 59 [] (by decide)
theorem FV {s:List UInt8} {r:RT} {l:List UInt8} (h:fQ s=some (r,l)):aL r≤s.length:=by
 obtain ⟨h1,h2⟩:=(BL _).1 s r l h;have:=(x5 r h2).1;rw [h1,List.length_append];omega
end
section
theorem VF {c:UInt8} (h:pE c=true):c∉bF:=fun hm=>by
 simp only [bF,List.mem_cons,List.not_mem_nil,or_false] at hm
 rcases hm with rfl | rfl | rfl | rfl<;>exact absurd h (by decide)
theorem PZ {s:ByteArray} (h:aX s.data.toList=true):s.data.toList≠[]∧∀c∈s.data.toList,c∉bF:=by
 generalize s.data.toList=l at h ⊢;unfold aX at h;have key:∀l:List UInt8,dL l=true→l≠[]∧∀c∈l,c∉bF:=fun l h=>by unfold dL at h;simp only [Bool.and_eq_true,decide_eq_true_eq,List.all_eq_true] at h;exact ⟨fun e=>by rw [e] at h;simp at h,fun c hc=>VF (h.2 c hc)⟩
 by_cases e:l.getLast? = some 42
 ·rw [if_pos e] at h
  simp only [Bool.and_eq_true] at h;obtain ⟨h1,h2⟩:=key _ h.1;have hl:l≠[]:=fun e2=>by subst e2;cases e
  refine ⟨hl,fun c hc=>?_⟩;rw [← List.dropLast_concat_getLast hl,List.mem_append,List.mem_singleton] at hc;rcases hc with hc | hc
  ·exact h2 c hc
  ·rw [List.getLast?_eq_some_getLast hl] at e
   have e:=Option.some.inj e;rw [hc,e];decide
 ·rw [if_neg e] at h;exact key l h
theorem jR.jg {r:RT} (h:jR r):kA r:=fun s hs=>⟨h.CP s hs,fun hk=>PZ (h.lf s hs hk)⟩
section
variable {t:aD}
theorem VG (h:aB t=0):r5 t=txR (iA t)++[59]:=by unfold r5;rw [if_neg (by simp [h])]
theorem FW (h:aB t=0):∀(d j:Nat),j≤d→j<t.ps.length→o6 t.ps 0 j=true
 | d,j,hd,hj=>by
  by_cases h0:j=0
  ·subst h0;exact Fk 0
  ·obtain ⟨_,_,_,hok,_⟩:=aJ h
   have hp:=uC hok hj (by omega)
   rw [uE hok hj (by omega)]
   cases d with
   | zero=>omega
   | succ d=>exact FW h d _ (by omega) (by omega)
theorem Kr (h:aB t=0):(bK (fL t) (cW t) 0).Perm (List.range t.ps.length):=by
 have h0:=(aJ h).1;refine (List.perm_ext_iff_of_nodup (iY (dV h) (fun i _=>tC t i) h0 (Nat.le_refl _)) List.nodup_range).2 fun j=>?_;rw [List.mem_range];constructor
 ·exact gJ h
 ·intro hj
  refine (dN (dV h).wf h0 (Nat.le_refl _)).2 ?_;rw [BJ h _ 0 j (Nat.le_refl _) h0 hj];exact FW h j j (Nat.le_refl _) hj
theorem SZ (h:aB t=0):(cF (iA t)).Perm t.ns:=by
 rw [IZ h];have hl:=(aJ h).2.2.1;have h1:=(Kr h).map (gs t.ns);rw [← hl,PB] at h1;exact h1
theorem Ks (h:aB t=0):(fA (iA t)).Perm (nS t.ns):=(SZ h).filter _
theorem Kt {nm:ByteArray} (h:nm.size≠0):fA (.node nm [])=[nm]:=by
 unfold fA;rw [cF,cN];exact List.filter_eq_self.2 fun x hx=>decide_eq_true (by rw [List.mem_singleton.1 hx];exact h)
theorem Ji:∀a b:List UInt8,Lib.compareBytes a b≤0↔a≤b
 | [],b=>by
  cases b with
  | nil=>simp [Lib.compareBytes]
  | cons y b=>simp [Lib.compareBytes]
 | x::a,[]=>by simp [Lib.compareBytes]
 | x::a,y::b=>by
  rw [Lib.compareBytes,List.cons_le_cons_iff]
  have ih:=Ji a b
  by_cases h1:x<y
  ·simp [h1]
  ·by_cases h2:y<x
   ·have:x≠y:=by rintro rfl;exact h1 h2
    simp [h1,h2,this]
   ·have:x=y:=by
     apply UInt8.toNat.inj
     rw [UInt8.lt_iff_toNat_lt] at h1 h2;omega
    subst this
    simp [ih]
end
end
section
open Go.RowKit Go.Deep
def jV:ByteArray:=⟨#[40,41,44,59]⟩
theorem RH:∀i,(h:i<4)→(jV[i]'h).toNat<128:=by decide +kernel
theorem S0 (j:Nat) {b:UInt8} (h:128≤b.toNat):Lib.indexByte ((jV.extract j 4).data.toList) b = -1:=by
 have key:∀l:List UInt8,b∉l→Lib.indexByte l b = -1:=fun l=>by
  induction l with
  | nil=>intro _;rfl
  | cons a l ih =>
   intro hm;have h1:a≠b:=fun e=>hm (by rw [e];exact List.mem_cons_self);have h2:=ih fun h=>hm (List.mem_cons_of_mem _ h);rw [Lib.indexByte,if_neg (by simpa using h1),h2];rfl
 refine key _ fun hm=>?_;rw [ByteArray.data_extract,Array.toList_extract] at hm;have hm2:b∈jV.data.toList:=List.mem_of_mem_drop (List.mem_of_mem_take hm);have hall:∀x∈jV.data.toList,x.toNat<128:=by decide +kernel
 have:=hall b hm2;omega
def P3 (s:ByteArray):Prop:=∃n:Nat,∃lb:UInt8,∃hs:s.size=n+1,1≤n∧n≤3∧128≤lb.toNat∧s[n]'(by omega)=lb
theorem P5 (r:Int) (h:128≤r):P3 (Utf8.encode r):=by
 obtain ⟨c,hcd⟩:∃c,c=if Utf8.valid r then r.toNat else Utf8.runeError:=⟨_,rfl⟩
 have hc:128≤c:=by
  rw [hcd];split
  ·omega
  ·decide
 have hl:∀c:Nat,128≤(UInt8.ofNat (0x80+c % 64)).toNat:=fun c=>by rw [UInt8.toNat_ofNat'];omega
 by_cases h1:c<0x800
 ·have he:∃b0,Utf8.encode r=⟨#[b0,UInt8.ofNat (0x80+c % 64)]⟩:=by
   unfold Utf8.encode
   simp only [← hcd,if_neg (show ¬c<0x80 by omega),if_pos h1]
   exact ⟨_,rfl⟩
  obtain ⟨b0,he⟩:=he
  rw [he]
  exact ⟨1,_,rfl,by omega,by omega,hl c,rfl⟩
 ·by_cases h2:c<0x10000
  ·have he:∃b0 b1,Utf8.encode r=⟨#[b0,b1,UInt8.ofNat (0x80+c % 64)]⟩:=by
    unfold Utf8.encode
    simp only [← hcd,if_neg (show ¬c<0x80 by omega),if_neg h1,if_pos h2]
    exact ⟨_,_,rfl⟩
   obtain ⟨b0,b1,he⟩:=he
   rw [he]
   exact ⟨2,_,rfl,by omega,by omega,hl c,rfl⟩
  ·have he:∃b0 b1 b2,Utf8.encode r=⟨#[b0,b1,b2,UInt8.ofNat (0x80+c % 64)]⟩:=by
    unfold Utf8.encode
    simp only [← hcd,if_neg (show ¬c<0x80 by omega),if_neg h1,if_neg h2]
    exact ⟨_,_,_,rfl⟩
   obtain ⟨b0,b1,b2,he⟩:=he
   rw [he]
   exact ⟨3,_,rfl,by omega,by omega,hl c,rfl⟩
set_option maxHeartbeats 4000000 in
theorem FX (w:World) (r:Int) (h:128≤r) (h2:r≤2147483647) :
  Calls Tryz.prog 217 #[.string jV,.int .i32 r] w fun e w'=>e=.returned (.int .i64 (-1))∧Up w w':=by
 have d1:decide ((0:Int)≤r)=true:=decide_eq_true (by omega);have d2:decide (r<(128:Int))=false:=decide_eq_false (by omega);have HVR:=aa (fun W=>Go.Proofs.Any.utf8_ValidRune (ρ:=Tryz.idxA_ren) { Tryz.idxA with } r W);by_cases h3:r=65533
 ·have d3:(r==(65533:Int))=true:=by simp [h3]
  clear h3
  go_enter Tryz.func217,Tryz.ntmps217
  go_wp2_with fail
  go_loopg [5,6] 4 (fun g _ _ wx=>∃i:Nat,i+g=4∧wx=w.iter jV i)
  case atStart=>exact ⟨0,rfl,rfl⟩
  case round =>
   obtain ⟨i,hig,rfl⟩:=hrel;cases gk with
   | zero =>
    (obtain rfl:i=4:=by omega);have hnx:=fun ty=>run_next_end (P:=Tryz.prog) w jV 4 ty (by decide);go_wp2_with fail;go_ret;exact ⟨rfl,Up.alloc _ _⟩
   | succ g =>
    (have hi:i<4:=by omega);have hlt:=RH i hi;have hnx:=fun ty=>run_next_ascii (P:=Tryz.prog) w jV i ty hi hlt;generalize (jV[i]'hi).toNat=x at *;(have d4:((x:Int)==65533)=false:=by simp;omega);go_wp2_with fail
    go_roundg g
    case measure=>omega
    case rel=>exact ⟨i+1,by omega,rfl⟩
 ·have d3:(r==(65533:Int))=false:=by simp [h3]
  clear h3;obtain ⟨n,lb,jA,n1,n3,hlb,VH⟩:=P5 r h
  go_enter Tryz.func217,Tryz.ntmps217
  go_wp2_with fail;refine (HVR.out _).mono ?_;rintro e w2 ⟨rfl,rfl⟩;cases hv:Lib.validRune r
  ·go_wp2_with fail
   go_ret;exact ⟨rfl,Up.refl _⟩
  ·go_wp2_with fail
   (have hsz:((Utf8.encode r).size:Int)=(n:Int)+1:=by omega);have hsz0:=hsz;obtain ⟨nd,gI⟩:∃nd,nd=Utf8.encode r:=⟨_,rfl⟩;(have hlt:n<nd.size:=by rw [gI];omega);(have hidx:nd[n]'hlt=lb:=by subst gI;exact VH);rw [← gI] at hsz;(have i3:(n:Int)<(nd.size:Int):=by omega);(have i1:(n:Int)<4:=by omega);(have i2:(0:Int)≤(n:Int):=by omega);(have P6:n<4:=by omega);(have w1:wrap64 (n:Int)=(n:Int):=by unfold wrap64;omega);(have w2a:(n:Int)<(n:Int)+1:=by omega);(have w3a:IntKind.i64.wrap ((n:Int)+1)=(n:Int)+1:=by rw [IntKind.wrap_i64];omega);have w3b:((n:Int)+1).toNat=n+1:=by omega
   (have w3c:(0:Int)≤(n:Int)+1:=by omega);(have w3d:(n:Int)+1≤4:=by omega);obtain ⟨cx,kR⟩:∃cx,cx=jV[n]'P6:=⟨_,rfl⟩;(have hcx1:cx.toNat<128:=by rw [kR];exact RH n P6);(have d5:(((jV[n]'P6).toNat:Int) != (lb.toNat:Int))=true:=by rw [← kR];simp;omega);have Y3:=aa (fun W=>Go.Proofs.Any.strings_IndexByte (ρ:=Tryz.idxA_ren) { Tryz.idxA with } (jV.extract (n+1) 4) (lb.toNat:Int) W);(have hback:((lb.toNat:Int)).toNat.toUInt8=lb:=by simp);rw [hback,S0 (n+1) hlb] at Y3;have hsg:(jV.size:Int)=4:=rfl;have hsg2:jV.size=4:=rfl;have MT:=aa gI;clear VH jA kR gI
   go_step3
   go_wp2_with fail;rw [← MT.out];clear MT
   go_loop [9,10,11,12] (fun i f _ _=>i=.int .i64 n∧f=.int .i64 0) (fun _ _ _ _=>0)
   case atStart=>exact ⟨rfl,rfl⟩
   case round =>
    obtain ⟨rfl,rfl⟩:=hrel;go_wp2_with fail
    go_step3
    go_wp2_with fail;refine dG (by kernel_rfl) 7 (fun _=>True) trivial (fun hS=>?_);simp only [List.size_toArray,List.length_cons,List.length_nil,Nat.reduceAdd,Array.replicate_succ,Array.replicate_zero,List.push_toArray,List.nil_append,List.cons_append];refine af.tk 0 hS ?_;(try simp only [Act.put,ay,az,aA]);refine af.tk 1 hS ?_;(try simp only [Act.put,ay,az,aA]);refine af.tk 2 hS ?_;try simp only [Act.put,ay,az,aA]
    refine af.tk 3 hS ?_;(try simp only [Act.put,ay,az,aA]);refine af.tk 4 hS ?_;(try simp only [Act.put,ay,az,aA]);refine af.tk 5 hS ?_;(try simp only [Act.put,ay,az,aA]);refine af.step (i:=6) rfl (by kernel_rfl) (fun K' hK=>?_);go_simp;refine hK.out _ _ (aM (by kernel_rfl)) (fun hS=>?_);refine af.done (by kernel_rfl) ?_;go_wp2_with fail;refine dG (by kernel_rfl) 9 (fun _=>True) trivial (fun hS=>?_)
    simp only [List.size_toArray,List.length_cons,List.length_nil,Nat.reduceAdd,Array.replicate_succ,Array.replicate_zero,List.push_toArray,List.nil_append,List.cons_append];refine af.tk 0 hS ?_;(try simp only [Act.put,ay,az,aA]);refine af.tk 1 hS ?_;(try simp only [Act.put,ay,az,aA]);refine af.tk 2 hS ?_;(try simp only [Act.put,ay,az,aA]);refine af.tk 3 hS ?_
    (try simp only [Act.put,ay,az,aA]);refine af.tk 4 hS ?_;(try simp only [Act.put,ay,az,aA]);refine af.tk 5 hS ?_;(try simp only [Act.put,ay,az,aA]);refine af.tk 6 hS ?_;(try simp only [Act.put,ay,az,aA]);refine af.step (i:=7) rfl (by kernel_rfl) (fun K' hK=>?_);go_simp;refine (Y3.out _).mono ?_;rintro e w4 ⟨rfl,rfl⟩;refine hK.out _ _ (fun _=>trivial) (fun hS=>?_)
    (try simp only [ay,az,aA]);refine af.step (i:=8) rfl (by kernel_rfl) (fun K' hK=>?_);go_simp;refine hK.out _ _ (aM (by kernel_rfl)) (fun hS=>?_);refine af.done (by kernel_rfl) ?_;go_wp2_with fail;simp +zetaDelta only [Exit.noGoto,Exit.inBlock,Exit.then];refine bodyPost_ret (results_tmp rfl _ _ _) rfl ?_;exact ⟨rfl,(Up.drewN _ 1).trans (Up.drewN _ 1)⟩
end
section
open Go.RowKit Go.Deep
section
variable {P:Program} {ops:Array Oper} {rest:List Oper} {o:Oper} {a:Act} {Q:Exit→Act→World→Prop}
theorem xK (W:World) (hgd:o.guard=none) (s x:Operand) (t:TypeId) (ho:o.op=.call { callee:=.builtin .append,args:=#[s,x],argTypes:=#[t,t] })
  (base:Nat) (e:TypeId) (z:Value) (bytes:Nat) (ht:P.underlying t=some (.slice e)) (hinfo:(P.info? e).map (fun i=>(i.zero,i.size,i.bytes))=some (some z,1,bytes))
  (hz1:z.cells.size=1) (k8:bytes≤64) {v:Value} {vs:List Value} (hown:aF base e W v vs) (hs:a.eval s=v) (u:Value) (m:Nat) (hm:W.heap.size=m)
  (hx:a.eval x=.slice (some ⟨m,0,none⟩) 1 1) (h1:u.oneCell'=true) (k:Nat) (vp:vs.length=k) (hn:k≤1000000) (hbase:base≤W.heap.size)
  (h:∀g cap w',aF base e w' (.slice (some ⟨g,0,none⟩) (k+1) cap) (vs++[u])→W.grownBy w' v.ownBlock→(v.ownBlock=some g∨W.heap.size≤g)→wpList P ops Q rest (a.put o.dst (.slice (some ⟨g,0,none⟩) (k+1) cap)) w') :
  wpList P ops Q (o::rest) a (W.alloc (.cells #[u] e)):=by
 subst hm;exact iF W hgd s x t ho base e z bytes ht hinfo hz1 k8 hown hs u hx h1 k vp hn hbase h
end
end
end Go.Proofs.YthgabkgmkolobaaGreat
