/- What the functions of layers 1 and 31 compute, as plain functions on lists. Plain: the .. -/
import Derived.Test.YtfomhlbhcifgbaaGreatDoorQ1
set_option maxRecDepth 100000

namespace Go.Proofs.YtfomhlbhcifgbaaGreatDoor
section
def gi (l:List Int) (k:Nat):Int:=l.getD k 0
def gs (l:List ByteArray) (k:Nat):ByteArray:=l.getD k ByteArray.empty
def gb (l:List Bool) (k:Nat):Bool:=l.getD k false
def gl (l:List (List Int)) (k:Nat):List Int:=l.getD k []
structure aA where
 ps:List Int
 ns:List ByteArray

theorem T3 (bs:ByteArray):∀(n i:Nat) (r:List UInt8),bs.size - i=n->ByteArray.toList.loop bs i r=r.reverse++bs.data.toList.drop i:=by
 intro n
 induction n with
 | zero =>
  intro i r h;unfold ByteArray.toList.loop;rw [if_neg (by omega),List.drop_of_length_le (by simp;omega)];simp
 | succ n ih =>
  intro i r h;unfold ByteArray.toList.loop;have hi:i<bs.size:=by omega
  rw [if_pos hi,ih (i+1) _ (by omega),List.reverse_cons,cU];congr 1;rw [List.drop_eq_getElem_cons (i:=i) (by simpa using hi),List.singleton_append];congr 1;simp [ByteArray.get!,getElem!_pos,hi]
theorem toList_data (s:ByteArray):s.toList=s.data.toList:=by
 unfold ByteArray.toList;rw [T3 s _ 0 [] rfl];simp
theorem toList_nil (s:ByteArray):s.toList=[]↔s.size=0:=by
 rw [toList_data,<- A3];simp
theorem size_data (s:ByteArray):s.data.toList.length=s.size:=by simp
theorem A7 {a b:ByteArray} (h:a.data.toList=b.data.toList):a=b:=by
 cases a;cases b;simpa using h
def isLet (c:Nat):Bool:=(97<=c&&c<=122) || (65<=c&&c<=90)
def yU (c:Nat):Bool:=c==46 || c==44 || c==59 || c==58 || c==33 || c==63 || c==40 || c==41 || c==45
def sO (c:Nat):Int:=if isLet c then 1 else if c=94\/c=126\/c=37 then 2 else if 48<=c/\c<=57 then 3 else if c=39 then 4 else if c=32 then 6 else if yU c then 5 else 0
def A9 (c:UInt8):Bool:=isLet c.toNat || (48<=c.toNat&&c.toNat<=57)
def nQ (l:List UInt8):Nat:=l.countP A9
def fA (l:List UInt8):Bool:=1<=l.length&&l.length<=16&&l.all A9
def bD (l:List UInt8):Bool:=if l.getLast? = some 42 then fA l.dropLast&&l.length<=16 else fA l

def nR (i:Nat) (p:Int):Bool:=if i=0 then p == -1 else decide (0<=p)&&decide (p<i)
def jt (ps:List Int):Bool:=(List.range ps.length).all fun i=>nR i (gi ps i)
def Dp (ps:List Int) (n i:Nat):Bool:=(List.range n).any fun j=>decide (0<j)&&gi ps j==(i:Int)
def isIn (ps:List Int) (i:Nat):Bool:=Dp ps ps.length i
def fO (ns:List ByteArray) (i:Nat):Bool:=(List.range i).any fun j=>decide (gs ns j=gs ns i)
def mj (ps:List Int) (ns:List ByteArray) (i:Nat):Int :=
 if isIn ps i then (if (gs ns i).size=0 then 0 else 14) else if bD (gs ns i).data.toList then (if fO ns i then 7 else 0) else 14
def dP (f:Nat->Int):Nat->Int
 | 0=>0
 | n+1=>if dP f n=0 then f n else dP f n
def aF (t:aA):Int :=
 if t.ps.length=0 then 5 else if 64<t.ps.length then 4 else if t.ns.length≠t.ps.length then 9
 else if jt t.ps then dP (mj t.ps t.ns) t.ps.length else 2
def aq (ns:List ByteArray):List Int:=((List.range ns.length).filter fun i=>(gs ns i).size≠0).map fun (i:Nat)=>(i:Int)

theorem fT {f:Nat->Int}:∀ {n:Nat},(∀j,j<n->f j=0)->dP f n=0
 | 0,_=>rfl
 | n+1,h=>by
  unfold dP
  rw [if_pos (fT fun j hj=>h j (by omega))];exact h n (by omega)
theorem iP {f:Nat->Int} {k:Nat}:∀ {n:Nat},k<n->(∀j,j<k->f j=0)->f k≠0->dP f n=f k
 | 0,h,_,_=>absurd h (cz _)
 | n+1,hk,h,hne=>by
  unfold dP
  by_cases e:k=n
  ·subst e;rw [if_pos (fT h)]
  ·rw [iP (by omega) h hne,if_neg hne]
theorem kD {f:Nat->Int}:∀ {n:Nat},dP f n=0->∀j,j<n->f j=0
 | 0,_,j,hj=>absurd hj (cz _)
 | n+1,h,j,hj=>by
  unfold dP at h
  split at h
  ·rename_i h0
   by_cases e:j=n
   ·subst e;exact h
   ·exact kD h0 j (by omega)
  ·rename_i h0;exact absurd h h0
theorem E9 (ps:List Int) (n i:Nat):Dp ps (n+1) i=(Dp ps n i || (decide (0<n)&&gi ps n==(i:Int))):=by
 simp [Dp,List.range_succ,List.any_append]
theorem PD {ps:List Int} {k:Nat} (hk:k<ps.length) (h:nR k (gi ps k)=false):jt ps=false:=by
 rw [ve];intro e;have:=sF.1 e k (bX.2 hk);simp [h] at this
theorem Fa {ps:List Int} (h:∀j,j<ps.length->nR j (gi ps j)=true):jt ps=true :=
 sF.2 fun j hj=>h j (bX.1 hj)
theorem Cu {ps:List Int} (h:jt ps=true) {j:Nat} (hj:j<ps.length):nR j (gi ps j)=true :=
 sF.1 h j (bX.2 hj)
def bZ (p:Nat->Bool):Nat->Int
 | 0=>-1
 | n+1=>if bZ p n = -1 then (if p n then (n:Int) else -1) else bZ p n
theorem kT (p:Nat->Bool) (n:Nat):bZ p (n+1)=if bZ p n = -1 then (if p n then (n:Int) else -1) else bZ p n:=rfl
theorem gY {p:Nat->Bool}:∀ {n:Nat},(∀j,j<n->p j=false)->bZ p n = -1
 | 0,_=>rfl
 | n+1,h=>by
  rw [kT,if_pos (gY fun j hj=>h j (by omega)),h n (by omega)];rfl
theorem jR {p:Nat->Bool} {k:Nat}:∀ {n:Nat},k<n->(∀j,j<k->p j=false)->p k=true->bZ p n=k
 | 0,h,_,_=>absurd h (cz _)
 | n+1,hk,h,hp=>by
  rw [kT]
  by_cases e:k=n
  ·subst e;rw [if_pos (gY h),hp];rfl
  ·rw [jR (by omega) h hp,if_neg (by omega)]
theorem vA (p:Nat->Bool) (n:Nat):-1<=bZ p n/\bZ p n<n/\(bZ p n = -1\/0<=bZ p n):=by
 induction n with
 | zero=>simp [bZ]
 | succ n ih=>rw [kT];split<;>(try split)<;>omega
theorem gO (p:Nat->Bool) (n:Nat):decide (0<=bZ p n)=(List.range n).any p:=by
 induction n with
 | zero=>simp [bZ]
 | succ n ih =>
  have hl:=vA p n
  rw [sL,List.any_append,<- ih,kT]
  by_cases h:bZ p n = -1
  ·rw [if_pos h,h];cases hp:p n<;>simp [hp]
  ·rw [if_neg h];have:0<=bZ p n:=by omega
   simp [this]
theorem ru {p:Nat->Bool} {n k:Nat} (h:bZ p n=k):k<n/\p k=true/\∀j,j<k->p j=false:=by
 induction n with
 | zero=>simp [bZ] at h
 | succ n ih =>
  rw [kT] at h
  by_cases h1:bZ p n = -1
  ·rw [if_pos h1] at h
   by_cases hp:p n=true
   ·rw [if_pos hp] at h
    obtain rfl:n=k:=by omega
    refine ⟨by omega,hp,fun j hj=>?_⟩
    cases hq:p j with
    | false=>rfl
    | true =>
     exfalso
     have:=gO p n
     rw [h1] at this
     have h2:(List.range n).any p=true:=cR.2 ⟨j,bX.2 hj,hq⟩
     rw [h2] at this;simp at this
   ·rw [if_neg hp] at h;omega
  ·rw [if_neg h1] at h
   have:=ih h
   exact ⟨by omega,this.2⟩
end
section
def oJ (ns:List ByteArray) (k:Nat):List Int:=((List.range k).filter fun i=>(gs ns i).size≠0).map fun (i:Nat)=>(i:Int)
theorem Fb (ns:List ByteArray) (k:Nat):oJ ns (k+1)=oJ ns k++(if (gs ns k).size=0 then [] else [(k:Int)]):=by
 unfold oJ;rw [sL,o8,cm];congr 1;by_cases h:(gs ns k).size=0
 ·have h2:decide ((gs ns k).size≠0)=false:=by rw [decide_eq_false_iff_not];exact fun e=>e h
  rw [if_pos h];simp only [List.filter_cons,h2,List.filter_nil];rfl
 ·have h2:decide ((gs ns k).size≠0)=true:=by rw [decide_eq_true_eq];exact h
  rw [if_neg h];simp only [List.filter_cons,h2,List.filter_nil];rfl
theorem I8 (ns:List ByteArray) (k:Nat):(oJ ns k).length<=k:=by
 unfold oJ;rw [aD];exact aV (mP _ _) (by simp)
end
section
def dR (ps:List Int) (n k:Nat):List Nat:=(List.range k).filter fun i=>decide (n<i)&&gi ps i==(n:Int)
def eX (ps:List Int) (n:Nat):List Nat:=dR ps n ps.length
theorem lQ (ps:List Int) (n k:Nat):dR ps n (k+1)=dR ps n k++(if n<k/\gi ps k=n then [k] else []):=by
 unfold dR;rw [sL,o8];congr 1;by_cases h:n<k/\gi ps k=n
 ·rw [if_pos h];simp [h.1,h.2]
 ·rw [if_neg h]
  have:(decide (n<k)&&gi ps k==(n:Int))=false:=by rw [ve];intro e;apply h;simpa using e
  simp [this]
theorem I9 (ps:List Int) (n:Nat):dR ps n (n+1)=[]:=by
 unfold dR;rw [List.filter_eq_nil_iff];intro a ha;have:=bX.1 ha;simp;omega
theorem xw (ps:List Int) (n k:Nat):(dR ps n k).length<=k:=by
 unfold dR;exact aV (mP _ _) (by simp)
theorem gP {ps:List Int} {n i:Nat}:i∈eX ps n↔i<ps.length/\n<i/\gi ps i=n:=by
 unfold eX dR;rw [nO,bX];simp
theorem pR {ps:List Int} (h:jt ps=true) (n:Nat):eX ps n≠[]↔isIn ps n=true:=by
 constructor
 ·intro hne
  obtain ⟨i,hi⟩:=List.exists_mem_of_ne_nil _ hne;obtain ⟨h1,h2,h3⟩:=gP.1 hi;exact cR.2 ⟨i,bX.2 h1,by simp [h3];omega⟩
 ·intro hin
  obtain ⟨i,hi,h2⟩:=cR.1 hin;have hi:=bX.1 hi;simp at h2;have:=Cu h hi;unfold nR at this;rw [if_neg (by omega)] at this;simp at this;exact List.ne_nil_of_mem (gP.2 ⟨hi,by omega,h2.2⟩)
end
section
def iQ (st:List Int) (least most:Int):Bool:=(List.range st.length).any fun k=>decide (gi st k<least) || decide (most<=gi st k)
def mV (st:List Int) (n:Nat) (least most:Int):Int:=if st.length≠n then 9 else if iQ st least most then 2 else 0
def KQ (a b:Nat) (c:Int):Bool:=decide (c<0) || decide (1000<c) || (decide (a=b)&&decide (c≠0))
def Vi (a:Nat) (row:List Int) (k:Nat):Bool:=(List.range k).any fun b=>KQ a b (gi row b)
def JD (cs:List (List Int)) (k:Nat):Bool:=(List.range k).any fun a=>Vi a (gl cs a) (gl cs a).length
def Ma (cs:List (List Int)):Bool:=(List.range cs.length).any fun a=>decide ((gl cs a).length≠cs.length)
def nS (cs:List (List Int)):Int:=if cs.length=0 then 5 else if 16<cs.length then 4 else if Ma cs then 9 else if JD cs cs.length then 2 else 0
theorem any_none {p:Nat->Bool} {n:Nat} (h:∀j,j<n->p j=false):(List.range n).any p=false:=by
 rw [ve];intro e;obtain ⟨j,hj,hp⟩:=cR.1 e;rw [h j (bX.1 hj)] at hp;cases hp
theorem uo {p:Nat->Bool} {n k:Nat} (hk:k<n) (hp:p k=true):(List.range n).any p=true:=cR.2 ⟨k,bX.2 hk,hp⟩
theorem any_false {p:Nat->Bool} {n:Nat} (h:(List.range n).any p=false) {k:Nat} (hk:k<n):p k=false:=by
 cases e:p k with
 | false=>rfl
 | true=>rw [uo hk e] at h;cases h
def gZ (t:aA) (st:List Int) (cs:List (List Int)):Int :=
 if aF t≠0 then 1 else if nS cs≠0 then nS cs else mV st (aq t.ns).length (-1) cs.length
end
section
def bw (c row:Nat->Int):Nat->Int×Int
 | 0=>(-1,0)
 | k+1=>if row k<0 then bw c row k else if (bw c row k).1<0\/c k+row k<(bw c row k).1 then (c k+row k,(k:Int)) else bw c row k
theorem lR (c row:Nat->Int) (k:Nat):bw c row (k+1)=if row k<0 then bw c row k else if (bw c row k).1<0\/c k+row k<(bw c row k).1 then (c k+row k,(k:Int)) else bw c row k:=rfl
theorem Fc {c row:Nat->Int} {A:Int} (hA:0<=A) (hc:∀k,0<=c k/\c k<=1000) (hr:∀k,row k<=A) (k:Nat):-1<=(bw c row k).1/\(bw c row k).1<=A+1000:=by
 induction k with
 | zero=>simp [bw];omega
 | succ k ih =>
  rw [lR]
  have:=hc k;have:=hr k
  split
  ·exact ih
  ·split
   ·simp;omega
   ·exact ih
end
section
def aY (f:Nat->Int):Nat->Int
 | 0=>0
 | n+1=>aY f n+f n
theorem dS (f:Nat->Int) (n:Nat):aY f (n+1)=aY f n+f n:=rfl
theorem bS {f g:Nat->Int}:∀ {n:Nat},(∀c,c<n->f c=g c)->aY f n=aY g n
 | 0,_=>rfl
 | n+1,h=>by rw [dS,dS,bS fun c hc=>h c (by omega),h n (by omega)]
theorem kU (f g:Nat->Int):∀n:Nat,aY (fun c=>f c+g c) n=aY f n+aY g n
 | 0=>rfl
 | n+1=>by rw [dS,dS,dS,kU f g n];omega
theorem kV {f g:Nat->Int}:∀ {n:Nat},(∀c,c<n->f c<=g c)->aY f n<=aY g n
 | 0,_=>jN _
 | n+1,h=>by
  rw [dS,dS]
  have:=kV (f:=f) (g:=g) (n:=n) fun c hc=>h c (by omega)
  have:=h n (by omega);omega
theorem kW:∀n:Nat,aY (fun _=>0) n=0
 | 0=>rfl
 | n+1=>by rw [dS,kW n];rfl
theorem mz {f:Nat->Int} {n:Nat} (h:∀c,c<n->0<=f c):0<=aY f n:=by
 have:=kV (f:=fun _=>0) (g:=f) (n:=n) h;rw [kW] at this;exact this
theorem ry (k:Nat) (x:Int):∀n:Nat,aY (fun c=>if c=k then x else 0) n=if k<n then x else 0
 | 0=>rfl
 | n+1=>by
  rw [dS,ry k x n]
  by_cases h:n=k
  ·subst h;simp
  ·by_cases h2:k<n
   ·simp [h,h2];omega
   ·simp [h,h2];omega
theorem xx (ps:List Int) (i:Nat) (g:Nat->Int):∀n:Nat,((dR ps i n).map g).sum=aY (fun c=>if i<c/\gi ps c=i then g c else 0) n
 | 0=>rfl
 | n+1=>by
  rw [lQ,cm,List.sum_append,xx ps i g n,dS]
  split<;>simp
def tO (n m:Nat) (par own:Nat->Int) (cost:Nat->Nat->Int) (look:Nat->Nat->Int) (i s:Nat):Int :=
 (if 0<=own i/\own i≠s then -1 else 0)+aY (fun c=>if i<c/\par c=i then (bw (cost s) (look c) m).1 else 0) n
def KR (n m:Nat) (par own:Nat->Int) (cost:Nat->Nat->Int):Nat->Nat->Nat->Int
 | 0=>fun _ _=>0
 | d+1=>tO n m par own cost (KR n m par own cost d)
def tab (n m:Nat) (par own:Nat->Int) (cost:Nat->Nat->Int) (i s:Nat):Int:=KR n m par own cost n i s
theorem mA {c c' r r':Nat->Int}:∀ {k:Nat},(∀j,j<k->c j=c' j)->(∀j,j<k->r j=r' j)->bw c r k=bw c' r' k
 | 0,_,_=>rfl
 | k+1,h1,h2=>by
  rw [lR,lR,mA (fun j hj=>h1 j (by omega)) (fun j hj=>h2 j (by omega)),h1 k (by omega),h2 k (by omega)]
section
variable {n m:Nat} {par own:Nat->Int} {cost:Nat->Nat->Int}
theorem Dq:∀ {d e i:Nat},n<=i+d->n<=i+e->i<n->∀s,KR n m par own cost d i s=KR n m par own cost e i s
 | 0,_,_,h,_,hi,_=>by omega
 | _,0,_,_,h,hi,_=>by omega
 | d+1,e+1,i,h1,h2,hi,s=>by
  show tO _ _ _ _ _ _ _ _=tO _ _ _ _ _ _ _ _
  unfold tO
  congr 1
  refine bS fun c hc=>?_
  split
  ·rename_i hk
   rw [mA (fun _ _=>rfl) fun j _=>Dq (d:=d) (e:=e) (by omega) (by omega) hc j]
  ·rfl
theorem Ba {i:Nat} (hi:i<n) (s:Nat):tab n m par own cost i s=tO n m par own cost (tab n m par own cost) i s:=by
 unfold tab;obtain ⟨d,rfl⟩:∃d,n=d+1:=⟨n - 1,by omega⟩;show tO _ _ _ _ _ _ _ _=_;unfold tO;congr 1;refine bS fun c hc=>?_;split
 ·rename_i hk
  rw [mA (fun _ _=>rfl) fun j _=>Dq (d:=d) (e:=d+1) (by omega) (by omega) hc j]
 ·rfl
structure PE (n m:Nat) (par own:Nat->Int) (cost:Nat->Nat->Int):Prop where
 m1:0<m
 PF:∀c,0<c->c<n->0<=par c
 Bb:∀c,c<n->par c<c
 PG:∀i,i<n -> -1<=own i/\own i<m
 E0:∀a b,a<m->b<m->0<=cost a b/\cost a b<=1000
 leaf:∀i c,c<n->i<c->par c=i->own i = -1
theorem qM {c row:Nat->Int} {A:Int} (hA:0<=A):∀ {k:Nat},(∀j,j<k->0<=c j/\c j<=1000)->(∀j,j<k->row j<=A) ->
  ((bw c row k).1 = -1/\(∀j,j<k->row j<0)) \/
  (∃o:Nat,(bw c row k).2=o/\o<k/\0<=row o/\(bw c row k).1=c o+row o/\(∀j,j<k->0<=row j->(bw c row k).1<=c j+row j)/\(∀j,j<o->0<=row j->(bw c row k).1<c j+row j))
 | 0,_,_=>.inl ⟨rfl,fun j hj=>absurd hj (cz _)⟩
 | k+1,hc,hr=>by
  have ih:=qM (c:=c) (row:=row) hA (k:=k) (fun j hj=>hc j (by omega)) fun j hj=>hr j (by omega)
  have sP:=hc k (by omega)
  rw [lR]
  by_cases h0:row k<0
  ·rw [if_pos h0]
   rcases ih with ⟨h1,h2⟩ | ⟨o,h1,h2,h3,h4,h5,h6⟩
   ·exact .inl ⟨h1,fun j hj=>if e:j=k then e ▸ h0 else h2 j (by omega)⟩
   ·refine .inr ⟨o,h1,by omega,h3,h4,fun j hj hj0=>?_,h6⟩
    by_cases e:j=k
    ·subst e;omega
    ·exact h5 j (by omega) hj0
  ·rw [if_neg h0]
   rcases ih with ⟨h1,h2⟩ | ⟨o,h1,h2,h3,h4,h5,h6⟩
   ·rw [if_pos (.inl (by omega))]
    refine .inr ⟨k,rfl,by omega,by omega,rfl,fun j hj hj0=>?_,fun j hj hj0=>?_⟩
    ·by_cases e:j=k
     ·subst e;exact jN _
     ·have:=h2 j (by omega);omega
    ·have:=h2 j (by omega);omega
   ·have ho:=hc o (by omega)
    by_cases hlt:c k+row k<(bw c row k).1
    ·rw [if_pos (.inr hlt)]
     refine .inr ⟨k,rfl,by omega,by omega,rfl,fun j hj hj0=>?_,fun j hj hj0=>?_⟩
     ·by_cases e:j=k
      ·subst e;exact jN _
      ·have:=h5 j (by omega) hj0;simp only;omega
     ·have:=h5 j (by omega) hj0;simp only;omega
    ·rw [if_neg (by intro h;omega)]
     refine .inr ⟨o,h1,by omega,h3,h4,fun j hj hj0=>?_,h6⟩
     by_cases e:j=k
     ·subst e;omega
     ·exact h5 j (by omega) hj0
end
end
section
section
variable {n m:Nat} {par own:Nat->Int} {cost:Nat->Nat->Int}
def uF (n:Nat) (par:Nat->Int):Nat->Nat->Int
 | 0,_=>0
 | d+1,i=>aY (fun c=>if i<c/\par c=i then uF n par d c+1000 else 0) n
def ub (n:Nat) (par:Nat->Int) (i:Nat):Int:=uF n par n i
theorem JE:∀ {d e i:Nat},n<=i+d->n<=i+e->i<n->uF n par d i=uF n par e i
 | 0,_,_,h,_,hi=>by omega
 | _,0,_,_,h,hi=>by omega
 | d+1,e+1,i,h1,h2,hi=>by
  show aY _ _=aY _ _
  refine bS fun c hc=>?_
  split
  ·rename_i hk
   rw [JE (d:=d) (e:=e) (by omega) (by omega) hc]
  ·rfl
theorem Su {i:Nat} (hi:i<n):ub n par i=aY (fun c=>if i<c/\par c=i then ub n par c+1000 else 0) n:=by
 unfold ub;obtain ⟨d,rfl⟩:∃d,n=d+1:=⟨n - 1,by omega⟩;show aY _ _=_;refine bS fun c hc=>?_;split
 ·rename_i hk
  rw [JE (d:=d) (e:=d+1) (by omega) (by omega) hc]
 ·rfl
theorem Mb (d:Nat):∀i:Nat,0<=uF n par d i:=by
 induction d with
 | zero=>intro i;exact jN _
 | succ d ih =>
  intro i
  exact mz fun c _=>by
   have:=ih c
   split<;>omega
theorem xy (i:Nat):0<=ub n par i:=Mb _ _
def Bc (n:Nat) (par:Nat->Int) (k:Nat):Int:=aY (fun c=>if k<=c/\par c<k then ub n par c+1000 else 0) n
theorem PI (h:∀c,c<n->par c<c) {k:Nat} (hk:k<n):Bc n par k=Bc n par (k+1)+1000:=by
 have h1:Bc n par k=aY (fun c=>if k+1<=c/\par c<k then ub n par c+1000 else 0) n+aY (fun c=>if c=k then ub n par k+1000 else 0) n:=by
  rw [<- kU];unfold Bc;refine bS fun c hc=>?_;by_cases e:c=k
  ·subst e
   have:=h c hc;rw [if_pos ⟨aj _,this⟩,if_neg (by omega),if_pos rfl];omega
  ·by_cases h2:k<=c/\par c<k
   ·rw [if_pos h2,if_pos ⟨by omega,h2.2⟩,if_neg e];omega
   ·rw [if_neg h2,if_neg (fun h3=>h2 ⟨by omega,h3.2⟩),if_neg e];rfl
 have h2:Bc n par (k+1)=aY (fun c=>if k+1<=c/\par c<k then ub n par c+1000 else 0) n+aY (fun c=>if k<c/\par c=k then ub n par c+1000 else 0) n:=by
  rw [<- kU];unfold Bc;refine bS fun c _=>?_;by_cases h3:k+1<=c
  ·by_cases h4:par c=k
   ·rw [if_pos ⟨h3,by omega⟩,if_neg (by omega),if_pos ⟨h3,h4⟩];omega
   ·by_cases h5:par c<k
    ·rw [if_pos ⟨h3,by omega⟩,if_pos ⟨h3,h5⟩,if_neg (fun h=>h4 h.2)];omega
    ·rw [if_neg (by omega),if_neg (fun h=>h5 h.2),if_neg (fun h=>h4 h.2)];rfl
  ·rw [if_neg (fun h=>h3 h.1),if_neg (fun h=>h3 h.1),if_neg (fun h=>h3 (by omega))];rfl
 rw [ry,if_pos hk] at h1;rw [<- Su hk] at h2;omega
theorem Mc (h:∀c,c<n->par c<c):∀ {d k:Nat},k+d=n->Bc n par k=1000*(d:Int)
 | 0,k,e=>by
  have:Bc n par k=aY (fun _=>0) n:=bS fun c hc=>by rw [if_neg (by omega)]
  rw [this,kW];rfl
 | d+1,k,e=>by
  rw [PI h (by omega),Mc h (d:=d) (k:=k+1) (by omega)];omega
theorem JF {f:Nat->Int}:∀ {n k:Nat},(∀c,c<n->0<=f c)->k<n->f k<=aY f n
 | 0,_,_,h=>absurd h (cz _)
 | n+1,k,h,hk=>by
  rw [dS]
  by_cases e:k=n
  ·subst e;have:=mz (f:=f) (n:=k) fun c hc=>h c (by omega);omega
  ·have:=JF (f:=f) (n:=n) (k:=k) (fun c hc=>h c (by omega)) (by omega)
   have:=h n (by omega);omega
theorem Sv (h:∀c,c<n->par c<c) {k:Nat} (hk:k<n):ub n par k+1000<=1000*((n - k:Nat):Int):=by
 have h1:=Mc h (d:=n - k) (k:=k) (by omega)
 have h2:=JF (f:=fun c=>if k<=c/\par c<k then ub n par c+1000 else 0) (n:=n) (k:=k) (fun c _=>by
  have:=xy (n:=n) (par:=par) c;show 0<=(if k<=c/\par c<k then ub n par c+1000 else 0)
  split<;>omega) hk
 rw [if_pos ⟨aj _,h k hk⟩] at h2;unfold Bc at h1;omega
theorem uq (F:PE n m par own cost):∀ {d i:Nat},n<=i+d->i<n ->
  (∀s,s<m -> -1<=tab n m par own cost i s/\tab n m par own cost i s<=ub n par i)/\(∃s,s<m/\0<=tab n m par own cost i s) /\
  (own i = -1->∀s,s<m->0<=tab n m par own cost i s)/\(0<=own i->∀s,s<m->tab n m par own cost i s=if own i=s then 0 else -1)
 | 0,i,h,hi=>by omega
 | d+1,i,h,hi=>by
  have Vj:∀s,s<m->∀c,c<n->i<c->0<=(bw (cost s) (tab n m par own cost c) m).1/\(bw (cost s) (tab n m par own cost c) m).1<=ub n par c+1000:=by
   intro s hs c hc hic
   obtain ⟨h1,⟨j,hj,hj0⟩,_⟩:=uq F (d:=d) (i:=c) (by omega) hc
   rcases qM (c:=cost s) (row:=tab n m par own cost c) (A:=ub n par c) (xy _) (k:=m) (fun j hj=>F.E0 s j hs hj) (fun j hj=>(h1 j hj).2) with ⟨_,h3⟩ | ⟨o,_,ho,ho0,h4,h5,_⟩
   ·have:=h3 j hj;omega
   ·have:=h5 j hj hj0
    have:=(h1 j hj).2
    have:=F.E0 s j hs hj
    have:=F.E0 s o hs ho
    constructor<;>omega
  have hsum:∀s,s<m->0<=aY (fun c=>if i<c/\par c=i then (bw (cost s) (tab n m par own cost c) m).1 else 0) n/\aY (fun c=>if i<c/\par c=i then (bw (cost s) (tab n m par own cost c) m).1 else 0) n<=ub n par i:=by
   intro s hs
   constructor
   ·exact mz fun c hc=>by
     split
     ·rename_i h2;exact (Vj s hs c hc h2.1).1
     ·exact jN _
   ·rw [Su hi]
    exact kV fun c hc=>by
     split
     ·rename_i h2;exact (Vj s hs c hc h2.1).2
     ·exact jN _
  have heq:∀s,tab n m par own cost i s=(if 0<=own i/\own i≠s then -1 else 0)+aY (fun c=>if i<c/\par c=i then (bw (cost s) (tab n m par own cost c) m).1 else 0) n:=fun s=>Ba hi s
  have hub:=xy (n:=n) (par:=par) i
  have ho:=F.PG i hi
  refine ⟨fun s hs=>?_,?_,fun h0 s hs=>?_,fun h0 s hs=>?_⟩
  ·rw [heq s];have:=hsum s hs;split<;>omega
  ·by_cases h0:0<=own i
   ·refine ⟨(own i).toNat,by omega,?_⟩
    rw [heq,if_neg (by omega)];have:=hsum (own i).toNat (by omega);omega
   ·refine ⟨0,F.m1,?_⟩
    rw [heq,if_neg (by omega)];have:=hsum 0 F.m1;omega
  ·rw [heq,if_neg (by omega)];have:=hsum s hs;omega
  ·have hz:aY (fun c=>if i<c/\par c=i then (bw (cost s) (tab n m par own cost c) m).1 else 0) n=0:=by
    refine (bS (g:=fun _=>0) fun c hc=>?_).trans (kW n)
    rw [if_neg];intro h2;have:=F.leaf i c hc h2.1 h2.2;omega
   rw [heq,hz]
   by_cases e:own i=s
   ·rw [if_neg (fun h=>h.2 e),if_pos e];rfl
   ·rw [if_pos ⟨h0,e⟩,if_neg e];rfl
end
end
section
def fh (ns:List ByteArray) (i:Nat):Int:=bZ (fun j=>decide ((i:Int)=gi (aq ns) j)) (aq ns).length
def ig (ns:List ByteArray) (st:List Int) (i:Nat):Int:=if 0<=fh ns i then gi st (fh ns i).toNat else -1
def kE (cs:List (List Int)) (a b:Nat):Int:=gi (gl cs a) b
def gz (t:aA) (st:List Int) (cs:List (List Int)) (i s:Nat):Int:=tab t.ps.length cs.length (gi t.ps) (ig t.ns st) (kE cs) i s
def aR (t:aA) (st:List Int) (cs:List (List Int)) (i:Nat):List Int:=(List.range cs.length).map (gz t st cs i)
theorem gJ (t:aA) (st:List Int) (cs:List (List Int)) (i:Nat):(aR t st cs i).length=cs.length:=by simp [aR]
theorem fU (t:aA) (st:List Int) (cs:List (List Int)) (i:Nat) {s:Nat} (hs:s<cs.length):gi (aR t st cs i) s=gz t st cs i s:=by
 simp [gi,aR,hs]
def kX (t:aA) (st:List Int) (cs:List (List Int)) (s c:Nat):Int:=(bw (gi (gl cs s)) (gi (aR t st cs c)) (aR t st cs c).length).1
theorem T4 (t:aA) (st:List Int) (cs:List (List Int)) (s c:Nat):kX t st cs s c=(bw (kE cs s) (gz t st cs c) cs.length).1:=by
 unfold kX;rw [gJ];have h:bw (gi (gl cs s)) (gi (aR t st cs c)) cs.length=bw (kE cs s) (gz t st cs c) cs.length:=mA (fun _ _=>rfl) fun j hj=>fU t st cs c hj;rw [h]
def fk (t:aA) (st:List Int) (i s:Nat):Int:=if 0<=ig t.ns st i/\ig t.ns st i≠s then -1 else 0
theorem T5 (t:aA) (st:List Int) (cs:List (List Int)) {i:Nat} (hi:i<t.ps.length) (s:Nat):gz t st cs i s=fk t st i s+((eX t.ps i).map (kX t st cs s)).sum:=by
 unfold gz;rw [Ba hi];unfold tO eX;rw [xx];show fk t st i s+_=_;congr 1;exact bS fun c _=>by
  split
  ·exact (T4 t st cs s c).symm
  ·rfl
end
section
theorem Ja {t:aA} {st:List Int} {cs:List (List Int)} (h:gZ t st cs=0):aF t=0/\nS cs=0/\mV st (aq t.ns).length (-1) cs.length=0:=by
 unfold gZ at h;by_cases h1:aF t=0
 ·rw [if_neg (fun e=>e h1)] at h
  by_cases h2:nS cs=0
  ·rw [if_neg (fun e=>e h2)] at h;exact ⟨h1,h2,h⟩
  ·rw [if_pos h2] at h;exact absurd h h2
 ·rw [if_pos h1] at h;cases h
theorem aG {t:aA} (h:aF t=0):0<t.ps.length/\t.ps.length<=64/\t.ns.length=t.ps.length/\jt t.ps=true/\∀i,i<t.ps.length->mj t.ps t.ns i=0:=by
 unfold aF at h;split at h
 ·cases h
 ·split at h
  ·cases h
  ·split at h
   ·cases h
   ·split at h
    ·exact ⟨by omega,by omega,by omega,‹_›,kD h⟩
    ·cases h
theorem tP {cs:List (List Int)} (h:nS cs=0):0<cs.length/\cs.length<=16/\(∀a,a<cs.length->(gl cs a).length=cs.length)/\(∀a k,0<=gi (gl cs a) k/\gi (gl cs a) k<=1000)/\∀a,a<cs.length->gi (gl cs a) a=0:=by
 unfold nS at h;split at h
 ·cases h
 ·split at h
  ·cases h
  ·split at h
   ·cases h
   ·rename_i hl
    split at h
    ·cases h
    ·rename_i hm
     (have hl2:Ma cs=false:=by simpa using hl);(have hm2:JD cs cs.length=false:=by simpa using hm);(have hlen:∀a,a<cs.length->(gl cs a).length=cs.length:=fun a ha=>by have:=any_false hl2 ha;simpa using this);have xz:∀a b,a<cs.length->b<(gl cs a).length->KQ a b (gi (gl cs a) b)=false:=fun a b ha hb=>any_false (any_false hm2 ha) hb;refine ⟨by omega,by omega,hlen,fun a k=>?_,fun a ha=>?_⟩
     ·by_cases ha:a<cs.length
      ·by_cases hk:k<(gl cs a).length
       ·have:=xz a k ha hk
        simp [KQ] at this;omega
       ·have:gi (gl cs a) k=0:=by simp [gi,List.getElem?_eq_none (by omega:(gl cs a).length<=k)]
        omega
      ·have:gl cs a=[]:=by simp [gl,List.getElem?_eq_none (by omega:cs.length<=a)]
       rw [this];simp [gi]
     ·have:=xz a a ha (by rw [hlen a ha];exact ha)
      simp [KQ] at this;exact this.2
theorem tQ {ns:List ByteArray} {x:Int}:x∈aq ns↔∃i:Nat,x=i/\i<ns.length/\(gs ns i).size≠0:=by
 unfold aq;rw [ek];constructor
 ·rintro ⟨i,hi,rfl⟩
  rw [nO,bX] at hi;exact ⟨i,rfl,hi.1,by simpa using hi.2⟩
 ·rintro ⟨i,rfl,h1,h2⟩
  exact ⟨i,by rw [nO,bX];exact ⟨h1,by simpa using h2⟩,rfl⟩
theorem tR (ns:List ByteArray):(aq ns).length<=ns.length:=by
 unfold aq;rw [aD];exact aV (mP _ _) (by simp)
theorem ur {l:List Int} {k:Nat} (h:k<l.length):gi l k∈l:=by simp [gi,h]
theorem pU {ns:List ByteArray} {i:Nat} (h:0<=fh ns i):(fh ns i).toNat<(aq ns).length/\gi (aq ns) (fh ns i).toNat=i:=by
 unfold fh at h ⊢;generalize hx:bZ (fun j=>decide ((i:Int)=gi (aq ns) j)) (aq ns).length=x at *;obtain ⟨k,rfl⟩:=o7 h;have:=ru hx;rw [ei];exact ⟨this.1,by have:=this.2.1;simpa using (of_decide_eq_true this).symm⟩
structure Valid (t:aA) (st:List Int) (cs:List (List Int)):Prop where
 tree:aF t=0
 Sw:nS cs=0
 len:st.length=(aq t.ns).length
 good:iQ st (-1) cs.length=false
theorem Fe {t:aA} {st:List Int} {cs:List (List Int)} (h:gZ t st cs=0):Valid t st cs:=by
 obtain ⟨h1,h2,h3⟩:=Ja h;unfold mV at h3;split at h3
 ·cases h3
 ·split at h3
  ·cases h3
  ·exact ⟨h1,h2,by omega,by simpa using ‹¬iQ st (-1) cs.length=true›⟩
theorem Valid.par {t:aA} {st:List Int} {cs:List (List Int)} (h:Valid t st cs):gZ t st cs=0:=by
 unfold gZ mV;rw [if_neg (fun e=>e h.tree),if_neg (fun e=>e h.Sw),if_neg (fun e=>e h.len),h.good];rfl
theorem pV {ps:List Int} (h:jt ps=true) {c:Nat} (hc:c<ps.length):gi ps c<c/\(0<c->0<=gi ps c)/\(c=0->gi ps c = -1):=by
 have:=Cu h hc;unfold nR at this;split at this
 ·simp at this;omega
 ·simp at this;omega
theorem Jb {t:aA} (h:aF t=0) {i c:Nat} (hc:c<t.ps.length) (hi:i<c) (hp:gi t.ps c=i):(gs t.ns i).size=0:=by
 obtain ⟨_,_,_,hok,hn⟩:=aG h;have hin:isIn t.ps i=true:=cR.2 ⟨c,bX.2 hc,by simp [hp];omega⟩;have:=hn i (by omega);unfold mj at this;rw [if_pos hin] at this;by_cases e:(gs t.ns i).size=0
 ·exact e
 ·rw [if_neg e] at this;cases this
theorem Bd {t:aA} (h:aF t=0) {i:Nat} (hi:i<t.ps.length) (hin:isIn t.ps i=false):bD (gs t.ns i).data.toList=true/\fO t.ns i=false:=by
 obtain ⟨_,_,_,hok,hn⟩:=aG h;have:=hn i hi;unfold mj at this;rw [hin] at this;cases h1:bD (gs t.ns i).data.toList
 ·rw [h1] at this;cases this
 ·cases h2:fO t.ns i
  ·exact ⟨rfl,rfl⟩
  ·rw [h1,h2] at this;cases this
theorem Valid.fine {t:aA} {st:List Int} {cs:List (List Int)} (h:Valid t st cs):PE t.ps.length cs.length (gi t.ps) (ig t.ns st) (kE cs):=by
 obtain ⟨h1,h2,h3,hok,hn⟩:=aG h.tree;obtain ⟨m1,m2,m3,m4,m5⟩:=tP h.Sw;refine ⟨m1,fun c h0 hc=>(pV hok hc).2.1 h0,fun c hc=>(pV hok hc).1,fun i _=>?_,fun a b _ _=>m4 a b,fun i c hc hic hp=>?_⟩
 ·unfold ig
  split
  ·rename_i h0
   have hl:=pU h0;have hb:=any_false h.good (k:=(fh t.ns i).toNat) (by rw [h.len];exact hl.1);simp at hb;omega
  ·omega
 ·unfold ig
  rw [if_neg];intro h0;have hl:=pU h0;have hm:(i:Int)∈aq t.ns:=by rw [<- hl.2];exact ur hl.1
  obtain ⟨j,e,_,hne⟩:=tQ.1 hm;obtain rfl:i=j:=by omega
  exact hne (Jb h.tree hc hic hp)
theorem Valid.tb {t:aA} {st:List Int} {cs:List (List Int)} (h:Valid t st cs) (j s:Nat) (hj:j<t.ps.length):-1<=gi (aR t st cs j) s/\gi (aR t st cs j) s<=100000:=by
 by_cases hs:s<cs.length
 ·rw [fU t st cs j hs]
  have h1:=(uq h.fine (d:=t.ps.length) (i:=j) (by omega) hj).1 s hs;have h2:=Sv (par:=gi t.ps) h.fine.Bb hj;obtain ⟨_,h3,_⟩:=aG h.tree;unfold gz;constructor<;>omega
 ·have:gi (aR t st cs j) s=0:=by simp [gi,aR,hs]
  omega
def cI (t:aA) (st:List Int) (cs:List (List Int)):Int:=if gZ t st cs=0 then (bw (fun _=>0) (gi (aR t st cs 0)) cs.length).1 else 0
end
section
def vB (t:aA) (st:List Int) (cs:List (List Int)) (l:List Int) (k:Nat):Int :=
 (bw (if k=0 then fun _=>0 else gi (gl cs (gi l (gi t.ps k).toNat).toNat)) (gi (aR t st cs k)) cs.length).2
def jS (t:aA) (st:List Int) (cs:List (List Int)):Nat->List Int
 | 0=>[]
 | k+1=>jS t st cs k++[vB t st cs (jS t st cs k) k]
def fV (t:aA) (st:List Int) (cs:List (List Int)):List Int:=jS t st cs t.ps.length
theorem vC (t:aA) (st:List Int) (cs:List (List Int)):∀k,(jS t st cs k).length=k
 | 0=>rfl
 | k+1=>by rw [jS,bG,vC t st cs k];rfl
theorem Dr (l:List Int) (x:Int) (j:Nat):gi (l++[x]) j=if j<l.length then gi l j else if j=l.length then x else 0:=by
 unfold gi;by_cases h:j<l.length
 ·rw [if_pos h];simp [List.getElem?_append,h]
 ·rw [if_neg h]
  by_cases e:j=l.length
  ·rw [if_pos e];simp [e]
  ·rw [if_neg e];simp;rw [vq (by simp;omega)];rfl
theorem zj (t:aA) (st:List Int) (cs:List (List Int)) {k j:Nat} (h:j<k):gi (jS t st cs (k+1)) j=gi (jS t st cs k) j:=by
 rw [jS,Dr,vC,if_pos h]
theorem tS (t:aA) (st:List Int) (cs:List (List Int)) (k:Nat):gi (jS t st cs (k+1)) k=vB t st cs (jS t st cs k) k:=by
 rw [jS,Dr,vC,if_neg (by omega),if_pos rfl]
theorem qN (t:aA) (st:List Int) (cs:List (List Int)) {j:Nat}:∀ {k n:Nat},j<k->k<=n->gi (jS t st cs n) j=gi (jS t st cs k) j
 | k,0,h,h2=>by omega
 | k,n+1,h,h2=>by
  by_cases e:k=n+1
  ·rw [e]
  ·rw [zj t st cs (by omega),qN t st cs h (by omega)]
section
variable {t:aA} {st:List Int} {cs:List (List Int)}
theorem Cv (hv:Valid t st cs) {c:Nat->Int} (hc:∀j,j<cs.length->0<=c j/\c j<=1000) {k:Nat} (hk:k<t.ps.length) :
  ∃o:Nat,(bw c (gi (aR t st cs k)) cs.length).2=o/\o<cs.length/\0<=gi (aR t st cs k) o/\(bw c (gi (aR t st cs k)) cs.length).1=c o+gi (aR t st cs k) o /\
   (∀j,j<cs.length->0<=gi (aR t st cs k) j->(bw c (gi (aR t st cs k)) cs.length).1<=c j+gi (aR t st cs k) j) /\
   (∀j,j<o->0<=gi (aR t st cs k) j->(bw c (gi (aR t st cs k)) cs.length).1<c j+gi (aR t st cs k) j):=by
 obtain ⟨_,⟨s,hs,hs0⟩,_⟩:=uq hv.fine (d:=t.ps.length) (i:=k) (by omega) hk;have hs1:0<=gi (aR t st cs k) s:=by rw [fU _ _ _ _ hs];exact hs0
 rcases qM (c:=c) (row:=gi (aR t st cs k)) (A:=100000) (by omega) (k:=cs.length) hc (fun j _=>(hv.tb k j hk).2) with ⟨_,h⟩ | h
 ·have:=h s hs;omega
 ·exact h
theorem Ff (hv:Valid t st cs) (a:Nat):∀j,j<cs.length->0<=gi (gl cs a) j/\gi (gl cs a) j<=1000:=fun j _=>(tP hv.Sw).2.2.2.1 a j
theorem Fg (hv:Valid t st cs) (l:List Int) {k:Nat} (hk:k<t.ps.length):∃o:Nat,vB t st cs l k=o/\o<cs.length/\0<=gi (aR t st cs k) o:=by
 unfold vB
 obtain ⟨o,h1,h2,h3,_⟩:=Cv hv (c:=if k=0 then fun _=>0 else gi (gl cs (gi l (gi t.ps k).toNat).toNat)) (fun j hj=>by
  by_cases e:k=0
  ·simp [e]
  ·simp only [e,if_false];exact Ff hv _ j hj) hk
 exact ⟨o,h1,h2,h3⟩
theorem JG (hv:Valid t st cs):∀ {k j:Nat},k<=t.ps.length->j<k->∃o:Nat,gi (jS t st cs k) j=o/\o<cs.length
 | 0,j,_,h=>by omega
 | k+1,j,hk,h=>by
  by_cases e:j=k
  ·subst e;rw [tS]
   obtain ⟨o,h1,h2,_⟩:=Fg hv (jS t st cs j) (k:=j) (by omega)
   exact ⟨o,h1,h2⟩
  ·rw [zj _ _ _ (by omega)];exact JG hv (by omega) (by omega)
end
end
section
def pE (cs:List (List Int)) (all:List Int) (node child:Nat):Int:=kE cs (gi all node).toNat (gi all child).toNat
def Bf (t:aA) (cs:List (List Int)) (all:List Int) (node:Nat):Int:=((eX t.ps node).map (pE cs all node)).sum
def E1 (t:aA) (cs:List (List Int)) (all:List Int) (k:Nat):Int:=aY (Bf t cs all) k
def sQ (t:aA) (cs:List (List Int)) (all:List Int):Int:=E1 t cs all t.ps.length
def vD (n m:Nat) (all:List Int):Prop:=all.length=n/\∀k,k<n->0<=gi all k/\gi all k<m
end
section
section
variable {n m:Nat} {par own abX:Nat->Int} {cost:Nat->Nat->Int}
theorem KT (F:PE n m par own cost) {c:Nat} (hc:c<n) {j:Nat} (hj:j<m):tab n m par own cost c j<=1000*(n:Int):=by
 have h1:=((uq F (d:=n) (i:=c) (by omega) hc).1 j hj).2;have h2:=Sv (par:=par) F.Bb hc;have:((n - c:Nat):Int)<=(n:Int):=by omega
 omega
def sR (n:Nat) (par:Nat->Int) (T:Nat->Int) (k:Nat):Int:=aY (fun c=>if k<=c/\par c<k then T c else 0) n
theorem Fh (h:∀c,c<n->par c<c) (T:Nat->Int) {k:Nat} (hk:k<n):sR n par T k+aY (fun c=>if k<c/\par c=k then T c else 0) n=T k+sR n par T (k+1):=by
 have h1:sR n par T k=aY (fun c=>if k+1<=c/\par c<k then T c else 0) n+aY (fun c=>if c=k then T k else 0) n:=by
  rw [<- kU];unfold sR;refine bS fun c hc=>?_;by_cases e:c=k
  ·subst e
   have:=h c hc;rw [if_pos ⟨aj _,this⟩,if_neg (by omega),if_pos rfl];omega
  ·by_cases h2:k<=c/\par c<k
   ·rw [if_pos h2,if_pos ⟨by omega,h2.2⟩,if_neg e];omega
   ·rw [if_neg h2,if_neg (fun h3=>h2 ⟨by omega,h3.2⟩),if_neg e];rfl
 have h2:sR n par T (k+1)=aY (fun c=>if k+1<=c/\par c<k then T c else 0) n+aY (fun c=>if k<c/\par c=k then T c else 0) n:=by
  rw [<- kU];unfold sR;refine bS fun c _=>?_;by_cases h3:k+1<=c
  ·by_cases h4:par c=k
   ·rw [if_pos ⟨h3,by omega⟩,if_neg (by omega),if_pos ⟨h3,h4⟩];omega
   ·by_cases h5:par c<k
    ·rw [if_pos ⟨h3,by omega⟩,if_pos ⟨h3,h5⟩,if_neg (fun h=>h4 h.2)];omega
    ·rw [if_neg (by omega),if_neg (fun h=>h5 h.2),if_neg (fun h=>h4 h.2)];rfl
  ·rw [if_neg (fun h=>h3 h.1),if_neg (fun h=>h3 h.1),if_neg (fun h=>h3 (by omega))];rfl
 rw [ry,if_pos hk] at h1;omega
theorem JH (T:Nat->Int):sR n par T n=0:=by
 unfold sR;refine (bS (g:=fun _=>0) fun c hc=>?_).trans (kW n);rw [if_neg (by omega)]
theorem Fi (h0:par 0<0) (h1:∀c,0<c->c<n->0<=par c) (hn:0<n) (T:Nat->Int):sR n par T 0=T 0:=by
 unfold sR;have:aY (fun c=>if 0<=c/\par c<(0:Nat) then T c else 0) n=aY (fun c=>if c=0 then T 0 else 0) n:=bS fun c hc=>by
  by_cases e:c=0
  ·subst e;rw [if_pos ⟨aj _,h0⟩,if_pos rfl]
  ·have:=h1 c (by omega) hc
   rw [if_neg (by simp;omega),if_neg e]
 rw [this,ry,if_pos hn]
theorem PJ (h:∀c,c<n->par c<c) (h0:par 0<0) (h1:∀c,0<c->c<n->0<=par c) (hn:0<n) {T N:Nat->Int}
  (hT:∀k,k<n->T k<=N k+aY (fun c=>if k<c/\par c=k then T c else 0) n):T 0<=aY N n:=by
 have hk:∀k,k<=n->sR n par T 0<=aY N k+sR n par T k:=fun k=>by
  induction k with
  | zero=>intro _;simp [aY]
  | succ k ih =>
   intro hk;have h2:=ih (by omega);have h3:=Fh h T (k:=k) (by omega);have h4:=hT k (by omega);rw [dS];omega
 have h2:=hk n (aj _);rw [JH,Fi h0 h1 hn] at h2;omega
theorem PK (h:∀c,c<n->par c<c) (h0:par 0<0) (h1:∀c,0<c->c<n->0<=par c) (hn:0<n) {T N:Nat->Int}
  (hT:∀k,k<n->T k=N k+aY (fun c=>if k<c/\par c=k then T c else 0) n):T 0=aY N n:=by
 have hk:∀k,k<=n->sR n par T 0=aY N k+sR n par T k:=fun k=>by
  induction k with
  | zero=>intro _;simp [aY]
  | succ k ih =>
   intro hk;have h2:=ih (by omega);have h3:=Fh h T (k:=k) (by omega);have h4:=hT k (by omega);rw [dS];omega
 have h2:=hk n (aj _);rw [JH,Fi h0 h1 hn] at h2;omega
end
end
section
theorem Md (ns:List ByteArray) {i j:Nat} (hj:j<(aq ns).length) (hij:i<j):gi (aq ns) i<gi (aq ns) j:=by
 have hp:(aq ns).Pairwise (· < ·):=by unfold aq;rw [List.pairwise_map];refine (List.Pairwise.filter _ List.pairwise_lt_range).imp ?_;intro a b h;omega
 have h:=vw.1 hp i j (by omega) hj hij;have hi:i<(aq ns).length:=by omega
 simpa [gi,hi,hj] using h
theorem Me {ns:List ByteArray} {i k:Nat} (hi:i<(aq ns).length) (hk:gi (aq ns) i=k):fh ns k=i:=by
 unfold fh;refine jR hi (fun j hj=>?_) (by simp [hk]);have:=Md ns hi hj;simp;omega
theorem yV {ns:List ByteArray} {st:List Int} {i k:Nat} (hi:i<(aq ns).length) (hk:gi (aq ns) i=k):ig ns st k=gi st i:=by
 unfold ig;rw [Me hi hk,if_pos (by omega),ei]
theorem mW {ns:List ByteArray} {i:Nat} (hi:i<(aq ns).length):∃k:Nat,gi (aq ns) i=k/\k<ns.length/\(gs ns k).size≠0:=by
 obtain ⟨k,e,h1,h2⟩:=tQ.1 (ur hi);exact ⟨k,e,h1,h2⟩
section
variable {t:aA} {st:List Int} {cs:List (List Int)}
theorem Mf (h:Valid t st cs):cI t st cs=(bw (fun _=>0) (gi (aR t st cs 0)) cs.length).1:=by unfold cI;rw [if_pos h.par]
theorem vE (h:Valid t st cs):∃o:Nat,(bw (fun _=>0) (gi (aR t st cs 0)) cs.length).2=o/\o<cs.length/\0<=gz t st cs 0 o/\cI t st cs=gz t st cs 0 o /\
  ∀j,j<cs.length->0<=gz t st cs 0 j->cI t st cs<=gz t st cs 0 j:=by
 have j9:=(aG h.tree).1;obtain ⟨o,h1,h2,h3,h4,h5,_⟩:=Cv h (c:=fun _=>0) (fun _ _=>by omega) j9;rw [Mf h];rw [fU _ _ _ _ h2] at h3 h4;refine ⟨o,h1,h2,h3,by rw [h4];omega,fun j hj hj0=>?_⟩;have:=h5 j hj (by rw [fU _ _ _ _ hj];exact hj0);rw [fU _ _ _ _ hj] at this;omega
theorem rz (h:Valid t st cs):0<=cI t st cs:=by obtain ⟨o,_,_,h3,h4,_⟩:=vE h;omega
theorem Ds (h:Valid t st cs):cI t st cs<=100000:=by
 obtain ⟨o,_,h2,_,h4,_⟩:=vE h;have:=(h.tb 0 o (aG h.tree).1).2;rw [fU _ _ _ _ h2] at this;omega
theorem Fj (h:Valid t st cs):gi t.ps 0<0:=by
 have:=(pV (aG h.tree).2.2.2.1 (aG h.tree).1).2.2 rfl;omega
theorem xA (t:aA) (cs:List (List Int)) (all:List Int) (k:Nat):Bf t cs all k=aY (fun c=>if k<c/\gi t.ps c=k then pE cs all k c else 0) t.ps.length:=by
 unfold Bf eX;rw [xx]
def E2 (t:aA) (st all:List Int):Prop:=∀i,i<(aq t.ns).length->0<=gi st i->gi all (gi (aq t.ns) i).toNat=gi st i
theorem vF {all:List Int} (hf:E2 t st all) (k:Nat) (h0:0<=ig t.ns st k):gi all k=ig t.ns st k:=by
 have h1:0<=fh t.ns k:=by
  unfold ig at h0;by_cases e:0<=fh t.ns k
  ·exact e
  ·rw [if_neg e] at h0;omega
 obtain ⟨h2,h3⟩:=pU h1;have h4:=yV (st:=st) h2 h3;rw [h4] at h0 ⊢;have:=hf _ h2 h0;rw [h3,ei] at this;exact this
theorem Fk (h:Valid t st cs) {all:List Int} (ha:vD t.ps.length cs.length all) (hf:E2 t st all) {k:Nat} (hk:k<t.ps.length):0<=gz t st cs k (gi all k).toNat:=by
 obtain ⟨_,_,h3,h4⟩:=uq h.fine (d:=t.ps.length) (i:=k) (by omega) hk;obtain ⟨a1,a2⟩:=ha.2 k hk;have ho:=h.fine.PG k hk;unfold gz;by_cases h0:0<=ig t.ns st k
 ·have h5:=h4 h0 (gi all k).toNat (by omega)
  have h6:=vF hf k h0;rw [h5,if_pos (by omega)];exact jN _
 ·exact h3 (by omega) _ (by omega)
theorem PL (h:Valid t st cs) {all:List Int} (ha:vD t.ps.length cs.length all) (hf:E2 t st all):cI t st cs<=sQ t cs all:=by
 obtain ⟨j9,_,_,hok,_⟩:=aG h.tree;have F:=h.fine;have hroot:=Fj h
 have hw:=PJ (n:=t.ps.length) (par:=gi t.ps) F.Bb hroot F.PF j9 (T:=fun k=>gz t st cs k (gi all k).toNat) (N:=Bf t cs all) (fun k hk=>by
  obtain ⟨a1,a2⟩:=ha.2 k hk;have e:=Ba (m:=cs.length) (par:=gi t.ps) (own:=ig t.ns st) (cost:=kE cs) hk (gi all k).toNat;unfold tO at e;have hbase:¬(0<=ig t.ns st k/\ig t.ns st k≠((gi all k).toNat:Nat)):=fun hh=>by have:=vF hf k hh.1;omega
  rw [if_neg hbase] at e;show gz t st cs k (gi all k).toNat<=_;have e':gz t st cs k (gi all k).toNat=0+aY (fun c=>if k<c/\gi t.ps c=k then (bw (kE cs (gi all k).toNat) (gz t st cs c) cs.length).1 else 0) t.ps.length:=e;rw [e',xA,<- kU,Int.zero_add];refine kV fun c hc=>?_;show (if k<c/\gi t.ps c=k then _ else (0:Int))<=(if k<c/\gi t.ps c=k then _ else 0)+(if k<c/\gi t.ps c=k then _ else 0);split
  ·obtain ⟨b1,b2⟩:=ha.2 c hc
   have hT:=Fk h ha hf hc;rcases qM (A:=1000*(t.ps.length:Int)) (by omega) (c:=kE cs (gi all k).toNat) (row:=gz t st cs c) (k:=cs.length) (fun j hj=>F.E0 _ j (by omega) hj) (fun j hj=>KT F hc hj) with ⟨_,h3⟩ | ⟨o,_,_,_,_,h5,_⟩
   ·have:=h3 (gi all c).toNat (by omega);omega
   ·have:=h5 (gi all c).toNat (by omega) hT
    unfold pE;exact this
  ·omega)
 obtain ⟨_,_,_,_,_,h6⟩:=vE h;obtain ⟨a1,a2⟩:=ha.2 0 j9;have:=h6 (gi all 0).toNat (by omega) (Fk h ha hf j9);unfold sQ E1;omega
theorem Fl (t:aA) (st:List Int) (cs:List (List Int)):(fV t st cs).length=t.ps.length:=vC t st cs _
theorem Fm (h:Valid t st cs):vD t.ps.length cs.length (fV t st cs):=by
 refine ⟨Fl t st cs,fun k hk=>?_⟩;obtain ⟨o,h1,h2⟩:=JG h (k:=t.ps.length) (j:=k) (aj _) hk;unfold fV;rw [h1];omega
theorem Mg (h:Valid t st cs) {k:Nat} (hk:k<t.ps.length):gi (fV t st cs) k=(bw (if k=0 then fun _=>0 else gi (gl cs (gi (fV t st cs) (gi t.ps k).toNat).toNat)) (gi (aR t st cs k)) cs.length).2:=by
 have h1:gi (fV t st cs) k=vB t st cs (jS t st cs k) k:=by unfold fV;rw [qN t st cs (kC k) (by omega),tS]
 rw [h1];unfold vB;by_cases e:k=0
 ·simp [e]
 ·simp only [e,if_false]
  have hp:=(pV (aG h.tree).2.2.2.1 hk);have h2:=hp.1;have h3:=hp.2.1 (by omega);have h4:gi (fV t st cs) (gi t.ps k).toNat=gi (jS t st cs k) (gi t.ps k).toNat:=by unfold fV;exact qN t st cs (by omega) (by omega)
  rw [h4]
theorem T6 (h:Valid t st cs) {k:Nat} (hk:k<t.ps.length):0<=gz t st cs k (gi (fV t st cs) k).toNat:=by
 obtain ⟨o,h1,h2,h3⟩:=Fg h (jS t st cs k) hk;have h4:gi (fV t st cs) k=vB t st cs (jS t st cs k) k:=by unfold fV;rw [qN t st cs (kC k) (by omega),tS]
 rw [fU _ _ _ _ h2] at h3;rw [h4,h1,ei];exact h3
theorem Fo (h:Valid t st cs):E2 t st (fV t st cs):=by
 intro i hi h0;obtain ⟨k,e,hk,_⟩:=mW hi;have hkn:k<t.ps.length:=by rw [<- (aG h.tree).2.2.1];exact hk
 rw [e,ei];have ho:=yV (st:=st) hi e;obtain ⟨_,_,_,h4⟩:=uq h.fine (d:=t.ps.length) (i:=k) (by omega) hkn;obtain ⟨a1,a2⟩:=(Fm h).2 k hkn;have h5:=h4 (by rw [ho];exact h0) (gi (fV t st cs) k).toNat (by omega);have h6:=T6 h hkn;unfold gz at h6;rw [h5] at h6;split at h6
 ·rename_i e2;rw [ho] at e2;omega
 ·omega
theorem PM (h:Valid t st cs):sQ t cs (fV t st cs)=cI t st cs:=by
 obtain ⟨j9,_,_,hok,_⟩:=aG h.tree;have F:=h.fine;have ha:=Fm h
 have hw:=PK (n:=t.ps.length) (par:=gi t.ps) F.Bb (Fj h) F.PF j9 (T:=fun k=>gz t st cs k (gi (fV t st cs) k).toNat) (N:=Bf t cs (fV t st cs)) (fun k hk=>by
  obtain ⟨a1,a2⟩:=ha.2 k hk;have e:=Ba (m:=cs.length) (par:=gi t.ps) (own:=ig t.ns st) (cost:=kE cs) hk (gi (fV t st cs) k).toNat;unfold tO at e;have hbase:¬(0<=ig t.ns st k/\ig t.ns st k≠((gi (fV t st cs) k).toNat:Nat)):=fun hh=>by have:=vF (Fo h) k hh.1;omega
  rw [if_neg hbase] at e;show gz t st cs k (gi (fV t st cs) k).toNat=_;have e':gz t st cs k (gi (fV t st cs) k).toNat=0+aY (fun c=>if k<c/\gi t.ps c=k then (bw (kE cs (gi (fV t st cs) k).toNat) (gz t st cs c) cs.length).1 else 0) t.ps.length:=e;rw [e',xA,<- kU,Int.zero_add];refine bS fun c hc=>?_;show (if k<c/\gi t.ps c=k then _ else (0:Int))=(if k<c/\gi t.ps c=k then _ else 0)+(if k<c/\gi t.ps c=k then _ else 0);split
  ·rename_i hkc
   have hat:=Mg h hc;rw [if_neg (by omega),hkc.2,ei] at hat;obtain ⟨o,h1,h2,h3,h4,_⟩:=Cv h (c:=gi (gl cs (gi (fV t st cs) k).toNat)) (fun j hj=>Ff h _ j hj) hc;rw [h1] at hat;have sS:bw (kE cs (gi (fV t st cs) k).toNat) (gz t st cs c) cs.length=bw (gi (gl cs (gi (fV t st cs) k).toNat)) (gi (aR t st cs c)) cs.length:=mA (fun _ _=>rfl) fun j hj=>(fU t st cs c hj).symm;rw [sS,h4,fU _ _ _ _ h2];unfold pE kE;rw [hat,ei]
  ·rfl)
 obtain ⟨o,h1,_,_,h4,_⟩:=vE h;have hat:=Mg h j9;rw [if_pos rfl,h1] at hat;rw [hat,ei] at hw;unfold sQ E1;omega
end
end
section
end
section
def setRow (xs:List (List Int)) (k:Nat) (y:List Int):List (List Int):=xs.set k y
end
end Go.Proofs.YtfomhlbhcifgbaaGreatDoor
