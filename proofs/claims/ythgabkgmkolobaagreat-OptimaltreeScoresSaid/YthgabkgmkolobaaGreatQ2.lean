/- What the functions of layers 1 and 31 compute, as plain functions on lists. Plain: the .. -/
import Derived.Test.YthgabkgmkolobaaGreatQ1
set_option maxRecDepth 100000

namespace Go.Proofs.YthgabkgmkolobaaGreat
section
def gi (l:List Int) (k:Nat):Int:=l.getD k 0
def gs (l:List ByteArray) (k:Nat):ByteArray:=l.getD k ByteArray.empty
def gb (l:List Bool) (k:Nat):Bool:=l.getD k false
def gl (l:List (List Int)) (k:Nat):List Int:=l.getD k []
structure aD where
 ps:List Int
 ns:List ByteArray

theorem Sg (bs:ByteArray):∀(n i:Nat) (r:List UInt8),bs.size - i=n→ByteArray.toList.loop bs i r=r.reverse++bs.data.toList.drop i:=by
 intro n
 induction n with
 | zero =>
  intro i r h;unfold ByteArray.toList.loop;rw [if_neg (by omega),List.drop_of_length_le (by simp;omega)];simp
 | succ n ih =>
  intro i r h;unfold ByteArray.toList.loop;have hi:i<bs.size:=by omega
  rw [if_pos hi,ih (i+1) _ (by omega),List.reverse_cons,List.append_assoc];congr 1;rw [List.drop_eq_getElem_cons (i:=i) (by simpa using hi),List.singleton_append];congr 1;simp [ByteArray.get!,getElem!_pos,hi]
theorem toList_data (s:ByteArray):s.toList=s.data.toList:=by
 unfold ByteArray.toList;rw [Sg s _ 0 [] rfl];simp
theorem toList_nil (s:ByteArray):s.toList=[]↔s.size=0:=by
 rw [toList_data,← List.length_eq_zero_iff];simp
theorem size_data (s:ByteArray):s.data.toList.length=s.size:=by simp
theorem eD {a b:ByteArray} (h:a.data.toList=b.data.toList):a=b:=by
 cases a;cases b;simpa using h
def isLet (c:Nat):Bool:=(97≤c&&c≤122) || (65≤c&&c≤90)
def uf (c:Nat):Bool:=c==46 || c==44 || c==59 || c==58 || c==33 || c==63 || c==40 || c==41 || c==45
def cK (c:Nat):Int:=if isLet c then 1 else if c=94∨c=126∨c=37 then 2 else if 48≤c∧c≤57 then 3 else if c=39 then 4 else if c=32 then 6 else if uf c then 5 else 0
def pE (c:UInt8):Bool:=isLet c.toNat || (48≤c.toNat&&c.toNat≤57)
def jo (l:List UInt8):Nat:=l.countP pE
def dL (l:List UInt8):Bool:=1≤l.length&&l.length≤16&&l.all pE
def aX (l:List UInt8):Bool:=if l.getLast? = some 42 then dL l.dropLast&&l.length≤16 else dL l

def jg (i:Nat) (p:Int):Bool:=if i=0 then p == -1 else decide (0≤p)&&decide (p<i)
def iQ (ps:List Int):Bool:=(List.range ps.length).all fun i=>jg i (gi ps i)
def B3 (ps:List Int) (n i:Nat):Bool:=(List.range n).any fun j=>decide (0<j)&&gi ps j==(i:Int)
def isIn (ps:List Int) (i:Nat):Bool:=B3 ps ps.length i
def dg (ns:List ByteArray) (i:Nat):Bool:=(List.range i).any fun j=>decide (gs ns j=gs ns i)
def iC (ps:List Int) (ns:List ByteArray) (i:Nat):Int :=
 if isIn ps i then (if (gs ns i).size=0 then 0 else 14) else if aX (gs ns i).data.toList then (if dg ns i then 7 else 0) else 14
def firstNZ (f:Nat→Int):Nat→Int
 | 0=>0
 | n+1=>if firstNZ f n=0 then f n else firstNZ f n
def aB (t:aD):Int :=
 if t.ps.length=0 then 5 else if 64<t.ps.length then 4 else if t.ns.length≠t.ps.length then 9
 else if iQ t.ps then firstNZ (iC t.ps t.ns) t.ps.length else 2
def aq (ns:List ByteArray):List Int:=((List.range ns.length).filter fun i=>(gs ns i).size≠0).map fun (i:Nat)=>(i:Int)

theorem dW {f:Nat→Int}:∀ {n:Nat},(∀j,j<n→f j=0)→firstNZ f n=0
 | 0,_=>rfl
 | n+1,h=>by
  unfold firstNZ
  rw [if_pos (dW fun j hj=>h j (by omega))];exact h n (by omega)
theorem fk {f:Nat→Int} {k:Nat}:∀ {n:Nat},k<n→(∀j,j<k→f j=0)→f k≠0→firstNZ f n=f k
 | 0,h,_,_=>absurd h (Nat.not_lt_zero _)
 | n+1,hk,h,hne=>by
  unfold firstNZ
  by_cases e:k=n
  ·subst e;rw [if_pos (dW h)]
  ·rw [fk (by omega) h hne,if_neg hne]
theorem jK {f:Nat→Int}:∀ {n:Nat},firstNZ f n=0→∀j,j<n→f j=0
 | 0,_,j,hj=>absurd hj (Nat.not_lt_zero _)
 | n+1,h,j,hj=>by
  unfold firstNZ at h
  split at h
  ·rename_i h0
   by_cases e:j=n
   ·subst e;exact h
   ·exact jK h0 j (by omega)
  ·rename_i h0;exact absurd h h0
theorem D1 (ps:List Int) (n i:Nat):B3 ps (n+1) i=(B3 ps n i || (decide (0<n)&&gi ps n==(i:Int))):=by
 simp [B3,List.range_succ,List.any_append]
theorem D2 {ps:List Int} {k:Nat} (hk:k<ps.length) (h:jg k (gi ps k)=false):iQ ps=false:=by
 rw [Bool.eq_false_iff];intro e;have:=List.all_eq_true.1 e k (List.mem_range.2 hk);simp [h] at this
theorem yY {ps:List Int} (h:∀j,j<ps.length→jg j (gi ps j)=true):iQ ps=true :=
 List.all_eq_true.2 fun j hj=>h j (List.mem_range.1 hj)
theorem Bg {ps:List Int} (h:iQ ps=true) {j:Nat} (hj:j<ps.length):jg j (gi ps j)=true :=
 List.all_eq_true.1 h j (List.mem_range.2 hj)
def b5 (p:Nat→Bool):Nat→Int
 | 0=>-1
 | n+1=>if b5 p n = -1 then (if p n then (n:Int) else -1) else b5 p n
theorem jX (p:Nat→Bool) (n:Nat):b5 p (n+1)=if b5 p n = -1 then (if p n then (n:Int) else -1) else b5 p n:=rfl
theorem iR {p:Nat→Bool}:∀ {n:Nat},(∀j,j<n→p j=false)→b5 p n = -1
 | 0,_=>rfl
 | n+1,h=>by
  rw [jX,if_pos (iR fun j hj=>h j (by omega)),h n (by omega)];rfl
theorem kK {p:Nat→Bool} {k:Nat}:∀ {n:Nat},k<n→(∀j,j<k→p j=false)→p k=true→b5 p n=k
 | 0,h,_,_=>absurd h (Nat.not_lt_zero _)
 | n+1,hk,h,hp=>by
  rw [jX]
  by_cases e:k=n
  ·subst e;rw [if_pos (iR h),hp];rfl
  ·rw [kK (by omega) h hp,if_neg (by omega)]
theorem ug (p:Nat→Bool) (n:Nat):-1≤b5 p n∧b5 p n<n∧(b5 p n = -1∨0≤b5 p n):=by
 induction n with
 | zero=>simp [b5]
 | succ n ih=>rw [jX];split<;>(try split)<;>omega
theorem kY (p:Nat→Bool) (n:Nat):decide (0≤b5 p n)=(List.range n).any p:=by
 induction n with
 | zero=>simp [b5]
 | succ n ih =>
  have hl:=ug p n
  rw [List.range_succ,List.any_append,← ih,jX]
  by_cases h:b5 p n = -1
  ·rw [if_pos h,h];cases hp:p n<;>simp [hp]
  ·rw [if_neg h];have:0≤b5 p n:=by omega
   simp [this]
theorem qw {p:Nat→Bool} {n k:Nat} (h:b5 p n=k):k<n∧p k=true∧∀j,j<k→p j=false:=by
 induction n with
 | zero=>simp [b5] at h
 | succ n ih =>
  rw [jX] at h
  by_cases h1:b5 p n = -1
  ·rw [if_pos h1] at h
   by_cases hp:p n=true
   ·rw [if_pos hp] at h
    obtain rfl:n=k:=by omega
    refine ⟨by omega,hp,fun j hj=>?_⟩
    cases hq:p j with
    | false=>rfl
    | true =>
     exfalso
     have:=kY p n
     rw [h1] at this
     have h2:(List.range n).any p=true:=List.any_eq_true.2 ⟨j,List.mem_range.2 hj,hq⟩
     rw [h2] at this;simp at this
   ·rw [if_neg hp] at h;omega
  ·rw [if_neg h1] at h
   have:=ih h
   exact ⟨by omega,this.2⟩
end
section
def iT (ns:List ByteArray) (k:Nat):List Int:=((List.range k).filter fun i=>(gs ns i).size≠0).map fun (i:Nat)=>(i:Int)
theorem qx (ns:List ByteArray) (k:Nat):iT ns (k+1)=iT ns k++(if (gs ns k).size=0 then [] else [(k:Int)]):=by
 unfold iT;rw [List.range_succ,List.filter_append,List.map_append];congr 1;by_cases h:(gs ns k).size=0
 ·have h2:decide ((gs ns k).size≠0)=false:=by rw [decide_eq_false_iff_not];exact fun e=>e h
  rw [if_pos h];simp only [List.filter_cons,h2,List.filter_nil];rfl
 ·have h2:decide ((gs ns k).size≠0)=true:=by rw [decide_eq_true_eq];exact h
  rw [if_neg h];simp only [List.filter_cons,h2,List.filter_nil];rfl
theorem sA (ns:List ByteArray) (k:Nat):(iT ns k).length≤k:=by
 unfold iT;rw [List.length_map];exact Nat.le_trans (List.length_filter_le _ _) (by simp)
end
section
def cg (ps:List Int) (n k:Nat):List Nat:=(List.range k).filter fun i=>decide (n<i)&&gi ps i==(n:Int)
def cu (ps:List Int) (n:Nat):List Nat:=cg ps n ps.length
def dX (l:List Nat):List Int:=l.map fun (i:Nat)=>(i:Int)
theorem jq (ps:List Int) (n k:Nat):cg ps n (k+1)=cg ps n k++(if n<k∧gi ps k=n then [k] else []):=by
 unfold cg;rw [List.range_succ,List.filter_append];congr 1;by_cases h:n<k∧gi ps k=n
 ·rw [if_pos h];simp [h.1,h.2]
 ·rw [if_neg h]
  have:(decide (n<k)&&gi ps k==(n:Int))=false:=by rw [Bool.eq_false_iff];intro e;apply h;simpa using e
  simp [this]
theorem ym (ps:List Int) (n:Nat):cg ps n (n+1)=[]:=by
 unfold cg;rw [List.filter_eq_nil_iff];intro a ha;have:=List.mem_range.1 ha;simp;omega
theorem oz (ps:List Int) (n k:Nat):(cg ps n k).length≤k:=by
 unfold cg;exact Nat.le_trans (List.length_filter_le _ _) (by simp)
theorem gh {ps:List Int} {n i:Nat}:i∈cu ps n↔i<ps.length∧n<i∧gi ps i=n:=by
 unfold cu cg;rw [List.mem_filter,List.mem_range];simp
theorem DF (a b:List Nat):dX (a++b)=dX a++dX b:=List.map_append
theorem l5 {ps:List Int} (h:iQ ps=true) (n:Nat):cu ps n≠[]↔isIn ps n=true:=by
 constructor
 ·intro hne
  obtain ⟨i,hi⟩:=List.exists_mem_of_ne_nil _ hne;obtain ⟨h1,h2,h3⟩:=gh.1 hi;exact List.any_eq_true.2 ⟨i,List.mem_range.2 h1,by simp [h3];omega⟩
 ·intro hin
  obtain ⟨i,hi,h2⟩:=List.any_eq_true.1 hin;have hi:=List.mem_range.1 hi;simp at h2;have:=Bg h hi;unfold jg at this;rw [if_neg (by omega)] at this;simp at this;exact List.ne_nil_of_mem (gh.2 ⟨hi,by omega,h2.2⟩)
end
section
def fo (st:List Int) (least most:Int):Bool:=(List.range st.length).any fun k=>decide (gi st k<least) || decide (most≤gi st k)
def gA (st:List Int) (n:Nat) (least most:Int):Int:=if st.length≠n then 9 else if fo st least most then 2 else 0
def qy (a b:Nat) (c:Int):Bool:=decide (c<0) || decide (1000<c) || (decide (a=b)&&decide (c≠0))
def D3 (a:Nat) (row:List Int) (k:Nat):Bool:=(List.range k).any fun b=>qy a b (gi row b)
def sS (cs:List (List Int)) (k:Nat):Bool:=(List.range k).any fun a=>D3 a (gl cs a) (gl cs a).length
def vY (cs:List (List Int)):Bool:=(List.range cs.length).any fun a=>decide ((gl cs a).length≠cs.length)
def eG (cs:List (List Int)):Int:=if cs.length=0 then 5 else if 16<cs.length then 4 else if vY cs then 9 else if sS cs cs.length then 2 else 0
theorem any_none {p:Nat→Bool} {n:Nat} (h:∀j,j<n→p j=false):(List.range n).any p=false:=by
 rw [Bool.eq_false_iff];intro e;obtain ⟨j,hj,hp⟩:=List.any_eq_true.1 e;rw [h j (List.mem_range.1 hj)] at hp;cases hp
theorem ij {p:Nat→Bool} {n k:Nat} (hk:k<n) (hp:p k=true):(List.range n).any p=true:=List.any_eq_true.2 ⟨k,List.mem_range.2 hk,hp⟩
theorem any_false {p:Nat→Bool} {n:Nat} (h:(List.range n).any p=false) {k:Nat} (hk:k<n):p k=false:=by
 cases e:p k with
 | false=>rfl
 | true=>rw [ij hk e] at h;cases h
def cE (t:aD) (st:List Int) (cs:List (List Int)):Int :=
 if aB t≠0 then 1 else if eG cs≠0 then eG cs else gA st (aq t.ns).length (-1) cs.length
end
section
def bq (c row:Nat→Int):Nat→Int×Int
 | 0=>(-1,0)
 | k+1=>if row k<0 then bq c row k else if (bq c row k).1<0∨c k+row k<(bq c row k).1 then (c k+row k,(k:Int)) else bq c row k
theorem jr (c row:Nat→Int) (k:Nat):bq c row (k+1)=if row k<0 then bq c row k else if (bq c row k).1<0∨c k+row k<(bq c row k).1 then (c k+row k,(k:Int)) else bq c row k:=rfl
theorem D4 {c row:Nat→Int} {A:Int} (hA:0≤A) (hc:∀k,0≤c k∧c k≤1000) (hr:∀k,row k≤A) (k:Nat):-1≤(bq c row k).1∧(bq c row k).1≤A+1000:=by
 induction k with
 | zero=>simp [bq];omega
 | succ k ih =>
  rw [jr]
  have:=hc k;have:=hr k
  split
  ·exact ih
  ·split
   ·simp;omega
   ·exact ih
end
section
def bD (f:Nat→Int):Nat→Int
 | 0=>0
 | n+1=>bD f n+f n
theorem eT (f:Nat→Int) (n:Nat):bD f (n+1)=bD f n+f n:=rfl
theorem dy {f g:Nat→Int}:∀ {n:Nat},(∀c,c<n→f c=g c)→bD f n=bD g n
 | 0,_=>rfl
 | n+1,h=>by rw [eT,eT,dy fun c hc=>h c (by omega),h n (by omega)]
theorem uh (f g:Nat→Int):∀n:Nat,bD (fun c=>f c+g c) n=bD f n+bD g n
 | 0=>rfl
 | n+1=>by rw [eT,eT,eT,uh f g n];omega
theorem rK {f g:Nat→Int}:∀ {n:Nat},(∀c,c<n→f c≤g c)→bD f n≤bD g n
 | 0,_=>Int.le_refl _
 | n+1,h=>by
  rw [eT,eT]
  have:=rK (f:=f) (g:=g) (n:=n) fun c hc=>h c (by omega)
  have:=h n (by omega);omega
theorem oA:∀n:Nat,bD (fun _=>0) n=0
 | 0=>rfl
 | n+1=>by rw [eT,oA n];rfl
theorem oa {f:Nat→Int} {n:Nat} (h:∀c,c<n→0≤f c):0≤bD f n:=by
 have:=rK (f:=fun _=>0) (g:=f) (n:=n) h;rw [oA] at this;exact this
theorem yZ (k:Nat) (x:Int):∀n:Nat,bD (fun c=>if c=k then x else 0) n=if k<n then x else 0
 | 0=>rfl
 | n+1=>by
  rw [eT,yZ k x n]
  by_cases h:n=k
  ·subst h;simp
  ·by_cases h2:k<n
   ·simp [h,h2];omega
   ·simp [h,h2];omega
theorem vZ (ps:List Int) (i:Nat) (g:Nat→Int):∀n:Nat,((cg ps i n).map g).sum=bD (fun c=>if i<c∧gi ps c=i then g c else 0) n
 | 0=>rfl
 | n+1=>by
  rw [jq,List.map_append,List.sum_append,vZ ps i g n,eT]
  split<;>simp
def wh (n m:Nat) (par own:Nat→Int) (cost:Nat→Nat→Int) (look:Nat→Nat→Int) (i s:Nat):Int :=
 (if 0≤own i∧own i≠s then -1 else 0)+bD (fun c=>if i<c∧par c=i then (bq (cost s) (look c) m).1 else 0) n
def Jz (n m:Nat) (par own:Nat→Int) (cost:Nat→Nat→Int):Nat→Nat→Nat→Int
 | 0=>fun _ _=>0
 | d+1=>wh n m par own cost (Jz n m par own cost d)
def tab (n m:Nat) (par own:Nat→Int) (cost:Nat→Nat→Int) (i s:Nat):Int:=Jz n m par own cost n i s
theorem kZ {c c' r r':Nat→Int}:∀ {k:Nat},(∀j,j<k→c j=c' j)→(∀j,j<k→r j=r' j)→bq c r k=bq c' r' k
 | 0,_,_=>rfl
 | k+1,h1,h2=>by
  rw [jr,jr,kZ (fun j hj=>h1 j (by omega)) (fun j hj=>h2 j (by omega)),h1 k (by omega),h2 k (by omega)]
section
variable {n m:Nat} {par own:Nat→Int} {cost:Nat→Nat→Int}
theorem B4:∀ {d e i:Nat},n≤i+d→n≤i+e→i<n→∀s,Jz n m par own cost d i s=Jz n m par own cost e i s
 | 0,_,_,h,_,hi,_=>by omega
 | _,0,_,_,h,hi,_=>by omega
 | d+1,e+1,i,h1,h2,hi,s=>by
  show wh _ _ _ _ _ _ _ _=wh _ _ _ _ _ _ _ _
  unfold wh
  congr 1
  refine dy fun c hc=>?_
  split
  ·rename_i hk
   rw [kZ (fun _ _=>rfl) fun j _=>B4 (d:=d) (e:=e) (by omega) (by omega) hc j]
  ·rfl
theorem KU {i:Nat} (hi:i<n) (s:Nat):tab n m par own cost i s=wh n m par own cost (tab n m par own cost) i s:=by
 unfold tab;obtain ⟨d,rfl⟩:∃d,n=d+1:=⟨n - 1,by omega⟩;show wh _ _ _ _ _ _ _ _=_;unfold wh;congr 1;refine dy fun c hc=>?_;split
 ·rename_i hk
  rw [kZ (fun _ _=>rfl) fun j _=>B4 (d:=d) (e:=d+1) (by omega) (by omega) hc j]
 ·rfl
structure NZ (n m:Nat) (par own:Nat→Int) (cost:Nat→Nat→Int):Prop where
 m1:0<m
 par0:∀c,0<c→c<n→0≤par c
 Xj:∀c,c<n→par c<c
 own1:∀i,i<n → -1≤own i∧own i<m
 zP:∀a b,a<m→b<m→0≤cost a b∧cost a b≤1000
 leaf:∀i c,c<n→i<c→par c=i→own i = -1
theorem pW {c row:Nat→Int} {A:Int} (hA:0≤A):∀ {k:Nat},(∀j,j<k→0≤c j∧c j≤1000)→(∀j,j<k→row j≤A) →
  ((bq c row k).1 = -1∧(∀j,j<k→row j<0)) ∨
  (∃o:Nat,(bq c row k).2=o∧o<k∧0≤row o∧(bq c row k).1=c o+row o∧(∀j,j<k→0≤row j→(bq c row k).1≤c j+row j)∧(∀j,j<o→0≤row j→(bq c row k).1<c j+row j))
 | 0,_,_=>.inl ⟨rfl,fun j hj=>absurd hj (Nat.not_lt_zero _)⟩
 | k+1,hc,hr=>by
  have ih:=pW (c:=c) (row:=row) hA (k:=k) (fun j hj=>hc j (by omega)) fun j hj=>hr j (by omega)
  have ni:=hc k (by omega)
  rw [jr]
  by_cases h0:row k<0
  ·rw [if_pos h0]
   rcases ih with ⟨h1,h2⟩ | ⟨o,h1,h2,h3,h4,h5,h6⟩
   ·exact .inl ⟨h1,fun j hj=>if e:j=k then e ▸ h0 else h2 j (by omega)⟩
   ·refine .inr ⟨o,h1,by omega,h3,h4,fun j hj hj0=>?_,h6⟩
    by_cases e:j=k
    ·subst e;omega
    ·exact h5 j (by omega) hj0
  ·rw [if_neg h0]
   rcases ih with ⟨h1,h2⟩ | ⟨o,h1,h2,h3,h4,h5,h6⟩
   ·rw [if_pos (.inl (by omega))]
    refine .inr ⟨k,rfl,by omega,by omega,rfl,fun j hj hj0=>?_,fun j hj hj0=>?_⟩
    ·by_cases e:j=k
     ·subst e;exact Int.le_refl _
     ·have:=h2 j (by omega);omega
    ·have:=h2 j (by omega);omega
   ·have ho:=hc o (by omega)
    by_cases hlt:c k+row k<(bq c row k).1
    ·rw [if_pos (.inr hlt)]
     refine .inr ⟨k,rfl,by omega,by omega,rfl,fun j hj hj0=>?_,fun j hj hj0=>?_⟩
     ·by_cases e:j=k
      ·subst e;exact Int.le_refl _
      ·have:=h5 j (by omega) hj0;simp only;omega
     ·have:=h5 j (by omega) hj0;simp only;omega
    ·rw [if_neg (by intro h;omega)]
     refine .inr ⟨o,h1,by omega,h3,h4,fun j hj hj0=>?_,h6⟩
     by_cases e:j=k
     ·subst e;omega
     ·exact h5 j (by omega) hj0
end
end
section
section
variable {n m:Nat} {par own:Nat→Int} {cost:Nat→Nat→Int}
def uF (n:Nat) (par:Nat→Int):Nat→Nat→Int
 | 0,_=>0
 | d+1,i=>bD (fun c=>if i<c∧par c=i then uF n par d c+1000 else 0) n
def ub (n:Nat) (par:Nat→Int) (i:Nat):Int:=uF n par n i
theorem Ij:∀ {d e i:Nat},n≤i+d→n≤i+e→i<n→uF n par d i=uF n par e i
 | 0,_,_,h,_,hi=>by omega
 | _,0,_,_,h,hi=>by omega
 | d+1,e+1,i,h1,h2,hi=>by
  show bD _ _=bD _ _
  refine dy fun c hc=>?_
  split
  ·rename_i hk
   rw [Ij (d:=d) (e:=e) (by omega) (by omega) hc]
  ·rfl
theorem QO {i:Nat} (hi:i<n):ub n par i=bD (fun c=>if i<c∧par c=i then ub n par c+1000 else 0) n:=by
 unfold ub;obtain ⟨d,rfl⟩:∃d,n=d+1:=⟨n - 1,by omega⟩;show bD _ _=_;refine dy fun c hc=>?_;split
 ·rename_i hk
  rw [Ij (d:=d) (e:=d+1) (by omega) (by omega) hc]
 ·rfl
theorem KV (d:Nat):∀i:Nat,0≤uF n par d i:=by
 induction d with
 | zero=>intro i;exact Int.le_refl _
 | succ d ih =>
  intro i
  exact oa fun c _=>by
   have:=ih c
   split<;>omega
theorem rL (i:Nat):0≤ub n par i:=KV _ _
def zQ (n:Nat) (par:Nat→Int) (k:Nat):Int:=bD (fun c=>if k≤c∧par c<k then ub n par c+1000 else 0) n
theorem N3 (h:∀c,c<n→par c<c) {k:Nat} (hk:k<n):zQ n par k=zQ n par (k+1)+1000:=by
 have h1:zQ n par k=bD (fun c=>if k+1≤c∧par c<k then ub n par c+1000 else 0) n+bD (fun c=>if c=k then ub n par k+1000 else 0) n:=by
  rw [← uh];unfold zQ;refine dy fun c hc=>?_;by_cases e:c=k
  ·subst e
   have:=h c hc;rw [if_pos ⟨Nat.le_refl _,this⟩,if_neg (by omega),if_pos rfl];omega
  ·by_cases h2:k≤c∧par c<k
   ·rw [if_pos h2,if_pos ⟨by omega,h2.2⟩,if_neg e];omega
   ·rw [if_neg h2,if_neg (fun h3=>h2 ⟨by omega,h3.2⟩),if_neg e];rfl
 have h2:zQ n par (k+1)=bD (fun c=>if k+1≤c∧par c<k then ub n par c+1000 else 0) n+bD (fun c=>if k<c∧par c=k then ub n par c+1000 else 0) n:=by
  rw [← uh];unfold zQ;refine dy fun c _=>?_;by_cases h3:k+1≤c
  ·by_cases h4:par c=k
   ·rw [if_pos ⟨h3,by omega⟩,if_neg (by omega),if_pos ⟨h3,h4⟩];omega
   ·by_cases h5:par c<k
    ·rw [if_pos ⟨h3,by omega⟩,if_pos ⟨h3,h5⟩,if_neg (fun h=>h4 h.2)];omega
    ·rw [if_neg (by omega),if_neg (fun h=>h5 h.2),if_neg (fun h=>h4 h.2)];rfl
  ·rw [if_neg (fun h=>h3 h.1),if_neg (fun h=>h3 h.1),if_neg (fun h=>h3 (by omega))];rfl
 rw [yZ,if_pos hk] at h1;rw [← QO hk] at h2;omega
theorem KW (h:∀c,c<n→par c<c):∀ {d k:Nat},k+d=n→zQ n par k=1000*(d:Int)
 | 0,k,e=>by
  have:zQ n par k=bD (fun _=>0) n:=dy fun c hc=>by rw [if_neg (by omega)]
  rw [this,oA];rfl
 | d+1,k,e=>by
  rw [N3 h (by omega),KW h (d:=d) (k:=k+1) (by omega)];omega
theorem Ik {f:Nat→Int}:∀ {n k:Nat},(∀c,c<n→0≤f c)→k<n→f k≤bD f n
 | 0,_,_,h=>absurd h (Nat.not_lt_zero _)
 | n+1,k,h,hk=>by
  rw [eT]
  by_cases e:k=n
  ·subst e;have:=oa (f:=f) (n:=k) fun c hc=>h c (by omega);omega
  ·have:=Ik (f:=f) (n:=n) (k:=k) (fun c hc=>h c (by omega)) (by omega)
   have:=h n (by omega);omega
theorem Xk (h:∀c,c<n→par c<c) {k:Nat} (hk:k<n):ub n par k+1000≤1000*((n - k:Nat):Int):=by
 have h1:=KW h (d:=n - k) (k:=k) (by omega)
 have h2:=Ik (f:=fun c=>if k≤c∧par c<k then ub n par c+1000 else 0) (n:=n) (k:=k) (fun c _=>by
  have:=rL (n:=n) (par:=par) c;show 0≤(if k≤c∧par c<k then ub n par c+1000 else 0)
  split<;>omega) hk
 rw [if_pos ⟨Nat.le_refl _,h k hk⟩] at h2;unfold zQ at h1;omega
theorem zR (F:NZ n m par own cost):∀ {d i:Nat},n≤i+d→i<n →
  (∀s,s<m → -1≤tab n m par own cost i s∧tab n m par own cost i s≤ub n par i)∧(∃s,s<m∧0≤tab n m par own cost i s) ∧
  (own i = -1→∀s,s<m→0≤tab n m par own cost i s)∧(0≤own i→∀s,s<m→tab n m par own cost i s=if own i=s then 0 else -1)
 | 0,i,h,hi=>by omega
 | d+1,i,h,hi=>by
  have Ty:∀s,s<m→∀c,c<n→i<c→0≤(bq (cost s) (tab n m par own cost c) m).1∧(bq (cost s) (tab n m par own cost c) m).1≤ub n par c+1000:=by
   intro s hs c hc hic
   obtain ⟨h1,⟨j,hj,hj0⟩,_⟩:=zR F (d:=d) (i:=c) (by omega) hc
   rcases pW (c:=cost s) (row:=tab n m par own cost c) (A:=ub n par c) (rL _) (k:=m) (fun j hj=>F.zP s j hs hj) (fun j hj=>(h1 j hj).2) with ⟨_,h3⟩ | ⟨o,_,ho,yq,h4,h5,_⟩
   ·have:=h3 j hj;omega
   ·have:=h5 j hj hj0
    have:=(h1 j hj).2
    have:=F.zP s j hs hj
    have:=F.zP s o hs ho
    constructor<;>omega
  have Bh:∀s,s<m→0≤bD (fun c=>if i<c∧par c=i then (bq (cost s) (tab n m par own cost c) m).1 else 0) n∧bD (fun c=>if i<c∧par c=i then (bq (cost s) (tab n m par own cost c) m).1 else 0) n≤ub n par i:=by
   intro s hs
   constructor
   ·exact oa fun c hc=>by
     split
     ·rename_i h2;exact (Ty s hs c hc h2.1).1
     ·exact Int.le_refl _
   ·rw [QO hi]
    exact rK fun c hc=>by
     split
     ·rename_i h2;exact (Ty s hs c hc h2.1).2
     ·exact Int.le_refl _
  have heq:∀s,tab n m par own cost i s=(if 0≤own i∧own i≠s then -1 else 0)+bD (fun c=>if i<c∧par c=i then (bq (cost s) (tab n m par own cost c) m).1 else 0) n:=fun s=>KU hi s
  have D5:=rL (n:=n) (par:=par) i
  have ho:=F.own1 i hi
  refine ⟨fun s hs=>?_,?_,fun h0 s hs=>?_,fun h0 s hs=>?_⟩
  ·rw [heq s];have:=Bh s hs;split<;>omega
  ·by_cases h0:0≤own i
   ·refine ⟨(own i).toNat,by omega,?_⟩
    rw [heq,if_neg (by omega)];have:=Bh (own i).toNat (by omega);omega
   ·refine ⟨0,F.m1,?_⟩
    rw [heq,if_neg (by omega)];have:=Bh 0 F.m1;omega
  ·rw [heq,if_neg (by omega)];have:=Bh s hs;omega
  ·have hz:bD (fun c=>if i<c∧par c=i then (bq (cost s) (tab n m par own cost c) m).1 else 0) n=0:=by
    refine (dy (g:=fun _=>0) fun c hc=>?_).trans (oA n)
    rw [if_neg];intro h2;have:=F.leaf i c hc h2.1 h2.2;omega
   rw [heq,hz]
   by_cases e:own i=s
   ·rw [if_neg (fun h=>h.2 e),if_pos e];rfl
   ·rw [if_pos ⟨h0,e⟩,if_neg e];rfl
end
end
section
def cH (ns:List ByteArray) (i:Nat):Int:=b5 (fun j=>decide ((i:Int)=gi (aq ns) j)) (aq ns).length
def sD (ns:List ByteArray) (st:List Int) (i:Nat):Int:=if 0≤cH ns i then gi st (cH ns i).toNat else -1
def DR (cs:List (List Int)) (a b:Nat):Int:=gi (gl cs a) b
def nE (t:aD) (st:List Int) (cs:List (List Int)) (i s:Nat):Int:=tab t.ps.length cs.length (gi t.ps) (sD t.ns st) (DR cs) i s
def aN (t:aD) (st:List Int) (cs:List (List Int)) (i:Nat):List Int:=(List.range cs.length).map (nE t st cs i)
theorem bX (t:aD) (st:List Int) (cs:List (List Int)) (i:Nat):(aN t st cs i).length=cs.length:=by simp [aN]
theorem fD (t:aD) (st:List Int) (cs:List (List Int)) (i:Nat) {s:Nat} (hs:s<cs.length):gi (aN t st cs i) s=nE t st cs i s:=by
 simp [gi,aN,hs]
def eH (t:aD) (st:List Int) (cs:List (List Int)) (s c:Nat):Int:=(bq (gi (gl cs s)) (gi (aN t st cs c)) (aN t st cs c).length).1
theorem Il (t:aD) (st:List Int) (cs:List (List Int)) (s c:Nat):eH t st cs s c=(bq (DR cs s) (nE t st cs c) cs.length).1:=by
 unfold eH;rw [bX];have h:bq (gi (gl cs s)) (gi (aN t st cs c)) cs.length=bq (DR cs s) (nE t st cs c) cs.length:=kZ (fun _ _=>rfl) fun j hj=>fD t st cs c hj;rw [h]
def cm (t:aD) (st:List Int) (i s:Nat):Int:=if 0≤sD t.ns st i∧sD t.ns st i≠s then -1 else 0
theorem Im (t:aD) (st:List Int) (cs:List (List Int)) {i:Nat} (hi:i<t.ps.length) (s:Nat):nE t st cs i s=cm t st i s+((cu t.ps i).map (eH t st cs s)).sum:=by
 unfold nE;rw [KU hi];unfold wh cu;rw [vZ];show cm t st i s+_=_;congr 1;exact dy fun c _=>by
  split
  ·exact (Il t st cs s c).symm
  ·rfl
end
section
theorem G0 {t:aD} {st:List Int} {cs:List (List Int)} (h:cE t st cs=0):aB t=0∧eG cs=0∧gA st (aq t.ns).length (-1) cs.length=0:=by
 unfold cE at h;by_cases h1:aB t=0
 ·rw [if_neg (fun e=>e h1)] at h
  by_cases h2:eG cs=0
  ·rw [if_neg (fun e=>e h2)] at h;exact ⟨h1,h2,h⟩
  ·rw [if_pos h2] at h;exact absurd h h2
 ·rw [if_pos h1] at h;cases h
theorem aJ {t:aD} (h:aB t=0):0<t.ps.length∧t.ps.length≤64∧t.ns.length=t.ps.length∧iQ t.ps=true∧∀i,i<t.ps.length→iC t.ps t.ns i=0:=by
 unfold aB at h;split at h
 ·cases h
 ·split at h
  ·cases h
  ·split at h
   ·cases h
   ·split at h
    ·exact ⟨by omega,by omega,by omega,‹_›,jK h⟩
    ·cases h
theorem od {cs:List (List Int)} (h:eG cs=0):0<cs.length∧cs.length≤16∧(∀a,a<cs.length→(gl cs a).length=cs.length)∧(∀a k,0≤gi (gl cs a) k∧gi (gl cs a) k≤1000)∧∀a,a<cs.length→gi (gl cs a) a=0:=by
 unfold eG at h;split at h
 ·cases h
 ·split at h
  ·cases h
  ·split at h
   ·cases h
   ·rename_i hl
    split at h
    ·cases h
    ·rename_i hm
     (have hl2:vY cs=false:=by simpa using hl);(have hm2:sS cs cs.length=false:=by simpa using hm);(have hlen:∀a,a<cs.length→(gl cs a).length=cs.length:=fun a ha=>by have:=any_false hl2 ha;simpa using this);have mB:∀a b,a<cs.length→b<(gl cs a).length→qy a b (gi (gl cs a) b)=false:=fun a b ha hb=>any_false (any_false hm2 ha) hb;refine ⟨by omega,by omega,hlen,fun a k=>?_,fun a ha=>?_⟩
     ·by_cases ha:a<cs.length
      ·by_cases hk:k<(gl cs a).length
       ·have:=mB a k ha hk
        simp [qy] at this;omega
       ·have:gi (gl cs a) k=0:=by simp [gi,List.getElem?_eq_none (by omega:(gl cs a).length≤k)]
        omega
      ·have:gl cs a=[]:=by simp [gl,List.getElem?_eq_none (by omega:cs.length≤a)]
       rw [this];simp [gi]
     ·have:=mB a a ha (by rw [hlen a ha];exact ha)
      simp [qy] at this;exact this.2
theorem sF {ns:List ByteArray} {x:Int}:x∈aq ns↔∃i:Nat,x=i∧i<ns.length∧(gs ns i).size≠0:=by
 unfold aq;rw [List.mem_map];constructor
 ·rintro ⟨i,hi,rfl⟩
  rw [List.mem_filter,List.mem_range] at hi;exact ⟨i,rfl,hi.1,by simpa using hi.2⟩
 ·rintro ⟨i,rfl,h1,h2⟩
  exact ⟨i,by rw [List.mem_filter,List.mem_range];exact ⟨h1,by simpa using h2⟩,rfl⟩
theorem jH (ns:List ByteArray):(aq ns).length≤ns.length:=by
 unfold aq;rw [List.length_map];exact Nat.le_trans (List.length_filter_le _ _) (by simp)
theorem wj {l:List Int} {k:Nat} (h:k<l.length):gi l k∈l:=by simp [gi,h]
theorem rM {ns:List ByteArray} {i:Nat} (h:0≤cH ns i):(cH ns i).toNat<(aq ns).length∧gi (aq ns) (cH ns i).toNat=i:=by
 unfold cH at h ⊢;generalize hx:b5 (fun j=>decide ((i:Int)=gi (aq ns) j)) (aq ns).length=x at *;obtain ⟨k,rfl⟩:=Int.eq_ofNat_of_zero_le h;have:=qw hx;rw [Int.toNat_natCast];exact ⟨this.1,by have:=this.2.1;simpa using (of_decide_eq_true this).symm⟩
structure Valid (t:aD) (st:List Int) (cs:List (List Int)):Prop where
 tree:aB t=0
 KX:eG cs=0
 len:st.length=(aq t.ns).length
 good:fo st (-1) cs.length=false
theorem wk {t:aD} {st:List Int} {cs:List (List Int)} (h:cE t st cs=0):Valid t st cs:=by
 obtain ⟨h1,h2,h3⟩:=G0 h;unfold gA at h3;split at h3
 ·cases h3
 ·split at h3
  ·cases h3
  ·exact ⟨h1,h2,by omega,by simpa using ‹¬fo st (-1) cs.length=true›⟩
theorem Valid.par {t:aD} {st:List Int} {cs:List (List Int)} (h:Valid t st cs):cE t st cs=0:=by
 unfold cE gA;rw [if_neg (fun e=>e h.tree),if_neg (fun e=>e h.KX),if_neg (fun e=>e h.len),h.good];rfl
theorem wm {ps:List Int} (h:iQ ps=true) {c:Nat} (hc:c<ps.length):gi ps c<c∧(0<c→0≤gi ps c)∧(c=0→gi ps c = -1):=by
 have:=Bg h hc;unfold jg at this;split at this
 ·simp at this;omega
 ·simp at this;omega
theorem G1 {t:aD} (h:aB t=0) {i c:Nat} (hc:c<t.ps.length) (hi:i<c) (hp:gi t.ps c=i):(gs t.ns i).size=0:=by
 obtain ⟨_,_,_,hok,hn⟩:=aJ h;have hin:isIn t.ps i=true:=List.any_eq_true.2 ⟨c,List.mem_range.2 hc,by simp [hp];omega⟩;have:=hn i (by omega);unfold iC at this;rw [if_pos hin] at this;by_cases e:(gs t.ns i).size=0
 ·exact e
 ·rw [if_neg e] at this;cases this
theorem zS {t:aD} (h:aB t=0) {i:Nat} (hi:i<t.ps.length) (hin:isIn t.ps i=false):aX (gs t.ns i).data.toList=true∧dg t.ns i=false:=by
 obtain ⟨_,_,_,hok,hn⟩:=aJ h;have:=hn i hi;unfold iC at this;rw [hin] at this;cases h1:aX (gs t.ns i).data.toList
 ·rw [h1] at this;cases this
 ·cases h2:dg t.ns i
  ·exact ⟨rfl,rfl⟩
  ·rw [h1,h2] at this;cases this
theorem Valid.fine {t:aD} {st:List Int} {cs:List (List Int)} (h:Valid t st cs):NZ t.ps.length cs.length (gi t.ps) (sD t.ns st) (DR cs):=by
 obtain ⟨h1,h2,h3,hok,hn⟩:=aJ h.tree;obtain ⟨m1,m2,m3,m4,m5⟩:=od h.KX;refine ⟨m1,fun c h0 hc=>(wm hok hc).2.1 h0,fun c hc=>(wm hok hc).1,fun i _=>?_,fun a b _ _=>m4 a b,fun i c hc hic hp=>?_⟩
 ·unfold sD
  split
  ·rename_i h0
   have hl:=rM h0;have hb:=any_false h.good (k:=(cH t.ns i).toNat) (by rw [h.len];exact hl.1);simp at hb;omega
  ·omega
 ·unfold sD
  rw [if_neg];intro h0;have hl:=rM h0;have hm:(i:Int)∈aq t.ns:=by rw [← hl.2];exact wj hl.1
  obtain ⟨j,e,_,hne⟩:=sF.1 hm;obtain rfl:i=j:=by omega
  exact hne (G1 h.tree hc hic hp)
theorem Valid.tb {t:aD} {st:List Int} {cs:List (List Int)} (h:Valid t st cs) (j s:Nat) (hj:j<t.ps.length):-1≤gi (aN t st cs j) s∧gi (aN t st cs j) s≤100000:=by
 by_cases hs:s<cs.length
 ·rw [fD t st cs j hs]
  have h1:=(zR h.fine (d:=t.ps.length) (i:=j) (by omega) hj).1 s hs;have h2:=Xk (par:=gi t.ps) h.fine.Xj hj;obtain ⟨_,h3,_⟩:=aJ h.tree;unfold nE;constructor<;>omega
 ·have:gi (aN t st cs j) s=0:=by simp [gi,aN,hs]
  omega
def bu (t:aD) (st:List Int) (cs:List (List Int)):Int:=if cE t st cs=0 then (bq (fun _=>0) (gi (aN t st cs 0)) cs.length).1 else 0
end
section
section
variable {t:aD} {st:List Int} {cs:List (List Int)}
theorem Sh (hv:Valid t st cs) {c:Nat→Int} (hc:∀j,j<cs.length→0≤c j∧c j≤1000) {k:Nat} (hk:k<t.ps.length) :
  ∃o:Nat,(bq c (gi (aN t st cs k)) cs.length).2=o∧o<cs.length∧0≤gi (aN t st cs k) o∧(bq c (gi (aN t st cs k)) cs.length).1=c o+gi (aN t st cs k) o ∧
   (∀j,j<cs.length→0≤gi (aN t st cs k) j→(bq c (gi (aN t st cs k)) cs.length).1≤c j+gi (aN t st cs k) j) ∧
   (∀j,j<o→0≤gi (aN t st cs k) j→(bq c (gi (aN t st cs k)) cs.length).1<c j+gi (aN t st cs k) j):=by
 obtain ⟨_,⟨s,hs,hs0⟩,_⟩:=zR hv.fine (d:=t.ps.length) (i:=k) (by omega) hk;have hs1:0≤gi (aN t st cs k) s:=by rw [fD _ _ _ _ hs];exact hs0
 rcases pW (c:=c) (row:=gi (aN t st cs k)) (A:=100000) (by omega) (k:=cs.length) hc (fun j _=>(hv.tb k j hk).2) with ⟨_,h⟩ | h
 ·have:=h s hs;omega
 ·exact h
end
end
section
end
section
section
variable {n m:Nat} {par own own':Nat→Int} {cost:Nat→Nat→Int}
theorem N5 (F:NZ n m par own cost) {s c:Nat} (hs:s<m) (hc:c<n):0≤(bq (cost s) (tab n m par own cost c) m).1:=by
 obtain ⟨h1,⟨j,hj,hj0⟩,_⟩:=zR F (d:=n) (i:=c) (by omega) hc;have hA:=rL (n:=n) (par:=par) c;rcases pW hA (c:=cost s) (row:=tab n m par own cost c) (k:=m) (fun j hj=>F.zP s j hs hj) (fun j hj=>(h1 j hj).2) with ⟨_,h3⟩ | ⟨o,_,ho,h3,h4,_,_⟩
 ·have:=h3 j hj;omega
 ·have:=F.zP s o hs ho;omega
end
end
section
theorem KY (ns:List ByteArray) {i j:Nat} (hj:j<(aq ns).length) (hij:i<j):gi (aq ns) i<gi (aq ns) j:=by
 have hp:(aq ns).Pairwise (· < ·):=by unfold aq;rw [List.pairwise_map];refine (List.Pairwise.filter _ List.pairwise_lt_range).imp ?_;intro a b h;omega
 have h:=List.pairwise_iff_getElem.1 hp i j (by omega) hj hij;have hi:i<(aq ns).length:=by omega
 simpa [gi,hi,hj] using h
theorem B5 {ns:List ByteArray} {i k:Nat} (hi:i<(aq ns).length) (hk:gi (aq ns) i=k):cH ns k=i:=by
 unfold cH;refine kK hi (fun j hj=>?_) (by simp [hk]);have:=KY ns hi hj;simp;omega
theorem Si {ns:List ByteArray} {st:List Int} {i k:Nat} (hi:i<(aq ns).length) (hk:gi (aq ns) i=k):sD ns st k=gi st i:=by
 unfold sD;rw [B5 hi hk,if_pos (by omega),Int.toNat_natCast]
theorem lN {ns:List ByteArray} {i:Nat} (hi:i<(aq ns).length):∃k:Nat,gi (aq ns) i=k∧k<ns.length∧(gs ns k).size≠0:=by
 obtain ⟨k,e,h1,h2⟩:=sF.1 (wj hi);exact ⟨k,e,h1,h2⟩
section
variable {t:aD} {st:List Int} {cs:List (List Int)}
theorem KZ (h:Valid t st cs):bu t st cs=(bq (fun _=>0) (gi (aN t st cs 0)) cs.length).1:=by unfold bu;rw [if_pos h.par]
theorem D6 (h:Valid t st cs):∃o:Nat,(bq (fun _=>0) (gi (aN t st cs 0)) cs.length).2=o∧o<cs.length∧0≤nE t st cs 0 o∧bu t st cs=nE t st cs 0 o ∧
  ∀j,j<cs.length→0≤nE t st cs 0 j→bu t st cs≤nE t st cs 0 j:=by
 have mC:=(aJ h.tree).1;obtain ⟨o,h1,h2,h3,h4,h5,_⟩:=Sh h (c:=fun _=>0) (fun _ _=>by omega) mC;rw [KZ h];rw [fD _ _ _ _ h2] at h3 h4;refine ⟨o,h1,h2,h3,by rw [h4];omega,fun j hj hj0=>?_⟩;have:=h5 j hj (by rw [fD _ _ _ _ hj];exact hj0);rw [fD _ _ _ _ hj] at this;omega
theorem qz (h:Valid t st cs):0≤bu t st cs:=by obtain ⟨o,_,_,h3,h4,_⟩:=D6 h;omega
theorem wu (h:Valid t st cs):bu t st cs≤100000:=by
 obtain ⟨o,_,h2,_,h4,_⟩:=D6 h;have:=(h.tb 0 o (aJ h.tree).1).2;rw [fD _ _ _ _ h2] at this;omega
end
end
section
end
section
end
end Go.Proofs.YthgabkgmkolobaaGreat
