/- Sets and splits: what intset and split compute. Plain. Lists of splits: ordered, each .. -/
import Derived.Test.YthgabkgmkolobaaGreatQ29
import Derived.Test.YthgabkgmkolobaaGreatQ18
set_option maxRecDepth 100000
set_option maxHeartbeats 1000000
namespace Go.Proofs.YthgabkgmkolobaaGreat
section
def uV (l:List Int) (i:Nat):Int:=if gi l i<0\/63<gi l i then 2 else if 0<i/\gi l i<=gi l (i - 1) then 10 else 0
def zu (l:List Int):Int:=bU (uV l) l.length
structure qc (l:List Int):Prop where
 xD:l.Pairwise (· < ·)
 bd:∀x∈l,0<=x/\x<=63
theorem VO {l:List Int} (h:∀i,i+1<l.length->gi l i<gi l (i+1)):l.Pairwise (· < ·):=by
 have key:∀d i,i+d+1<l.length->gi l i<gi l (i+d+1):=by
  intro d
  induction d with
  | zero=>intro i hi;exact h i hi
  | succ d ih =>
   intro i hi;have h1:=ih i (by omega);have h2:=h (i+d+1) (by omega);rw [show i+(d+1)+1=i+d+1+1 by omega];omega
 refine nS.2 fun i j hi hj hij=>?_;have h1:=key (j - i - 1) i (by omega);rw [show i+(j - i - 1)+1=j by omega] at h1;simpa [gi,hi,hj] using h1
theorem PD {l:List Int} (h:l.Pairwise (· < ·)) {i j:Nat} (hij:i<j) (hj:j<l.length):gi l i<gi l j:=by
 have:=nS.1 h i j (by omega) hj hij;simpa [gi,hj,show i<l.length by omega] using this
theorem gi_in {l:List Int} {k:Nat} (h:k<l.length):gi l k∈l:=by simp [gi,h]
theorem S4 {l:List Int} {x:Int} (h:x∈l):∃k,k<l.length/\gi l k=x:=by
 obtain ⟨k,hk,e⟩:=CO.1 h;exact ⟨k,hk,by simp [gi,hk,e]⟩
theorem uW {l:List Int}:zu l=0↔qc l:=by
 constructor
 ·intro h
  have hb:=jB h;refine ⟨VO fun i hi=>?_,fun x hx=>?_⟩
  ·have:=hb (i+1) hi
   unfold uV at this;split at this
   ·cases this
   ·split at this
    ·cases this
    ·rename_i h2
     rw [Nat.add_sub_cancel] at h2;omega
  ·obtain ⟨k,hk,e⟩:=S4 hx
   have:=hb k hk;unfold uV at this;split at this
   ·cases this
   ·omega
 ·intro h
  refine cR fun j hj=>?_;have hb:=h.bd _ (gi_in hj);unfold uV;rw [if_neg (by omega),if_neg];rintro ⟨h1,h2⟩;have:=PD h.xD (i:=j - 1) (j:=j) (by omega) hj;omega
def cM (n:Int) (s:List Int):Int :=
 if n<1\/32<n then 2 else if zu s≠0 then zu s else if 0<s.length/\(gi s 0=0\/n<=gi s (s.length - 1)) then 2 else if (s.length:Int)<2\/n - 2<s.length then 8 else 0
structure yP (n:Int) (s:List Int):Prop where
 n1:1<=n/\n<=32
 set:qc s
 bd:∀x∈s,1<=x/\x<n
 len:2<=s.length/\(s.length:Int)<=n - 2
theorem set_last {s:List Int} (h:qc s) {x:Int} (hx:x∈s):gi s 0<=x/\x<=gi s (s.length - 1):=by
 obtain ⟨k,hk,rfl⟩:=S4 hx;constructor
 ·by_cases e:k=0
  ·subst e;exact lT _
  ·exact Int.le_of_lt (PD h.xD (by omega) hk)
 ·by_cases e:k=s.length - 1
  ·subst e;exact lT _
  ·exact Int.le_of_lt (PD h.xD (by omega) (by omega))
theorem nJ {n:Int} {s:List Int}:cM n s=0↔yP n s:=by
 constructor
 ·intro h
  unfold cM at h;split at h
  ·cases h
  ·split at h
   ·rename_i h2;exact absurd h h2
   ·rename_i h2
    have hs:=uW.1 (Fo.1 h2);split at h
    ·cases h
    ·rename_i h3
     split at h
     ·cases h
     ·refine ⟨by omega,hs,fun x hx=>?_,by omega⟩
      have h4:=set_last hs hx;have h5:=hs.bd x hx;have h6:0<s.length:=Fv hx;have h7:=hs.bd _ (gi_in h6);omega
 ·intro h
  have h1:=h.n1;have h2:=h.len;unfold cM;rw [if_neg (by omega),if_neg (fun e=>e (uW.2 h.set)),if_neg,if_neg (by omega)];rintro ⟨h3,h4⟩;have h5:=h.bd _ (gi_in h3);have h6:=h.bd _ (gi_in (l:=s) (k:=s.length - 1) (by omega));omega
theorem Dq (p:Int->Bool) (n:Nat):iG p (n+1)=iG p n++if p n=true then [(n:Int)] else []:=by
 unfold iG;rw [rX,cg,vg];congr 1;simp only [cK,wQ,List.filter_cons,List.filter_nil]
theorem rS (p:Int->Bool) (n:Nat):(iG p n).length<=n:=by
 unfold iG;exact aJ (pG _ _) (by simp)
theorem vM (p:Int->Bool) (n:Nat):(iG p n).Pairwise (· < ·):=by
 refine Fq _ ?_;rw [uD];exact List.pairwise_lt_range.imp fun h=>by omega
theorem E6 {a b:List Int} (ha:a.Pairwise (· < ·)) (hb:b.Pairwise (· < ·)) (h:∀x,x∈a↔x∈b):a=b:=by
 induction a generalizing b with
 | nil =>
  cases b with
  | nil=>rfl
  | cons y b=>exact absurd ((h y).2 (by simp)) (by simp)
 | cons x a ih =>
  cases b with
  | nil=>exact absurd ((h x).1 (by simp)) (by simp)
  | cons y b =>
   rw [iI] at ha hb
   have e:x=y:=by
    have h1:=(h x).1 (by simp)
    have h2:=(h y).2 (by simp)
    rw [aW] at h1 h2
    rcases h1 with h1 | h1
    ·exact h1
    ·rcases h2 with h2 | h2
     ·exact h2.symm
     ·have:=ha.1 y h2;have:=hb.1 x h1;omega
   subst e
   congr 1
   refine ih ha.2 hb.2 fun z=>?_
   constructor
   ·intro hz
    have h1:=(h z).1 (by simp [hz])
    rw [aW] at h1
    rcases h1 with rfl | h1
    ·have:=ha.1 _ hz;omega
    ·exact h1
   ·intro hz
    have h1:=(h z).2 (by simp [hz])
    rw [aW] at h1
    rcases h1 with rfl | h1
    ·have:=hb.1 _ hz;omega
    ·exact h1
def kB (a b:List Int):List Int:=iG (fun x=>a.contains x&&b.contains x) 64
def dZ (n:Int) (a:List Int):List Int:=iG (fun x=>!a.contains x) n.toNat
theorem l9 {a b:List Int} (ha:qc a) {x:Int}:x∈kB a b↔x∈a/\x∈b:=by
 unfold kB;rw [vF];simp only [gD,iP];exact ⟨fun h=>h.2.2,fun h=>by have:=ha.bd x h.1;exact ⟨by omega,by omega,h⟩⟩
theorem ny {n:Int} {a:List Int} {x:Int}:x∈dZ n a↔0<=x/\x<n/\x∉a:=by
 unfold dZ;rw [vF];constructor
 ·rintro ⟨h1,h2,h3⟩
  exact ⟨h1,by omega,fun h=>by rw [iP.2 h] at h3;cases h3⟩
 ·rintro ⟨h1,h2,h3⟩
  refine ⟨h1,by omega,?_⟩;cases e:a.contains x with
  | false=>rfl
  | true=>exact absurd (iP.1 e) h3
theorem set_nodup {a:List Int} (h:a.Pairwise (· < ·)):a.Nodup:=h.imp fun h e=>by omega
theorem Ot {a b:List Int} (ha:a.Pairwise (· < ·)) (hb:b.Pairwise (· < ·)) (h:∀x∈a,x∈b):b.filter (fun x=>a.contains x)=a :=
 E6 (hb.filter _) ha fun x=>by
  rw [fL,iP]
  exact ⟨fun e=>e.2,fun e=>⟨h x e,e⟩⟩
theorem nK {a b:List Int} (ha:a.Pairwise (· < ·)) (hb:b.Pairwise (· < ·)) (h:∀x∈a,x∈b):a.length<=b.length:=by
 rw [<- Ot ha hb h];exact pG _ _
theorem Gd {a b:List Int} (ha:a.Pairwise (· < ·)) (hb:b.Pairwise (· < ·)) (h:∀x∈a,x∈b) (hl:a.length=b.length):∀x∈b,x∈a:=by
 have h1:=Ot ha hb h;have h2:(b.filter (fun x=>a.contains x)).length=b.length:=by rw [h1,hl]
 exact fun x hx=>iP.1 (List.length_filter_eq_length_iff.1 h2 x hx)
def rT (a b:List Int):Bool:=decide ((kB a b).length=0) || decide ((kB a b).length=a.length) || decide ((kB a b).length=b.length)
theorem tX (a b:List Int):(kB a b).Pairwise (· < ·):=vM _ _
theorem Jk {a b:List Int} (ha:qc a) (hb:qc b):rT a b=true↔(∀x∈a,x∉b)\/(∀x∈a,x∈b)\/(∀x∈b,x∈a):=by
 unfold rT;simp only [Ah,decide_eq_true_eq];have e0:(kB a b).length=0↔∀x∈a,x∉b:=by
  rw [CL];constructor
  ·intro h x h1 h2
   have:=(l9 ha).2 ⟨h1,h2⟩;rw [h] at this;cases this
  ·intro h
   refine JP.2 fun x hx=>?_;obtain ⟨h1,h2⟩:=(l9 ha).1 hx;exact h x h1 h2
 have e1:(kB a b).length=a.length↔∀x∈a,x∈b:=by
  constructor
  ·intro h x hx
   exact ((l9 ha).1 (Gd (tX a b) ha.xD (fun y hy=>((l9 ha).1 hy).1) h x hx)).2
  ·intro h
   have h1:=nK (tX a b) ha.xD (b:=a) fun y hy=>((l9 ha).1 hy).1;have h2:=nK ha.xD (tX a b) fun y hy=>(l9 ha).2 ⟨hy,h y hy⟩;omega
 have e2:(kB a b).length=b.length↔∀x∈b,x∈a:=by
  constructor
  ·intro h x hx
   exact ((l9 ha).1 (Gd (tX a b) hb.xD (fun y hy=>((l9 ha).1 hy).2) h x hx)).1
  ·intro h
   have h1:=nK (tX a b) hb.xD fun y hy=>((l9 ha).1 hy).2;have h2:=nK hb.xD (tX a b) fun y hy=>(l9 ha).2 ⟨h y hy,hy⟩;omega
 rw [e0,e1,e2,or_assoc]
def pg (l:List (List Int)) (i:Nat):Int:=dI (fun k=>decide (i<k)&&!rT (gl l i) (gl l k)) l.length
def oL (l:List (List Int)):Int:=dI (fun i=>decide (0<=pg l i)) l.length
def pairK (l:List (List Int)):Int:=pg l (oL l).toNat
end
section
def cmpL:List Int->List Int->Int
 | [],[]=>0
 | [],_::_=>-1
 | _::_,[]=>1
 | a::a1,b::bs=>if a<b then -1 else if b<a then 1 else cmpL a1 bs
theorem Dr:∀a:List Int,cmpL a a=0
 | []=>rfl
 | a::a1=>by rw [cmpL,if_neg (by omega),if_neg (by omega)];exact Dr a1
theorem rA:∀ {a b:List Int},cmpL a b=0->a=b
 | [],[],_=>rfl
 | [],_::_,h=>by rw [cmpL] at h;omega
 | _::_,[],h=>by rw [cmpL] at h;omega
 | a::a1,b::bs,h=>by
  rw [cmpL] at h
  split at h
  ·omega
  ·split at h
   ·omega
   ·rw [rA h];congr 1;omega
theorem tD:∀a b:List Int,cmpL b a = - cmpL a b
 | [],[]=>rfl
 | [],_::_=>rfl
 | _::_,[]=>rfl
 | a::a1,b::bs=>by
  rw [cmpL,cmpL]
  by_cases h1:a<b
  ·simp only [if_pos h1,if_neg (show ¬b<a by omega)];rfl
  ·by_cases h2:b<a
   ·simp only [if_pos h2,if_neg h1]
   ·rw [if_neg h1,if_neg h2,if_neg h2,if_neg h1];exact tD a1 bs
theorem AG:∀ {a b c:List Int},cmpL a b<0->cmpL b c<0->cmpL a c<0
 | [],[],c,h,_=>by rw [cmpL] at h;omega
 | [],_::_,[],_,h=>by rw [cmpL] at h;omega
 | [],_::_,_::_,_,_=>by rw [cmpL];omega
 | _::_,[],_,h,_=>by rw [cmpL] at h;omega
 | _::_,_::_,[],_,h=>by rw [cmpL] at h;omega
 | a::a1,b::bs,c::cs,h1,h2=>by
  rw [cmpL] at h1 h2 ⊢
  by_cases x1:a<b
  ·by_cases y1:b<c
   ·rw [if_pos (by omega)];omega
   ·rw [if_neg y1] at h2
    by_cases y2:c<b
    ·rw [if_pos y2] at h2;omega
    ·rw [if_pos (by omega)];omega
  ·rw [if_neg x1] at h1
   by_cases x2:b<a
   ·rw [if_pos x2] at h1;omega
   ·rw [if_neg x2] at h1
    by_cases y1:b<c
    ·rw [if_pos (by omega)];omega
    ·rw [if_neg y1] at h2
     by_cases y2:c<b
     ·rw [if_pos y2] at h2;omega
     ·rw [if_neg y2] at h2
      rw [if_neg (by omega),if_neg (by omega)]
      exact AG h1 h2
def E7 (a b:List Int):Prop:=cmpL a b<0
def Ds (a b:List Int):Prop:=cmpL a b<=0
theorem leX_trans {a b c:List Int} (h1:Ds a b) (h2:Ds b c):Ds a c:=by
 unfold Ds at *;by_cases e1:cmpL a b=0
 ·rw [rA e1];exact h2
 ·by_cases e2:cmpL b c=0
  ·rw [<- rA e2];exact h1
  ·have h3:cmpL a b<0:=by omega
   (have h4:cmpL b c<0:=by omega);exact Int.le_of_lt (AG h3 h4)
def Mc (a:List Int):List (List Int)->List (List Int)
 | []=>[a]
 | b::l=>if cmpL a b<=0 then a::b::l else b::Mc a l
def Ou:List (List Int)->List (List Int)
 | []=>[]
 | a::l=>Mc a (Ou l)
theorem Jl (a:List Int):∀l:List (List Int),(Mc a l).Perm (a::l)
 | []=>k9 _
 | b::l=>by
  rw [Mc]
  split
  ·exact k9 _
  ·exact (List.Perm.cons b (Jl a l)).trans (List.Perm.swap a b l)
theorem AH:∀l:List (List Int),(Ou l).Perm l
 | []=>k9 _
 | a::l=>(Jl a _).trans (List.Perm.cons a (AH l))
theorem Lb (a:List Int):∀ {l:List (List Int)},l.Pairwise Ds->(Mc a l).Pairwise Ds
 | [],_=>by simp [Mc]
 | b::l,h=>by
  rw [Mc]
  rw [iI] at h
  split
  ·rename_i h1
   refine iI.2 ⟨fun c hc=>?_,iI.2 h⟩
   rcases aW.1 hc with rfl | hc
   ·exact h1
   ·exact leX_trans h1 (h.1 c hc)
  ·rename_i h1
   refine iI.2 ⟨fun c hc=>?_,Lb a h.2⟩
   rcases aW.1 ((Jl a l).mem_iff.1 hc) with rfl | hc
   ·unfold Ds;have:=tD c b;omega
   ·exact h.1 c hc
theorem Ck:∀l:List (List Int),(Ou l).Pairwise Ds
 | []=>List.Pairwise.nil
 | a::l=>Lb a (Ck l)
theorem sortX_uniq {a b:List (List Int)} (hp:a.Perm b) (h:a.Pairwise Ds):a=Ou b :=
 List.Perm.eq_of_pairwise (le:=Ds) (fun x y _ _ h1 h2=>rA (by unfold Ds at h1 h2;have:=tD x y;omega)) h (Ck b) (hp.trans (AH b).symm)
def jX:List (List Int)->List (List Int)
 | []=>[]
 | a::l=>if l.head? = some a then jX l else a::jX l
theorem yl {x:List Int}:∀ {l:List (List Int)},x∈jX l↔x∈l
 | []=>by rw [jX]
 | a::l=>by
  rw [jX]
  split
  ·rename_i h
   rw [yl,aW]
   constructor
   ·exact .inr
   ·rintro (rfl | h1)
    ·exact List.mem_of_head? h
    ·exact h1
  ·rw [aW,aW,yl]
theorem D3:∀ {l:List (List Int)},l.Pairwise Ds->(jX l).Pairwise E7
 | [],_=>List.Pairwise.nil
 | a::l,h=>by
  rw [iI] at h
  rw [jX]
  split
  ·exact D3 h.2
  ·rename_i hne
   refine iI.2 ⟨fun c hc=>?_,D3 h.2⟩
   have hc:=yl.1 hc
   have h1:=h.1 c hc
   unfold E7
   unfold Ds at h1
   by_cases e:cmpL a c=0
   ·exfalso
    have e:=rA e
    subst e
    cases l with
    | nil=>cases hc
    | cons b l =>
     rw [List.head?_cons] at hne
     have h2:=h.1 b (by simp)
     rcases aW.1 hc with rfl | hc
     ·exact hne rfl
     ·have h3:=(iI.1 h.2).1 _ hc
      unfold Ds at h2 h3
      have:=tD a b
      exact hne (by rw [rA (a:=a) (b:=b) (by omega)])
   ·omega
theorem PE {a b:List (List Int)} (ha:a.Pairwise E7) (hb:b.Pairwise E7) (h:∀x,x∈a↔x∈b):a=b:=by
 have nd:∀ {q:List (List Int)},q.Pairwise E7->q.Nodup:=fun hq=>hq.imp fun {x y} h1 e=>by subst e;unfold E7 at h1;rw [Dr] at h1;omega
 have hp:a.Perm b:=(List.perm_ext_iff_of_nodup (nd ha) (nd hb)).2 h;exact List.Perm.eq_of_pairwise (le:=E7) (fun x y _ _ h1 h2=>by unfold E7 at h1 h2;have:=tD x y;omega) ha hb hp
def oH (l:List (List Int)):List (List Int):=jX (Ou l)
theorem rU {x:List Int} {l:List (List Int)}:x∈oH l↔x∈l:=by unfold oH;rw [yl];exact (AH l).mem_iff
theorem si (l:List (List Int)):(oH l).Pairwise E7:=D3 (Ck l)
theorem ordX_congr {a b:List (List Int)} (h:∀x,x∈a↔x∈b):oH a=oH b:=PE (si a) (si b) fun x=>by rw [rU,rU];exact h x
end
section
open Go.RowKit Go.Deep
def uz (x y:Int):Int:=if x<y then -1 else if y<x then 1 else 0
theorem nan_t (x:Int) (w:World):Calls Tryz.prog 131 #[.int .i64 x] w fun e w'=>e=.returned (.bool false)/\w=w':=by
 go_enter Tryz.func131,Tryz.ntmps131
 go_wp2_with fail
 go_ret
 exact ⟨aV (by simp),rfl⟩
theorem cmpI_t (x y:Int) (w:World):Calls Tryz.prog 80 #[.int .i64 x,.int .i64 y] w fun e w'=>e=.returned (.int .i64 (uz x y))/\w=w':=by
 have HX:=aa (nan_t x w);have HY:=aa (nan_t y w);have HC:Hid (uz x y=if x<y then -1 else if y<x then 1 else 0):=rfl;by_cases h1:x<y
 ·have h2:¬y<x:=by omega
  go_enter Tryz.func80,Tryz.ntmps80
  go_wp2_with fail;refine HX.out.mono ?_;rintro e w' ⟨rfl,rfl⟩;go_wp2_with fail;refine HY.out.mono ?_;rintro e w' ⟨rfl,rfl⟩;go_wp2_with fail;go_ret;exact ⟨aM (by rw [HC.out,if_pos h1]),rfl⟩
 by_cases h2:y<x
 ·go_enter Tryz.func80,Tryz.ntmps80
  go_wp2_with fail;refine HX.out.mono ?_;rintro e w' ⟨rfl,rfl⟩;go_wp2_with fail;refine HY.out.mono ?_;rintro e w' ⟨rfl,rfl⟩;go_wp2_with fail;go_ret;exact ⟨aM (by rw [HC.out,if_neg (by omega),if_pos h2]),rfl⟩
 ·go_enter Tryz.func80,Tryz.ntmps80
  go_wp2_with fail;refine HX.out.mono ?_;rintro e w' ⟨rfl,rfl⟩;go_wp2_with fail;refine HY.out.mono ?_;rintro e w' ⟨rfl,rfl⟩;go_wp2_with fail;go_ret;exact ⟨aM (by rw [HC.out,if_neg (by omega),if_neg (by omega)]),rfl⟩
theorem cmpL_nil (b:List Int):cmpL [] b=if b.length=0 then 0 else -1:=by cases b<;>simp [cmpL]
theorem Dt {a b:List Int}:∀ {k:Nat},k<=a.length->k<=b.length->(∀j,j<k->gi a j=gi b j)->cmpL a b=cmpL (a.drop k) (b.drop k)
 | 0,_,_,_=>by simp
 | k+1,ha,hb,h=>by
  rw [Dt (k:=k) (by omega) (by omega) fun j hj=>h j (by omega)]
  rw [Aj (show k<a.length by omega),Aj (show k<b.length by omega)]
  have e:=h k (by omega)
  simp only [gi,kD,iQ (show k<a.length by omega),iQ (show k<b.length by omega),Option.getD_some] at e
  rw [cmpL,if_neg (by omega),if_neg (by omega)]
theorem cmpL_at {a b:List Int} {k:Nat} (ha:k<a.length) (hb:k<b.length) (h:∀j,j<k->gi a j=gi b j) (hne:uz (gi a k) (gi b k)≠0):cmpL a b=uz (gi a k) (gi b k):=by
 rw [Dt (by omega) (by omega) h,Aj ha,Aj hb];have e1:gi a k=a[k]:=by simp [gi,ha]
 have e2:gi b k=b[k]:=by simp [gi,hb]
 rw [e1,e2] at hne ⊢;unfold uz at hne ⊢;rw [cmpL];split
 ·rfl
 ·rename_i h1
  rw [if_neg h1] at hne;split
  ·rfl
  ·rename_i h2;rw [if_neg h2] at hne;exact absurd rfl hne
theorem cmpL_t (S T:Nat->Prop) (w:World) (v u:Value) (a b:List Int) (h:ah S w v a) (h2:ah T w u b) (hn:a.length<=1000000) (_:b.length<=1000000) :
  Calls Tryz.prog 81 #[v,u] w fun e w'=>e=.returned (.int .i64 (cmpL a b))/\w=w':=by
 obtain ⟨p,cap,rfl,-,-⟩:=ay.open h;obtain ⟨q,E8,rfl,-,-⟩:=ay.open h2;have H:Hid (ah S w (.slice p a.length cap) a):=h;have H2:Hid (ah T w (.slice q b.length E8) b):=h2;clear h h2
 go_enter Tryz.func81,Tryz.ntmps81
 go_wp2_with fail
 go_loop [5,6,7,8,11] (fun _ _ _ _ i=>∃k:Nat,k<=a.length/\k<=b.length/\i=.int .i64 k/\Hid (∀j,j<k->gi a j=gi b j)) (fun _ _ _ _ i=>a.length - (intOf i).toNat)
 case atStart=>exact ⟨0,aL _,aL _,rfl,fun j hj=>absurd hj (bG _)⟩
 case round =>
  obtain ⟨k,hk,hk2,rfl,hd⟩:=hrel;by_cases hlt:k<a.length
  ·obtain ⟨b1,o1,rfl,hc⟩:=dG H.out hlt
   have k1:(0:Int)<=(k:Int):=CG _;have k2:(k:Int)<(a.length:Int):=Ai.2 hlt;by_cases hlt2:k<b.length
   ·obtain ⟨b2,o2,rfl,hc2⟩:=dG H2.out hlt2
    have k3:(k:Int)<(b.length:Int):=Ai.2 hlt2;(have k4:¬(b.length:Int)<=(k:Int):=by omega);have uo:Hid (uz (gi a k) (gi b k)≠0->cmpL a b=uz (gi a k) (gi b k)):=cmpL_at hlt hlt2 hd.out;have HEQ:Hid (uz (gi a k) (gi b k)=0->gi a k=gi b k):=fun e=>by
     unfold uz at e;split at e
     ·cases e
     ·split at e
      ·cases e
      ·omega
    have HC:=aa (cmpI_t (gi a k) (gi b k) w);generalize hgx:gi a k=x at *;generalize hgy:gi b k=y at *;have HGX:=aa hgx;have HGY:=aa hgy;clear hgx hgy;generalize uz x y=c at *;by_cases h0:c=0
    ·have HE:=aa (HEQ.out h0)
     subst h0;go_wp2_with fail;refine HC.out.mono ?_;rintro e w' ⟨rfl,rfl⟩;go_wp2_with fail
     go_round
     case rel=>exact ⟨k+1,by omega,by omega,by go_num,fun j hj=>by
      by_cases e:j=k
      ·subst e;rw [HGX.out,HGY.out];exact HE.out
      ·exact hd.out j (by omega)⟩
     case measure=>simp [intOf];omega
    ·have HZ:=aa h0
     (have d1:(c==0)=false:=by simpa using h0);(have d2:(c != 0)=true:=by simpa using h0);clear h0;go_wp2_with fail;refine HC.out.mono ?_;rintro e w' ⟨rfl,rfl⟩;go_wp2_with fail;go_ret;exact ⟨aM (uo.out HZ.out).symm,rfl⟩
   ·obtain rfl:k=b.length:=by omega
    have k4:(b.length:Int)<=(b.length:Int):=lT _;have HL:=aa hlt;go_wp2_with fail;go_ret;exact ⟨aM (by rw [Dt hk (af _) hd.out,List.drop_length,Aj HL.out];rfl),rfl⟩
  ·obtain rfl:k=a.length:=by omega
   (have HR:Hid (cmpL a b=if b.length - a.length=0 then 0 else -1):=by unfold Hid;rw [Dt (af _) hk2 hd.out,List.drop_length,cmpL_nil,wO]);by_cases hl:a.length<b.length
   ·have hl2:(a.length:Int)<(b.length:Int):=Ai.2 hl
    go_wp2_with fail;go_ret;exact ⟨aM (by rw [HR.out,if_neg (by omega)]),rfl⟩
   ·have hl2:¬(a.length:Int)<(b.length:Int):=by omega
    have HL:=aa hl;go_wp2_with fail;go_ret;exact ⟨aM (by rw [HR.out,if_pos (by have:=HL.out;omega)]),rfl⟩
end
end Go.Proofs.YthgabkgmkolobaaGreat
namespace Go.Proofs
open Go.Shelf
def Tryz.sortRow_ren:Go.Shelf.Ren:=⟨fun | 6=>77 | 15=>127 | 14=>130 | 28=>181 | 29=>182 | 20=>185 | 21=>186 | 22=>187 | 23=>188 | 24=>189 | 25=>190 | 26=>191 | 27=>192 | 46=>243 | 47=>235 | 48=>236 | 49=>244 | 50=>245 | 57=>273 | n=>n,fun | 22=>23 | 24=>26 | 25=>106 | 3=>3 | 39=>154 | 0=>0 | 53=>191 | 55=>193 | 4=>4 | 46=>183 | 45=>182 | 50=>188 | 5=>5 | 9=>9 | 66=>238 | 70=>242 | 76=>267 | 77=>177 | n=>n,fun | n=>n⟩
theorem Tryz.sortRow:Go.Proofs.SlLaysF.n6 Tryz.prog Tryz.sortRow_ren:={
 mixed:=by kernel_rfl
 f6:=⟨Tryz.f77.name,by decide,Tryz.func77.trans (congrArg some (by kernel_rfl))⟩
 f14:=⟨Tryz.f130.name,by decide,Tryz.func130.trans (congrArg some (by kernel_rfl))⟩
 f15:=Tryz.func127.trans (congrArg some (by kernel_rfl))
 f20:=⟨Tryz.f185.name,by decide,Tryz.func185.trans (congrArg some (by kernel_rfl))⟩
 f21:=⟨Tryz.f186.name,by decide,Tryz.func186.trans (congrArg some (by kernel_rfl))⟩
 f22:=⟨Tryz.f187.name,by decide,Tryz.func187.trans (congrArg some (by kernel_rfl))⟩
 f23:=⟨Tryz.f188.name,by decide,Tryz.func188.trans (congrArg some (by kernel_rfl))⟩
 f24:=⟨Tryz.f189.name,by decide,Tryz.func189.trans (congrArg some (by kernel_rfl))⟩
 f25:=⟨Tryz.f190.name,by decide,Tryz.func190.trans (congrArg some (by kernel_rfl))⟩
 f26:=⟨Tryz.f191.name,by decide,Tryz.func191.trans (congrArg some (by kernel_rfl))⟩
 f27:=⟨Tryz.f192.name,by decide,Tryz.func192.trans (congrArg some (by kernel_rfl))⟩
 f28:=Tryz.func181.trans (congrArg some (by kernel_rfl))
 f29:=Tryz.func182.trans (congrArg some (by kernel_rfl))
 f46:=⟨Tryz.f243.name,by decide,Tryz.func243.trans (congrArg some (by kernel_rfl))⟩
 f47:=Tryz.func235.trans (congrArg some (by kernel_rfl))
 f48:=Tryz.func236.trans (congrArg some (by kernel_rfl))
 f49:=⟨Tryz.f244.name,by decide,Tryz.func244.trans (congrArg some (by kernel_rfl))⟩
 f50:=⟨Tryz.f245.name,by decide,Tryz.func245.trans (congrArg some (by kernel_rfl))⟩
 f57:=⟨Tryz.f273.name,by decide,Tryz.func273.trans (congrArg some (by kernel_rfl))⟩
 t0:=Tryz.underlying0
 a0:=Tryz.isAgg0
 z0:=Tryz.sizeOf0
 v0:=Tryz.zeroValue0
 t3:=Tryz.underlying3
 a3:=Tryz.isAgg3
 z3:=Tryz.sizeOf3
 v3:=Tryz.zeroValue3
 t4:=Tryz.underlying4
 a4:=Tryz.isAgg4
 z4:=Tryz.sizeOf4
 v4:=Tryz.zeroValue4
 t5:=Tryz.underlying5
 a5:=Tryz.isAgg5
 z5:=Tryz.sizeOf5
 v5:=Tryz.zeroValue5
 t9:=Tryz.underlying9
 a9:=Tryz.isAgg9
 z9:=Tryz.sizeOf9
 v9:=Tryz.zeroValue9
 t22:=Tryz.underlying23
 a22:=Tryz.isAgg23
 z22:=Tryz.sizeOf23
 v22:=Tryz.zeroValue23
 a24:=Tryz.isAgg26
 z24:=Tryz.sizeOf26
 t25:=Tryz.underlying106
 a25:=Tryz.isAgg106
 z25:=Tryz.sizeOf106
 v25:=Tryz.zeroValue106
 t39:=Tryz.underlying154
 a39:=Tryz.isAgg154
 z39:=Tryz.sizeOf154
 v39:=Tryz.zeroValue154
 t45:=Tryz.underlying182
 a45:=Tryz.isAgg182
 z45:=Tryz.sizeOf182
 v45:=Tryz.zeroValue182
 t46:=Tryz.underlying183
 a46:=Tryz.isAgg183
 z46:=Tryz.sizeOf183
 v46:=Tryz.zeroValue183
 t50:=Tryz.underlying188
 a50:=Tryz.isAgg188
 z50:=Tryz.sizeOf188
 v50:=Tryz.zeroValue188
 t53:=Tryz.underlying191
 a53:=Tryz.isAgg191
 z53:=Tryz.sizeOf191
 v53:=Tryz.zeroValue191
 t55:=Tryz.underlying193
 a55:=Tryz.isAgg193
 z55:=Tryz.sizeOf193
 v55:=Tryz.zeroValue193
 t66:=Tryz.underlying238
 a66:=Tryz.isAgg238
 z66:=Tryz.sizeOf238
 v66:=Tryz.zeroValue238
 t70:=Tryz.underlying242
 a70:=Tryz.isAgg242
 z70:=Tryz.sizeOf242
 v70:=Tryz.zeroValue242
 t76:=Tryz.underlying267
 a76:=Tryz.isAgg267
 z76:=Tryz.sizeOf267
 v76:=Tryz.zeroValue267
 t77:=Tryz.underlying177
 a77:=Tryz.isAgg177
 z77:=Tryz.sizeOf177
 v77:=Tryz.zeroValue177 }
end Go.Proofs
namespace Go.Proofs.YthgabkgmkolobaaGreat
section
open Go.RowKit Go.Deep Go.Sort Go.Shelf Go.Lib
structure uu (base:Nat) (w:World) (v:Value) (ps:List (List Int×Value)):Prop where
 own:ax base 26 w v (ps.map (·.2))
 shape:∀p∈ps,∃q c,p.2=.slice q p.1.length c
 row:∀p∈ps,ah (fun b=>v.ownBlock≠some b) w p.2 p.1
theorem swo_of {α:Type} {f:α->List Int} {cf:List Int->List Int->Int} (h0:∀a,cf a a=0) (hz:∀ {a b},cf a b=0->a=b) (ha:∀a b,cf b a = - cf a b) (ht:∀ {a b c},cf a b<0->cf b c<0->cf a c<0):SWO (ltOf fun (x y:α)=>cf (f x) (f y)) where
 irrefl x:=by simp [ltOf,h0]
 trans x y z h1 h2:=by
  simp only [ltOf,decide_eq_true_eq] at *
  exact ht h1 h2
 ntrans x y z h1 h2:=by
  simp only [ltOf,decide_eq_false_iff_not] at *
  intro h3
  by_cases e:cf (f x) (f y)=0
  ·rw [hz e] at h3;exact h2 h3
  ·have h4:cf (f y) (f x)<0:=by have:=ha (f x) (f y);omega
   exact h2 (ht h4 h3)
theorem Ov {cf:List Int->List Int->Int} (h0:∀a,cf a a=0) (hz:∀ {a b},cf a b=0->a=b) (ha:∀a b,cf b a = - cf a b) (ht:∀ {a b c},cf a b<0->cf b c<0->cf a c<0)
  (g:Nat) (cb:Array Value) (eg:∀args w,(callFunc g args).run Tryz.prog w=.ok (.enter g args) w) {base:Nat} {w:World} {v:Value} {ps:List (List Int×Value)} (h:uu base w v ps) (hn:ps.length<=1000000)
  (hc:∀p∈ps,∀q∈ps,∀W,w.grownBy W v.ownBlock->Calls Tryz.prog g (#[p.2,q.2]++cb) W fun e w'=>e=.returned (.int .i64 (cf p.1 q.1))/\∃n os,w'=grow (W.drewN n) os) :
  Calls Tryz.prog 77 #[v,.func (.func g) #[] cb] w fun e w'=>e=.returned (.tuple #[])/\w.grownBy w' v.ownBlock/\∃ps',(ps'.map (·.1)).Perm (ps.map (·.1))/\(ps'.map (·.1)).Pairwise (fun a b=>cf a b<=0)/\uu base w' v ps'/\∀p∈ps',p∈ps:=by
 by_cases hp:ps=[]
 ·subst hp
  have ho:=h.own;obtain ⟨q,c,hv,_⟩:=ho.form (n:=0) (by simp);subst hv;refine (AnyF.slices_SortFunc_none (P:=Tryz.prog) (ρ:=Tryz.sortRow_ren) { Tryz.sortRow with } q c _ w).mono ?_;rintro e w' ⟨rfl,rfl⟩;exact ⟨rfl,AD _ _,[],.nil,.nil,h,fun p hp=>hp⟩
 obtain ⟨p0,jW⟩:∃p,p∈ps:=Fs _ hp;letI:Inhabited {p // p∈ps}:=⟨⟨p0,jW⟩⟩;have hown:=h.own;obtain ⟨q,cap,hv,_⟩:=hown.form (n:=ps.length) (by simp);obtain ⟨blk,hq⟩:∃blk,q=some ⟨blk,0,none⟩:=by
  obtain ⟨_,⟨h1,_⟩ | ⟨g',cap',cur,h1,_⟩⟩:=hown
  ·rw [hv] at h1
   injection h1 with _ h1 _;exact absurd (CL.1 h1) hp
  ·rw [hv] at h1
   injection h1 with h1 _ _;exact ⟨g',h1⟩
 subst hq;subst hv;have CT:=(av hown rfl).2;have CT:blk<w.heap.size:=CT;have hsize:(ps.attach.toArray).size=ps.length:=by simp
 have qA:(ps.map (·.2)).length=ps.length:=by simp
 have hH:Holds (fun (x:{p // p∈ps})=>x.1.2) w blk 0 ps.attach.toArray:=by
  intro j hj;rw [hsize] at hj;obtain ⟨p,c,e,_,H⟩:=hown.vz.open;injection e with e1;subst e1;obtain ⟨b,off,e,hcc⟩:=H j (by rw [qA];exact hj);injection e with e;injection e with e1 e2;subst e1;subst e2;refine ⟨?_,?_⟩
  ·rw [hcc,getElem!_pos _ _ (by simpa using hj)];simp [hj]
  ·obtain ⟨_,⟨h1,_⟩ | ⟨g',cap',cur,hs',_,hc',_⟩⟩:=hown
   ·cases h1
   ·injection hs' with hs1
    injection hs1 with hs1;injection hs1 with hs1;subst hs1;simp [World.frozen?,hc']
 have hgb:∀(m:Nat) (os:Array Obj) (dk:Array {p // p∈ps}),w.grownBy (sortWorld (fun (x:{p // p∈ps})=>x.1.2) w blk 0 m dk os) (some blk):=fun m os dk=>⟨rfl,rfl,rfl,Es _ _ _ _ _,fun b hb hne=>iL (fun e=>hne (by rw [e])) hb⟩;have hcmp:CmpLays1 Tryz.prog g cb (fun (x:{p // p∈ps})=>x.1.2) (fun x y=>cf x.1.1 y.1.1) blk 0 ps.attach.toArray.size w:=by intro m os dk hdk x y;refine (hc x.1 x.2 y.1 y.2 _ (hgb m os dk)).mono fun e w' ⟨he,n,os',hw⟩=>⟨he,n,os',hw⟩
 have hcon:=Any.slices_SortFunc Tryz.sortRow (fun (x:{p // p∈ps})=>x.1.2) (fun x=>by obtain ⟨q,c,e⟩:=h.shape x.1 x.2;show x.1.2.oneCell'=true;rw [e];rfl) (fun x y=>cf x.1.1 y.1.1) (swo_of (f:=fun (x:{p // p∈ps})=>x.1.1) h0 hz ha ht) g cb blk 0 cap ps.attach.toArray w eg hcmp hH CT (by rw [hsize];omega);rw [hsize] at hcon;refine hcon.mono fun e w' ⟨he,d',m,os,Rv,G0,hw⟩=>⟨he,by rw [hw];exact hgb m os d',d'.toList.map (·.1),?_,?_,?_,fun p hp=>by obtain ⟨x,_,rfl⟩:=cm.1 hp;exact x.2⟩
 ·obtain ⟨hsz,_,qB⟩:=Rv
  have e1:d'.extract 0 ps.length=d':=by rw [<- hsize,<- hsz];exact Array.extract_size
  have e2:ps.attach.toArray.extract 0 ps.length=ps.attach.toArray:=by rw [<- hsize];exact Array.extract_size
  rw [e1,e2] at qB;have h3:(d'.toList.map (·.1)).Perm ps:=by have h2:=qB.map (fun (x:{p // p∈ps})=>x.1);rw [List.toList_toArray,List.attach_map_subtype_val] at h2;exact h2
  exact h3.map _
 ·obtain ⟨hsz,_,_⟩:=Rv
  rw [hsize] at hsz;rw [jO,uD,nS];intro i j hi hj hij;have hi':i<d'.size:=by simpa using hi
  have hj':j<d'.size:=by simpa using hj
  have h3:=G0 i j (aL _) hij (by omega);rw [getElem!_pos d' j hj',getElem!_pos d' i hi'] at h3;simp only [ltOf,decide_eq_false_iff_not] at h3;have h4:=ha ((d'[i]'hi').1.1) ((d'[j]'hj').1.1);show cf ((d'.toList[i]'(by simpa using hi)).1.1) ((d'.toList[j]'(by simpa using hj)).1.1)<=0;rw [Array.getElem_toList,Array.getElem_toList];omega
 ·have hd:d'.toList.length=ps.length:=by have:=Rv.1;rw [hsize] at this;simpa using this
  have hmem:∀p∈d'.toList.map (·.1),p∈ps:=fun p hp=>by obtain ⟨x,_,rfl⟩:=cm.1 hp;exact x.2
  refine ⟨?_,fun p hp=>h.shape p (hmem p hp),fun p hp=>?_⟩
  ·have h4:=ax.sorted (enc:=fun (x:{p // p∈ps})=>x.1.2) (n:=m) (os:=os) (ts:=d'.toList) (vs:=ps.map (·.2)) (by rw [qA];exact hown) (by rw [qA];exact hd)
   rw [qA] at h4;rw [hw,jO];exact h4
  ·have h5:=h.row p (hmem p hp)
   rw [hw];refine ay.keep h5 fun b hb hbl=>(hgb m os d').block b hbl fun e=>hb e.symm
theorem grow_same (W:World):∃n os,W=grow (W.drewN n) os:=⟨0,#[],by rw [grow_empty];rfl⟩
end
section
open Go.RowKit Go.Deep
theorem Du (l:List (List Int)) (s:List Int):((List.range l.length).any fun k=>decide (gl l k=s))=decide (s∈l):=by
 rw [lR,eO,decide_eq_true_eq];constructor
 ·rintro ⟨k,hk,e⟩
  have hk:=bh.1 hk;have e:=of_decide_eq_true e;rw [<- e];simp [gl,hk]
 ·intro h
  obtain ⟨k,hk,e⟩:=vk h;exact ⟨k,bh.2 hk,decide_eq_true (by simp [gl,hk,e])⟩
theorem Tryz.Zv:(Tryz.prog.info? 26).map (fun i=>(i.zero,i.size,i.bytes))=some (some (.slice none 0 0),1,24):=by kernel_rfl
def Nmd (Q:ByteArray->Prop) (t:az):Prop:=∀s∈t.ns,Q s
theorem Nmd.gs {Q:ByteArray->Prop} {t:az} (h:Nmd Q t) (h0:Q ByteArray.empty) (k:Nat):Q (gs t.ns k):=by
 by_cases hk:k<t.ns.length
 ·exact h _ (by simp [YthgabkgmkolobaaGreat.gs,hk])
 ·have:YthgabkgmkolobaaGreat.gs t.ns k=ByteArray.empty:=by simp [YthgabkgmkolobaaGreat.gs,show t.ns.length<=k by omega]
  rw [this];exact h0
theorem tY (S:Nat->Prop) (w:World) (v:Value) (xs:List Int) (x:Int) (h:ah S w v xs) (hn:xs.length<=1000000) :
  Calls Tryz.prog 14 #[v,.int .i64 x] w fun e w'=>e=.returned (.bool ((List.range xs.length).any fun j=>decide (x=gi xs j)))/\w=w':=by
 have hx:=gX (fun j=>decide (x=gi xs j)) xs.length;have HX:=aa hx;have HI:=aa (Ky S w v xs x h hn);clear hx h
 go_enter Tryz.func14,Tryz.ntmps14
 go_wp2_with fail;refine HI.out.mono ?_;rintro e w' ⟨rfl,rfl⟩;go_wp2_with fail;go_ret;exact ⟨aV (by rw [<- HX.out]),rfl⟩
end
section
theorem A9 {nm:ByteArray} {ks:List RT} {k:RT} (hk:k∈ks):k∈bH (.node nm ks):=by
 rw [bH];exact pH _ (IM hk k (ja k))
theorem Cl {u:RT} {ks:List RT} (h:u∈eZ ks):∃k∈ks,u∈bH k:=by
 rw [tP] at h;obtain ⟨k,hk,hu⟩:=jP.1 h;exact ⟨k,hk,hu⟩
end
section
theorem vO {nm:ByteArray} {ks:List RT} {k:RT} (h:k∈ks):aU k<aU (.node nm ks):=by
 rw [aU];have:∀l:List RT,k∈l->aU k<=bE l:=fun l=>by
  induction l with
  | nil=>intro h;cases h
  | cons a l ih =>
   intro h;rw [bE];rcases aW.1 h with rfl | h
   ·omega
   ·have:=ih h;omega
 have:=this ks h;omega
end
section
def allI (n:Nat):List Int:=(List.range n).map fun (i:Nat)=>(i:Int)
theorem tE {n:Nat} {x:Int}:x∈allI n↔0<=x/\x<n:=by
 unfold allI;rw [cm];constructor
 ·rintro ⟨i,hi,rfl⟩
  have:=bh.1 hi;omega
 ·rintro ⟨h0,h1⟩
  exact ⟨x.toNat,bh.2 (by omega),by omega⟩
theorem Ge (n:Nat):(allI n).length=n:=by unfold allI;rw [aG,wP]
def RO (aac:List ByteArray) (x:List Int):ByteArray:=if x.length=1 then gs aac (gi x 0).toNat else ByteArray.empty
theorem RP:∀ {p q:List Int},p.Nodup->(∀x∈p,x∈q)->q.length<=p.length->p.Perm q
 | [],q,_,_,h=>by
  have:q=[]:=oJ (by simpa using h)
  rw [this]
 | x::p,q,hn,hs,hl=>by
  rw [iR] at hn
  have hx:=hs x (by simp)
  obtain ⟨a,b,rfl⟩:=List.append_of_mem hx
  have h1:p.Perm (a++b):=RP hn.2 (fun y hy=>by
   have h2:=hs y (by simp [hy])
   rw [dV,aW] at h2
   rw [dV]
   rcases h2 with h2 | h2 | h2
   ·exact .inl h2
   ·exact absurd (by rw [<- h2];exact hy) hn.1
   ·exact .inr h2) (by
   rw [aZ,aT,aT] at hl
   rw [aZ];omega)
  exact (h1.cons x).trans List.perm_middle.symm
end
section
section
variable {aac:List ByteArray} {l:List Yy} {S:List (List Int)}
def Lv (aac:List ByteArray) (s:RT) (x:List Int):Prop:=∀y,y∈dx s↔∃b:Nat,(b:Int)∈x/\y=gs aac b
end
end
section
section
variable {aac:List ByteArray} {l:List Yy}
theorem Zw {s:RT} {x:List Int} (h:Lv aac s x):Lv aac (cn s) x:=fun y=>by rw [(tQ s).mem_iff];exact h y
end
end
section
section
variable {t:az}
theorem can_names (h:aH t=0):(qK (o8 t).ns).Perm (qK t.ns):=by
 rw [wh h];exact (tQ (iZ t)).trans (rN h)
theorem RQ:∀(r:RT),(∀s∈bH r,s.kids≠[]->s.nm.size=0)->(∀s∈bH r,s.kids=[]->s.nm.size≠0)->∃l,dx r=bw r::l
 | .node nm [],_,h2=>⟨[],by
  have h:=h2 (.node nm []) (by rw [bH];exact tL) rfl
  rw [F0 (nm:=nm) h,bw]⟩
 | .node nm (k::ks),h1,h2=>by
  have h0:nm.size=0:=h1 (.node nm (k::ks)) (by rw [bH];exact tL) (by simp [RT.kids])
  have hk:∀s∈bH k,s∈bH (.node nm (k::ks)):=fun s hs=>by rw [bH,eZ];simp [hs]
  obtain ⟨l,hl⟩:=RQ k (fun s hs=>h1 s (hk s hs)) (fun s hs=>h2 s (hk s hs))
  rw [kT h0,gU,hl,bw]
  exact ⟨_,rfl⟩
theorem iq.head {r:RT} (h:iq r):∃l,dx r=bw r::l:=RQ r h.wm fun s hs hk=>jR (h.lf s hs hk)
end
end
section
theorem leaf_reach {F:ct} {n:Nat} {rk:Nat->Nat} (h:Wf F n rk) {z:Nat} (hz:z<n) {x:ByteArray}:x∈dx (bB F rk z)↔∃j,j<n/\ep F rk z j=true/\(F.nm j).size≠0/\x=F.nm j:=by
 unfold dx;rw [UI h hz,fL,cm];constructor
 ·rintro ⟨⟨j,hj,rfl⟩,h0⟩
  have hs:=(gO h hz (af _)).1 hj;exact ⟨j,vZ h hz (af _) hs,hs,of_decide_eq_true h0,rfl⟩
 ·rintro ⟨j,_,hs,h0,rfl⟩
  exact ⟨⟨j,(gO h hz (af _)).2 hs,rfl⟩,decide_eq_true h0⟩
section
variable {t:az} {leaf:Nat}
theorem und_iff (h:aH t=0) {z:Nat} (hz:z<t.ps.length) {x:ByteArray}:x∈dx (bB (fJ t) (dU t) z)↔∃j,j<t.ps.length/\ew t.ps z j=true/\(gs t.ns j).size≠0/\x=gs t.ns j:=by
 rw [leaf_reach (eu h).wf hz];constructor
 ·rintro ⟨j,hj,hs,h0,e⟩
  exact ⟨j,hj,by rw [<- A5 h _ z j (af _) hz hj];exact hs,h0,e⟩
 ·rintro ⟨j,hj,hs,h0,e⟩
  exact ⟨j,hj,by rw [A5 h _ z j (af _) hz hj];exact hs,h0,e⟩
end
end
section
theorem X0 (ns:List ByteArray):(aD ns).Pairwise (· < ·):=by
 unfold aD;rw [uD];exact (Fq _ List.pairwise_lt_range).imp fun h=>Ai.2 h
end
section
theorem iq.sub {r s:RT} (h:iq r) (hs:s∈bH r):iq s :=
 ⟨fun q hq=>h.wm q (jT r hs hq),fun q hq=>h.lf q (jT r hs hq),(nI hs).nodup h.nd⟩
theorem iq.meet {r s:RT} (h:iq r) (hs:s∈bH r):∃x,x∈dx s:=by
 obtain ⟨l,hl⟩:=(h.sub hs).head;exact ⟨bw s,by rw [hl];simp⟩
end
end Go.Proofs.YthgabkgmkolobaaGreat
