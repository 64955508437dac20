/- What the functions of layers 1 and 31 compute, as plain functions on lists. Plain: the .. -/
import Derived.Test.YthgabkgmkolobaaGreatQ24
set_option maxRecDepth 100000
set_option maxHeartbeats 2000000
namespace Go.Proofs.YthgabkgmkolobaaGreat
section
end
section
end
section
end
section
end
section
end
section
end
section
end
section
end
section
end
section
end
section
end
section
end
section
theorem leaves_lt (ns:List ByteArray) {i j:Nat} (hj:j<(aD ns).length) (hij:i<j):gi (aD ns) i<gi (aD ns) j:=by
 have hp:(aD ns).Pairwise (· < ·):=by unfold aD;rw [uD];refine (Fq _ List.pairwise_lt_range).imp ?_;intro a b h;omega
 have h:=nS.1 hp i j (by omega) hj hij;have hi:i<(aD ns).length:=by omega
 simpa [gi,hi,hj] using h
theorem leafIx_of {ns:List ByteArray} {i k:Nat} (hi:i<(aD ns).length) (hk:gi (aD ns) i=k):kj ns k=i:=by
 unfold kj;refine iK hi (fun j hj=>?_) (by simp [hk]);have:=leaves_lt ns hi hj;simp;omega
theorem PK {ns:List ByteArray} {st:List Int} {i k:Nat} (hi:i<(aD ns).length) (hk:gi (aD ns) i=k):nh ns st k=gi st i:=by
 unfold nh;rw [leafIx_of hi hk,if_pos (by omega),cZ]
end
section
end
section
end
section
theorem R9 {n a b:Nat} (ha:a<n) (hb:b<n):jm (bZ n) a b=if a=b then 0 else 1:=by
 unfold jm;rw [Vc ha,Od hb];rfl
end
section
end
section
theorem Gj:∀ {p q:List ByteArray},p.Nodup->(∀x∈p,x∈q)->q.length<=p.length->p.Perm q
 | [],q,_,_,h=>by
  have:q=[]:=oJ (by simpa using h)
  rw [this]
 | x::p,q,hn,hs,hl=>by
  rw [iR] at hn
  have hx:=hs x (by simp)
  obtain ⟨a,b,rfl⟩:=List.append_of_mem hx
  have h1:p.Perm (a++b):=Gj hn.2 (fun y hy=>by
   have h2:=hs y (by simp [hy])
   rw [dV,aW] at h2
   rw [dV]
   rcases h2 with h2 | h2 | h2
   ·exact .inl h2
   ·exact absurd (by rw [<- h2];exact hy) hn.1
   ·exact .inr h2) (by
   rw [aZ,aT,aT] at hl
   rw [aZ];omega)
  exact (h1.cons x).trans List.perm_middle.symm
def mZ (t:az) (aac:List ByteArray) (aad:List (List Int)):Int:=if gL aac aad≠0 then gL aac aad else if aH t≠0 then 1 else if oB t aac then 0 else 9
def zw (t:az) (aac:List ByteArray) (aad:List (List Int)):Int:=if mZ t aac aad=0 then bz t aac aad else 0
theorem Ww {f:Nat->Int} (hf:∀k,0<=f k):∀ {n k:Nat},k<n->sS f n<=f k/\0<=sS f n
 | 0,k,h=>by omega
 | n+1,k,h=>by
  rw [B8]
  have h0:=hf n
  by_cases e:k=n
  ·subst e
   split<;>omega
  ·obtain ⟨h1,h2⟩:=Ww hf (n:=n) (k:=k) (by omega)
   split<;>omega
theorem mnK_at {f:Nat->Int} (hf:∀k,0<=f k):∀ {n:Nat},0<n->∃k,k<n/\sS f n=f k
 | 0,h=>by omega
 | n+1,_=>by
  rw [B8]
  by_cases e:sS f n<0\/f n<sS f n
  ·rw [if_pos e];exact ⟨n,by omega,rfl⟩
  ·rw [if_neg e]
   have hn:0<n:=by
    rcases yY n with h | h
    ·subst h;exact absurd (.inl (by show (-1:Int)<0;decide)) e
    ·exact h
   obtain ⟨k,h1,h2⟩:=mnK_at hf hn
   exact ⟨k,by omega,h2⟩
section
variable {t u:az} {aac:List ByteArray} {aad:List (List Int)}
theorem scoreS_nn (hc:mR aac aad) (ht:dK t aac):0<=bz t aac aad :=
 uG fun _ hp=>s9 (ru hc ht hp)
theorem Wx (hn:gT aac):0<(allT aac).length:=by
 unfold allT;rw [aG,rO hn];split<;>(try split)<;>(try split)<;>omega
theorem sk (hc:mR aac aad):(∀t∈allT aac,cB aac aad<=bz t aac aad)/\0<=cB aac aad/\∃t∈allT aac,bz t aac aad=cB aac aad:=by
 obtain ⟨f,hf⟩:∃f:Nat->Int,f=fun k=>if k<(allT aac).length then bz (gt (allT aac) k) aac aad else 0:=⟨_,rfl⟩
 have hfn:∀k,0<=f k:=fun k=>by
  rw [hf];show 0<=if k<(allT aac).length then bz (gt (allT aac) k) aac aad else 0
  split
  ·rename_i hk;exact scoreS_nn hc (mM hc.nm (pZ hk)).1
  ·exact lT _
 have he:∀n,n<=(allT aac).length->sS (fun k=>bz (gt (allT aac) k) aac aad) n=sS f n:=fun n=>by
  induction n with
  | zero=>intro _;rfl
  | succ n ih =>
   intro hn;(have e:f n=bz (gt (allT aac) n) aac aad:=by rw [hf];exact if_pos hn);rw [B8,B8,ih (by omega),e]
 have hl:cB aac aad=sS f (allT aac).length:=he _ (af _);have hp:=Wx hc.nm;obtain ⟨k,hk,e⟩:=mnK_at hfn hp;have hfk:∀k,k<(allT aac).length->f k=bz (gt (allT aac) k) aac aad:=fun k hk=>by rw [hf];exact if_pos hk
 refine ⟨fun t ht=>?_,?_,gt (allT aac) k,pZ hk,?_⟩
 ·obtain ⟨j,hj,rfl⟩:=Jc ht
  rw [hl,<- hfk j hj];exact (Ww hfn hj).1
 ·rw [hl];exact (Ww hfn hp).2
 ·rw [hl,e,hfk k hk]
end
end
section
open Go.RowKit Go.Deep
def tI (w:World) (t:az) (aac:List ByteArray) (aad:List (List Int)) (e:Ending) (w':World):Prop:=Up w w'/\e=.returned (.tuple #[.int .i64 (zw t aac aad),.int .i64 (mZ t aac aad)])
theorem Gk (S:Nat->Prop) (w:World) (v vn vs:Value) (t:az) (aac:List ByteArray) (aad:List (List Int)) (hT:aI S w v t) (hp:t.ps.length<=1000000) (hnt:t.ns.length<=1000000) (hz:∀k,(gs t.ns k).size<=70000) (h:au S w vn aac) (hn:aac.length<=1000000) (YW:∀k,(gs aac k).size<=70000) (hS:aR S w vs aad) (ud:aad.length<=1000000) (hr:∀k,(gl aad k).length<=1000000) (h5:aac.length<=5\/7<aac.length) :
  Calls Tryz.prog 21 #[v,vn,vs] w (tI w t aac aad):=by
 have HZ:=aa hz;obtain ⟨P,N,rfl,hP,hN⟩:=hT;obtain ⟨np,nc,rfl,-,-⟩:=ay.open hN;have hN:au S w (.slice np t.ns.length nc) t.ns:=hN;obtain ⟨pp,pc,rfl,-,-⟩:=ay.open hP;have hP:ah S w (.slice pp t.ps.length pc) t.ps:=hP;obtain ⟨mp,mc,rfl,-,-⟩:=ay.open h;have h:au S w (.slice mp aac.length mc) aac:=h;obtain ⟨sp,sc,rfl,-,-⟩:=dW hS;have sU:Up w (w.alloc (.cells #[.slice pp t.ps.length pc,.slice np t.ns.length nc] 39)):=Up.alloc _ _;have hrb:=gp (w:=w) (P:=.slice pp t.ps.length pc) (N:=.slice np t.ns.length nc) (T:=39);obtain ⟨q0,q1,-,-⟩:=boxed hrb
 have HT:Hid (aI S (w.alloc (.cells #[.slice pp t.ps.length pc,.slice np t.ns.length nc] 39)) (.agg #[.slice pp t.ps.length pc,.slice np t.ns.length nc]) t):=⟨_,_,rfl,ah.keep hP (sU.kept S),au.keep hN (sU.kept S)⟩;have HN:=aa (au.keep h (sU.kept S));have HS:=aa (aR.keep hS (sU.kept S));have gy:=aa (RA S _ _ _ aac aad HN.out hn YW HS.out ud hr);have EZ:=aa sU;have HE:Hid (mZ t aac aad=if gL aac aad≠0 then gL aac aad else if aH t≠0 then 1 else if oB t aac then 0 else 9):=rfl
 have HR:Hid (zw t aac aad=if mZ t aac aad=0 then bz t aac aad else 0):=rfl;have wU:Hid (gL aac aad=0->mR aac aad):=F8 h5;clear hP hN h hS hz YW hr h5 hrb sU
 go_enter Tryz.func21,Tryz.ntmps21
 go_wp2_with fail;generalize w.alloc (.cells #[.slice pp t.ps.length pc,.slice np t.ns.length nc] 39)=w0 at *;refine gy.out.mono ?_;rintro e w1 ⟨rfl,bA⟩;have hu01:=EZ.out.trans bA;replace q0:=bA.cell q0;replace q1:=bA.cell q1;by_cases c1:gL aac aad=0
 ·have HC:=aa (wU.out c1)
  have EF:=aa (xS S w1 _ t (HT.out.keep (bA.kept S)) hp hnt HZ.out);have qO:Hid (mZ t aac aad=if aH t≠0 then 1 else if oB t aac then 0 else 9):=by unfold Hid;rw [HE.out,if_neg (by omega)]
  have cA:=aa bA;have HU01:=aa hu01;rw [c1];clear bA hu01 c1 HE gy wU;go_wp2_with fail;refine EF.out.mono ?_;rintro e w2 ⟨rfl,hb⟩;have aK:Up w1 w2:=hb;replace q0:=aK.cell q0;replace q1:=aK.cell q1;have HU02:=aa (HU01.out.trans aK);by_cases c2:aH t=0
  ·have bD:=aa (cA.out.trans aK)
   have xC:=aa (RD S w2 _ _ _ t aac aad (HT.out.keep (bD.out.kept S)) c2 HZ.out (au.keep HN.out (bD.out.kept S)) (aR.keep HS.out (bD.out.kept S)) HC.out);have HX:Hid (yN t aac aad=.tuple #[.int .i64 (zw t aac aad),.int .i64 (mZ t aac aad)]):=by unfold Hid yN;(have e9:mZ t aac aad=if oB t aac then 0 else 9:=by rw [qO.out,if_neg fun e:aH t≠0=>e c2]);rw [HR.out,e9];cases oB t aac<;>simp
   have kA:Hid (∀W,Up w W->tI w t aac aad (.returned (.tuple #[.int .i64 (zw t aac aad),.int .i64 (mZ t aac aad)])) W):=fun W hW=>⟨hW,rfl⟩;rw [c2];clear hb aK c2 EF;rw [HX.out] at xC;generalize zw t aac aad=a at *;generalize mZ t aac aad=c at *;go_wp2_with fail;refine xC.out.mono ?_;rintro e w3 ⟨rfl,dQ⟩;have eo:=aa (kA.out _ (HU02.out.trans dQ));clear dQ xC;go_wp2_with fail;go_ret2;exact eo.out
  ·have kA:Hid (tI w t aac aad (.returned (.tuple #[.int .i64 0,.int .i64 1])) w2):=by
    refine ⟨HU02.out,?_⟩
    have e1:mZ t aac aad=1:=by rw [qO.out,if_pos c2]
    rw [HR.out,e1];rfl
   generalize aH t=a at *
   clear hb aK EF
   go_wp2_with fail
   go_ret2
   exact kA.out
 ·have kA:Hid (tI w t aac aad (.returned (.tuple #[.int .i64 0,.int .i64 (gL aac aad)])) w1):=by
   refine ⟨hu01,?_⟩
   have e1:mZ t aac aad=gL aac aad:=by rw [HE.out,if_pos c1]
   rw [HR.out,e1,if_neg c1]
  generalize gL aac aad=a at *
  clear bA hu01 gy
  go_wp2_with fail
  go_ret2
  exact kA.out
end
end Go.Proofs.YthgabkgmkolobaaGreat
