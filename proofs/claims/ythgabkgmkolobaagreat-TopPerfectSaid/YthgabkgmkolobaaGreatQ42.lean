/- The arguments of a law, opened; the frame of a law's proof. Plain: the rooted binary .. -/
import Derived.Test.YthgabkgmkolobaaGreatQ39
import Derived.Test.YthgabkgmkolobaaGreatQ30
set_option maxRecDepth 100000
set_option maxHeartbeats 4000000
namespace Go.Proofs.YthgabkgmkolobaaGreat
section
open Go.ChangeShapes Go.WideShapes Go.ChangeAt Go.RowKit Go.Deep
section
variable {H:Type} {enc:TypeId×Value->H} {W:World}
theorem open_rows1 {fuel:Nat} {v:Value} {x:DataW H×List MemPlace} (h:DataW.trod enc Tryz.prog W 0 (fun _=>true) true fuel 23 [v]=some x):∃xs:List (List Int),aR Any W v xs/\xs.length<=9223372036854775807/\∀k,(gl xs k).length<=9223372036854775807:=by
 rcases open_int_rows Tryz.underlying23 Tryz.underlying26 Tryz.underlying3 (by kernel_rfl) (by kernel_rfl) h with ⟨hcs,_⟩ | ⟨a,l,c,A,L,C,Z,hcs,_,hl,hm,_,hr⟩
 ·obtain rfl:v=.slice none 0 0:=by simpa using hcs
  exact ⟨[],⟨fun _=>undef,⟨none,0,rfl,af _,.inl rfl⟩,fun k hk=>absurd hk (bG _)⟩,by simp,fun k=>by simp [gl]⟩
 ·obtain rfl:v=.slice (some a) l c:=by simpa using hcs
  have hlen:((List.range l).map fun r=>(Z r).take (L r)).length=l:=by simp
  have CT:∀k,k<l->gl ((List.range l).map fun r=>(Z r).take (L r)) k=(Z k).take (L k):=fun k hk=>by simp [gl,hk]
  have NZ:∀k,k<l->((Z k).take (L k)).length=L k:=fun k hk=>by obtain ⟨_,h1,_,h3,_⟩:=hr k (by omega);simp;omega
  refine ⟨(List.range l).map fun r=>(Z r).take (L r),⟨fun k=>.slice (A k) (L k) (C k),⟨some a,c,by rw [hlen],by rw [hlen];exact hl,?_⟩,fun k hk=>?_⟩,by rw [hlen];exact Er (aJ hl hm),fun k=>?_⟩
  ·by_cases h0:l=0
   ·exact .inl (by rw [hlen];exact h0)
   ·obtain ⟨b,off,spot⟩:=a
    (have hspot:spot=none:=by simpa [Addr.add] using World.cell?_spot (hr 0 (by omega)).1);subst hspot;refine .inr ⟨b,off,rfl,trivial,fun k hk=>?_⟩;rw [hlen] at hk;rw [<- add_plain];exact (hr k (by omega)).1
  ·rw [hlen] at hk
   obtain ⟨_,h1,h2,h3,_,h5,h6⟩:=hr k (by omega);rw [CT k hk];refine ⟨A k,C k,by rw [NZ k hk],by rw [NZ k hk];exact h1,?_⟩;by_cases h0:L k=0
   ·exact .inl (by rw [NZ k hk];exact h0)
   ·cases hA:A k with
    | none=>have:=h5 hA;omega
    | some a' =>
     obtain ⟨_,h7⟩:=h6 a' hA;obtain ⟨b,off,rfl,hc⟩:=ints_at (zs:=Z k) (k:=.i64) (fun i hi=>h7 i (by omega)) (by omega);refine .inr ⟨b,off,rfl,trivial,fun j hj=>?_⟩;rw [NZ k hk] at hj;rw [hc j (by omega)];simp [gi,hj]
  ·by_cases hk:k<l
   ·rw [CT k hk,NZ k hk]
    obtain ⟨_,h1,h2,_⟩:=hr k (by omega);exact Er (aJ h1 h2)
   ·have:gl ((List.range l).map fun r=>(Z r).take (L r)) k=[]:=by simp [gl,hk]
    rw [this];simp
theorem OM {v:Value} {d:DataW H} {p:List MemPlace} {base:Nat} (hv:Value.okWide Tryz.prog W .any base 23 v) (h:DataW.Trod enc Tryz.prog W 0 (fun _=>true) true 23 v d p):∃xs:List (List Int),aR Any W v xs/\xs.length<=9223372036854775807/\∀k,(gl xs k).length<=9223372036854775807:=by
 obtain ⟨a,l,c,rfl⟩:=okWide_slice Tryz.underlying23 hv;obtain ⟨n,hn⟩:=LD rfl h;exact open_rows1 hn
end
end
section
namespace BT
end BT
section
variable {α β:Type} [Inhabited α] [Inhabited β]
theorem Z3 (p:Nat->Bool):∀n:Nat,∃b,b<2 ^ n/\∀i,i<n->b.testBit i=p i
 | 0=>⟨0,by simp,fun i h=>by omega⟩
 | n+1=>by
  obtain ⟨b,h1,h2⟩:=Z3 p n
  have hb:b.testBit n=false:=Nat.testBit_lt_two_pow h1
  cases hp:p n
  ·refine ⟨b,by rw [Nat.pow_succ];omega,fun i hi=>?_⟩
   by_cases e:i=n
   ·subst e;rw [hb,hp]
   ·exact h2 i (by omega)
  ·refine ⟨2 ^ n+b,by rw [Nat.pow_succ];omega,fun i hi=>?_⟩
   by_cases e:i=n
   ·subst e;rw [Nat.testBit_two_pow_add_eq,hb,hp];rfl
   ·rw [Nat.testBit_two_pow_add_gt (by omega)];exact h2 i (by omega)
end
section
variable {α β:Type}
theorem lpos {l:List α} (h:l≠[]):0<l.length:=Ak.2 h
theorem Ff (r:BT α):r.eR≠[]:=by
 induction r with
 | leaf x=>intro e;cases e
 | node a b ih _=>rw [BT.eR];intro e;exact ih (List.append_eq_nil_iff.1 e).1
theorem Li {l l':List α} (h1:l.Nodup) (h2:l'.Nodup) (h:∀x,x∈l↔x∈l'):l.Perm l' :=
 (List.perm_ext_iff_of_nodup h1 h2).2 h
end
section
variable {α:Type} [Inhabited α]
theorem Wz:∀(d:Nat) (L:List α) (r:BT α),L.length<=d->L.Nodup->r.eR.Perm L->∃s∈rt d L,r.GQ s
 | 0,L,r,hd,_,hp=>by
  have:L=[]:=oJ (by omega)
  subst this
  exact absurd (List.perm_nil.1 hp) (Ff r)
 | _+1,[],r,_,_,hp=>absurd (List.perm_nil.1 hp) (Ff r)
 | d+1,[x],r,_,_,hp=>by
  cases r with
  | leaf y =>
   have:y=x:=by simpa [BT.eR] using hp
   subst this
   exact ⟨_,dP.2 rfl,.leaf _⟩
  | node a b =>
   exfalso
   have h1:=hp.length_eq
   rw [BT.eR,aZ] at h1
   have h2:=lpos (Ff a)
   have h3:=lpos (Ff b)
   simp at h1
   omega
 | d+1,x::y::L,r,hd,hn,hp=>by
  have key:∀a b:BT α,x∈a.eR->(BT.node a b).eR.Perm (x::y::L)->∃s∈rt (d+1) (x::y::L),∃a' b',a.GQ a'/\b.GQ b'/\s=.node a' b':=by
   classical
   intro a b hx hp
   have fe:=hp.symm.nodup hn
   rw [BT.eR] at hp fe
   have hab:=nR.1 fe
   obtain ⟨bits,b1,b2⟩:=Z3 (fun i=>decide ((y::L).getD i default∈b.eR)) (y::L).length
   have hny:(y::L).Nodup:=(iR.1 hn).2
   have hmem:∀z,z∈a.eR++b.eR↔z∈x::y::L:=fun z=>hp.mem_iff
   have Pq:∀z,z∈y::L↔∃i,i<(y::L).length/\(y::L).getD i default=z:=fun z=>by
    constructor
    ·intro hz
     obtain ⟨i,hi,he⟩:=vk hz
     refine ⟨i,hi,?_⟩
     rw [kD,iQ hi];exact he
    ·rintro ⟨i,hi,he⟩
     rw [kD,iQ hi] at he
     rw [<- he];exact lg hi
   have pn:∀p:Nat->Bool,(cG p (y::L) (y::L).length).Nodup:=fun p=>by
    have h:=yI p (y::L) (af _)
    rw [gh] at h
    exact (nR.1 (h.symm.nodup hny)).1
   have hB:b.eR.Perm (cG (fun i=>bits.testBit i) (y::L) (y::L).length):=Li hab.2.1 (pn _) fun z=>by
    rw [zb]
    constructor
    ·intro hz
     have h1:=(hmem z).1 (JT _ hz)
     rcases aW.1 h1 with rfl | h1
     ·exact absurd rfl (hab.2.2 _ hx _ hz)
     ·obtain ⟨i,hi,he⟩:=(Pq z).1 h1
      exact ⟨i,hi,by rw [b2 i hi,he];exact decide_eq_true hz,he⟩
    ·rintro ⟨i,hi,h1,h2⟩
     rw [b2 i hi,h2] at h1
     exact of_decide_eq_true h1
   have hA:a.eR.Perm (x::cG (fun i=>!bits.testBit i) (y::L) (y::L).length):=Li hab.1 (iR.2 ⟨fun h=>by
     obtain ⟨i,hi,_,he⟩:=zb.1 h
     exact (iR.1 hn).1 ((Pq x).2 ⟨i,hi,he⟩),pn _⟩) fun z=>by
    rw [aW,zb]
    constructor
    ·intro hz
     have h1:=(hmem z).1 (JS _ hz)
     rcases aW.1 h1 with rfl | h1
     ·exact .inl rfl
     ·obtain ⟨i,hi,he⟩:=(Pq z).1 h1
      refine .inr ⟨i,hi,?_,he⟩
      rw [b2 i hi,he,Ag]
      exact decide_eq_false fun h=>hab.2.2 _ hz _ h rfl
    ·rintro (rfl | ⟨i,hi,h1,h2⟩)
     ·exact hx
     ·have h3:=(hmem z).2 (pH _ ((Pq z).2 ⟨i,hi,h2⟩))
      rcases dV.1 h3 with h3 | h3
      ·exact h3
      ·rw [b2 i hi,h2,Ag] at h1
       exact absurd h3 (of_decide_eq_false h1)
   have kI:=qY (fun i=>!bits.testBit i) (y::L) (y::L).length
   have hl2:=qY (fun i=>bits.testBit i) (y::L) (y::L).length
   have hlB:=hB.length_eq
   have hlA:=hA.length_eq
   have hlP:=hp.length_eq
   have hpa:=lpos (Ff b)
   rw [aZ] at hlP
   simp only [aT] at hd hlP hlA kI hl2 hlB
   obtain ⟨a',ha,sa⟩:=Wz d _ a (by simp only [aT];omega) (hA.nodup hab.1) hA
   obtain ⟨b',hb,sb⟩:=Wz d _ b (by simp only [aT];omega) (hB.nodup hab.2.1) hB
   refine ⟨.node a' b',?_,a',b',sa,sb,rfl⟩
   rw [rt,jP]
   refine ⟨bits,?_,jP.2 ⟨a',ha,cm.2 ⟨b',hb,rfl⟩⟩⟩
   rw [List.mem_range'_1]
   refine ⟨?_,by omega⟩
   rcases yY bits with e | e
   ·exfalso
    subst e
    have:cG (fun i=>(0:Nat).testBit i) (y::L) (y::L).length=[]:=by
     unfold cG
     simp
    rw [this] at hB
    exact Ff b (List.perm_nil.1 hB)
   ·exact e
  cases r with
  | leaf z=>exact absurd hp.length_eq (by simp [BT.eR])
  | node a b =>
   have hx:x∈a.eR++b.eR:=hp.symm.mem_iff.1 (by simp)
   rcases dV.1 hx with hx | hx
   ·obtain ⟨s,hs,a',b',h1,h2,rfl⟩:=key a b hx hp
    exact ⟨_,hs,.node h1 h2⟩
   ·obtain ⟨s,hs,a',b',h1,h2,rfl⟩:=key b a hx (Bi.trans hp)
    exact ⟨_,hs,.swap h2 h1⟩
end
end
section
theorem GZ.sub {r s:RT} (h:GZ r) (hs:s∈bH r):GZ s:=⟨(nI hs).nodup h.nd,fun q hq=>h.pt q (jT r hs hq)⟩
theorem GZ.leafs {nm:ByteArray} {ks:List RT} (h:GZ (.node nm ks)) (h0:ks≠[]):dx (.node nm ks)=ks.flatMap dx :=
 kT ((h.pt _ (ja _)).1 h0)
theorem ins_perm {a b:List RT} (h:a.Perm b):(a.map bw).Nodup->a.foldr iF []=b.foldr iF []:=by
 induction h with
 | nil=>intro _;rfl
 | cons x _ ih=>intro hn;rw [List.foldr_cons,List.foldr_cons,ih (by rw [cK,iR] at hn;exact hn.2)]
 | swap x y l =>
  intro hn
  simp only [List.foldr_cons]
  rw [cK,iR,cK] at hn
  exact IL (fun e=>hn.1 (by rw [e];simp)) _
 | trans p _ ih1 ih2=>intro hn;rw [ih1 hn,ih2 ((p.map _).nodup_iff.1 hn)]
theorem Eb:∀l:List RT,fU l=(l.map cn).foldr iF []
 | []=>by rw [fU];rfl
 | r::l=>by rw [fU,Eb l];rfl
end
section
mutual
def gw:RT->RT
 | .node nm []=>.node nm []
 | .node _ [k]=>gw k
 | .node nm (a::b::ks)=>.node nm (gw a::gw b::Kj ks)
def Kj:List RT->List RT
 | []=>[]
 | r::rs=>gw r::Kj rs
end
theorem Lj:∀l:List RT,Kj l=l.map gw
 | []=>rfl
 | r::l=>by rw [Kj,Lj l];rfl
theorem JI (nm:ByteArray) (k:RT):gw (.node nm [k])=gw k:=by rw [gw]
theorem Gl {nm:ByteArray} {ks:List RT} (h:ks.length≠1):gw (.node nm ks)=.node nm (ks.map gw):=by
 match ks with
 | []=>rw [gw];rfl
 | [k]=>simp at h
 | a::b::ks=>rw [gw,Lj];rfl
theorem zx:∀(d:Nat) (r s:RT),aU r<=d->s∈bH (gw r)->∃u∈bH r,u.kids.length≠1/\s=.node u.nm (u.kids.map gw)
 | 0,r,_,hd,_=>by have:=mA r;omega
 | d+1,.node nm ks,s,hd,h=>by
  by_cases h1:ks.length=1
  ·obtain ⟨k,rfl⟩:=CK.1 h1
   rw [JI] at h
   obtain ⟨u,hu,e⟩:=zx d k s (by have:=vO (nm:=nm) (ks:=[k]) (k:=k) (by simp);omega) h
   exact ⟨u,jT _ (A9 (by simp)) hu,e⟩
  ·rw [Gl h1,bH,aW] at h
   rcases h with rfl | h
   ·exact ⟨_,ja _,h1,rfl⟩
   ·obtain ⟨q,hq,hs⟩:=Cl h
    obtain ⟨k,hk,rfl⟩:=cm.1 hq
    obtain ⟨u,hu,e⟩:=zx d k s (by have:=vO (nm:=nm) hk;omega) hs
    exact ⟨u,jT _ (A9 hk) hu,e⟩
theorem Gm:∀(d:Nat) (r:RT),aU r<=d->(∀s∈bH r,s.kids≠[]->s.nm.size=0)->dx (gw r)=dx r
 | 0,r,hd,_=>by have:=mA r;omega
 | d+1,.node nm ks,hd,h=>by
  have hk:∀k∈ks,dx (gw k)=dx k:=fun k hk=>Gm d k (by have:=vO (nm:=nm) hk;omega) fun s hs=>h s (jT _ (A9 hk) hs)
  by_cases h0:ks=[]
  ·subst h0;rw [gw]
  ·have hz:nm.size=0:=h _ (ja _) h0
   by_cases h1:ks.length=1
   ·obtain ⟨k,rfl⟩:=CK.1 h1
    rw [JI,hk k (by simp),kT hz];simp
   ·rw [Gl h1,kT hz,kT hz,Fu]
    have:∀l:List RT,(∀k∈l,dx (gw k)=dx k)->l.flatMap (fun k=>dx (gw k))=l.flatMap dx:=fun l=>by
     induction l with
     | nil=>intro _;rfl
     | cons a l ih=>intro h;rw [gU,gU,h a (by simp),ih fun k hk=>h k (by simp [hk])]
    exact this ks hk
theorem good_contr {r:RT} (h:iq r):iq (gw r):=by
 refine ⟨fun s hs hk=>?_,fun s hs hk=>?_,?_⟩
 ·obtain ⟨u,hu,_,rfl⟩:=zx _ r s (af _) hs
  exact h.wm u hu fun e=>hk (by show u.kids.map gw=[];rw [e];rfl)
 ·obtain ⟨u,hu,_,rfl⟩:=zx _ r s (af _) hs
  exact h.lf u hu (List.map_eq_nil_iff.1 hk)
 ·rw [Gm _ r (af _) h.wm];exact h.nd
theorem oku_contr {r:RT} (h:iq r):GZ (gw r):=by
 have hg:=good_contr h;refine ⟨hg.nd,fun s hs=>⟨fun hk=>hg.wm s hs hk,fun hk=>hg.lf s hs hk,?_⟩⟩;obtain ⟨u,_,h1,rfl⟩:=zx _ r s (af _) hs;show (u.kids.map gw).length≠1;rw [aG];exact h1
end
section
open Go.RowKit Go.Deep
theorem check30R_t (S:Nat->Prop) (w:World) (v:Value) (xs:List (List Int)) (h:aR S w v xs) (hn:xs.length<=1000000) (hr:∀k,(gl xs k).length<=1000000) :
  Calls Tryz.prog 60 #[v] w fun e w'=>e=.returned (.int .i64 (fo xs))/\QD w w':=by
 obtain ⟨p,cap,rfl,hcap,_⟩:=dW h;have H:=aa h;have HR:=aa hr;have HF:Hid (fo xs=if xs.length=0 then 5 else if 32<xs.length\/4096<(gl xs 0).length then 4 else bU (pR xs) xs.length):=rfl;clear h hr;by_cases h0:xs.length=0
 ·have HX:Hid (fo xs=5):=by unfold Hid;rw [HF.out,if_pos h0]
  have d0:((xs.length:Int)==0)=true:=by simp [h0]
  clear h0
  go_enter Tryz.func60,Tryz.ntmps60
  go_wp2_with fail;go_ret;exact ⟨aM HX.out.symm,QD.refl _⟩
 have d0:((xs.length:Int)==0)=false:=by simpa using h0
 have Yx:0<xs.length:=by omega
 by_cases h1:32<xs.length
 ·have HX:Hid (fo xs=4):=by unfold Hid;rw [HF.out,if_neg h0,if_pos (.inl h1)]
  have d1:decide ((32:Int)<(xs.length:Int))=true:=by simp;omega
  clear h0 h1
  go_enter Tryz.func60,Tryz.ntmps60
  go_wp2_with fail;go_ret;exact ⟨aM HX.out.symm,QD.refl _⟩
 have d1:decide ((32:Int)<(xs.length:Int))=false:=by simp;omega
 obtain ⟨b,off,q0,c0,rfl,hc0,_⟩:=gP H.out Yx;have hc00:w.cell? ⟨b,off,none⟩=some (.slice q0 (gl xs 0).length c0):=by simpa using hc0
 have hlen0:=HR.out 0;clear hc0;by_cases h2:4096<(gl xs 0).length
 ·have HX:Hid (fo xs=4):=by unfold Hid;rw [HF.out,if_neg h0,if_pos (.inr h2)]
  have d2:decide ((4096:Int)<((gl xs 0).length:Int))=true:=by simp;omega
  clear h0 h1 h2
  go_enter Tryz.func60,Tryz.ntmps60
  go_wp2_with fail;go_ret;exact ⟨aM HX.out.symm,QD.refl _⟩
 have d2:decide ((4096:Int)<((gl xs 0).length:Int))=false:=by simp;omega
 have sK:Hid (fo xs=bU (pR xs) xs.length):=by unfold Hid;rw [HF.out,if_neg h0,if_neg (by omega)]
 have HAR:Hid (∀k,pR xs k=if (gl xs k).length≠(gl xs 0).length then 9 else if mH (gl xs k) (-1) 16 then 2 else 0):=fun _=>rfl;have jx:=aa hc00;clear HF h0 h1 h2;generalize hl0:(gl xs 0).length=l0 at *;clear hl0
 go_enter Tryz.func60,Tryz.ntmps60
 go_wp2_with fail
 go_loopw [3,4] (fun i _ wr=>∃k:Nat,k<=xs.length/\i=.int .i64 k/\Hid (QD w wr)/\Hid (∀j,j<k->pR xs j=0)) (fun i _ _=>xs.length - (intOf i).toNat)
 case atStart=>exact ⟨0,aL _,rfl,QD.refl _,fun j hj=>absurd hj (bG _)⟩
 case round =>
  obtain ⟨k,hk,rfl,hQ,hd⟩:=hrel;obtain ⟨wo,rfl⟩:∃wo:World,wo=wr:=⟨_,rfl⟩;have hc00:=hQ.out.up.cell jx.out;by_cases hlt:k<xs.length
  ·obtain ⟨b',off',qk,ck,e1,uI,hik⟩:=gP (H.out.keep (hQ.out.kept S)) hlt
   injection e1 with e1;injection e1 with e1 e2;subst e1;subst e2;(have i1:(0:Int)<=(k:Int):=by omega);(have i2:(k:Int)<(xs.length:Int):=by omega);have HK:=aa (HAR.out k);have Rl:=aa hik;have gy:=aa uI;have Kz:=HR.out k;clear hik;by_cases ue:(gl xs k).length=l0
   ·have kI:(((gl xs k).length:Int) != (l0:Int))=false:=by simp [ue]
    rw [if_neg (fun e=>e ue)] at HK;clear ue;go_wp2_with fail;(go_quiet (fail));go_wp2_with fail
    go_loopw [4] (fun i wr=>∃m:Nat,m<=(gl xs k).length/\i=.int .i64 m/\Hid (QD w wr/\QD wo wr)/\Hid (∀j,j<m->(decide (gi (gl xs k) j < -1) || decide (16<=gi (gl xs k) j))=false)) (fun i _=>(gl xs k).length - (intOf i).toNat)
    case atStart=>exact ⟨0,aL _,rfl,⟨hQ.out.drewN nq,⟨nq,rfl⟩⟩,fun j hj=>absurd hj (bG _)⟩
    case round =>
     obtain ⟨m,hm,rfl,Sa,hd2⟩:=hrel;obtain ⟨wi,rfl⟩:∃wi:World,wi=wr:=⟨_,rfl⟩;have uI:=Sa.out.2.up.cell gy.out;by_cases OO:m<(gl xs k).length
     ·obtain ⟨mb,mo,rfl,hmc⟩:=dG (ah.keep Rl.out (Sa.out.2.kept S)) OO
      (have j1:(0:Int)<=(m:Int):=by omega);(have j2:(m:Int)<((gl xs k).length:Int):=by omega);generalize hgy:gi (gl xs k) m=y at *;have HGY:=aa hgy;clear hgy;by_cases c1:y < -1
      ·have e1:decide (y < -1)=true:=by simpa using c1
       (have HX:Hid (fo xs=2):=by unfold Hid;have hst:mH (gl xs k) (-1) 16=true:=Ei (p:=fun j=>decide (gi (gl xs k) j < -1) || decide (16<=gi (gl xs k) j)) OO (by rw [HGY.out,e1];rfl);(have hrow:pR xs k=2:=by rw [HK.out,if_pos hst]);rw [sK.out,gm hlt hd.out (by rw [hrow];decide),hrow]);clear c1;go_wp2_with fail;go_ret;exact ⟨aM HX.out.symm,Sa.out.1⟩
      ·have e1:decide (y < -1)=false:=by simpa using c1
       by_cases c2:16<=y
       ·have e2:decide (16<=y)=true:=by simpa using c2
        (have HX:Hid (fo xs=2):=by unfold Hid;have hst:mH (gl xs k) (-1) 16=true:=Ei (p:=fun j=>decide (gi (gl xs k) j < -1) || decide (16<=gi (gl xs k) j)) OO (by rw [HGY.out,e2,Bool.or_true]);(have hrow:pR xs k=2:=by rw [HK.out,if_pos hst]);rw [sK.out,gm hlt hd.out (by rw [hrow];decide),hrow]);clear c1 c2;go_wp2_with fail;go_ret;exact ⟨aM HX.out.symm,Sa.out.1⟩
       ·have e2:decide (16<=y)=false:=by simpa using c2
        (have HY:Hid ((decide (gi (gl xs k) m < -1) || decide (16<=gi (gl xs k) m))=false):=by unfold Hid;rw [HGY.out,e1,e2];rfl);clear c1 c2;go_wp2_with fail
        go_roundw
        case rel=>exact ⟨m+1,by omega,by go_num,⟨Sa.out.1,Sa.out.2⟩,fun j hj=>if e:j=m then by subst e;exact HY.out else hd2.out j (by omega)⟩
        case measure=>simp [intOf];omega
     ·obtain rfl:m=(gl xs k).length:=by omega
      (have y7:Hid (pR xs k=0):=by unfold Hid;have hst:mH (gl xs k) (-1) 16=false:=any_none hd2.out;rw [HK.out,if_neg (by rw [hst];decide)]);have HQ2:=aa Sa.out.1;clear OO hm hd2 Sa;go_wp2_with fail
      go_roundw
      case rel=>exact ⟨k+1,by omega,by go_num,HQ2.out,fun j hj=>if e:j=k then by subst e;exact y7.out else hd.out j (by omega)⟩
      case measure=>simp [intOf];omega
   ·have kI:(((gl xs k).length:Int) != (l0:Int))=true:=by simp;omega
    (have HX:Hid (fo xs=9):=by unfold Hid;(have hrow:pR xs k=9:=by rw [HK.out,if_pos ue]);rw [sK.out,gm hlt hd.out (by rw [hrow];decide),hrow]);clear ue;go_wp2_with fail;(go_quiet (fail));go_wp2_with fail;go_ret;exact ⟨aM HX.out.symm,hQ.out.drewN nq⟩
  ·obtain rfl:k=xs.length:=by omega
   (have HX:Hid (fo xs=0):=by unfold Hid;rw [sK.out,cR hd.out]);clear hlt hk;go_wp2_with fail;go_ret;exact ⟨aM HX.out.symm,hQ.out⟩
end
section
section
variable {t:az}
theorem Sb {nm:ByteArray} {ks ls:List RT} (h:(ks.map cn).Perm (ls.map cn)) (hg:iq (.node nm ks)):cn (.node nm ks)=cn (.node nm ls):=by
 rw [cn,cn];congr 1;rw [Eb,Eb];refine ins_perm h ?_;rw [jO];exact Un hg _ (ja _)
end
end
section
theorem iq.Yb {r:RT} (h:iq r):dx (gw r)=dx r:=Gm _ r (af _) h.wm
end
section
theorem xw.left {a b:BT ByteArray} (h:xw (.node a b)):xw a:=⟨(nR.1 h.nd).1,fun x hx=>h.nm x (JS _ hx)⟩
theorem xw.right {a b:BT ByteArray} (h:xw (.node a b)):xw b:=⟨(nR.1 h.nd).2.1,fun x hx=>h.nm x (JT _ hx)⟩
theorem bt_sim {r s:BT ByteArray} (hs:r.GQ s):xw r->cn (eF r)=cn (eF s):=by
 induction hs with
 | leaf x=>intro _;rfl
 | @node a a' b b' h1 h2 i1 i2 =>
  intro h
  rw [eF,eF]
  refine Sb ?_ h.Ri.good
  rw [cK,cK,cK,cK,i1 h.left,i2 h.right]
 | @swap a a' b b' h1 h2 i1 i2 =>
  intro h
  rw [eF,eF]
  refine Sb ?_ h.Ri.good
  rw [cK,cK,cK,cK,i1 h.left,i2 h.right]
  exact List.Perm.swap _ _ _
theorem gT.tail_nd {aac:List ByteArray} (h:gT aac):aac.tail.Nodup:=by
 have:=h.nd;rw [<- h.cons] at this;exact (iR.1 this).2
end
section
section
variable (m:Nat) (cost:Nat->Nat->Int) (bW:ByteArray->Int)
mutual
def fZ:RT->Nat->Int->Prop
 | .node nm ks,s,c=>s<m/\(ks=[]->0<=bW nm->bW nm=(s:Int))/\o9 ks s c
def o9:List RT->Nat->Int->Prop
 | [],_,c=>c=0
 | k::ks,s,c=>∃u a b,fZ k u a/\o9 ks s b/\c=cost s u+a+b
end
def PM (A B:RT) (c:Int):Prop:=∃s u a b,fZ m cost bW A s a/\fZ m cost bW B u b/\c=a+cost s u+b
end
structure vR (m:Nat) (cost:Nat->Nat->Int):Prop where
 nn:∀a b,a<m->b<m->0<=cost a b
 z:∀a,a<m->cost a a=0
 sym:∀a b,a<m->b<m->cost a b=cost b a
 tri:∀a b c,a<m->b<m->c<m->cost a c<=cost a b+cost b c
section
variable {m:Nat} {cost:Nat->Nat->Int} {bW:ByteArray->Int}
theorem kC:∀ {r:RT} {s:Nat} {c:Int},fZ m cost bW r s c->s<m
 | .node nm ks,s,c,h=>by rw [fZ] at h;exact h.1
theorem cQ {k:RT} {ks:List RT} {s:Nat} {c:Int}:o9 m cost bW (k::ks) s c↔∃u a b,fZ m cost bW k u a/\o9 m cost bW ks s b/\c=cost s u+a+b:=by rw [o9]
theorem mS {s:Nat} {c:Int}:o9 m cost bW [] s c↔c=0:=by rw [o9]
theorem jd {nm:ByteArray} {ks:List RT} {s:Nat} {c:Int}:fZ m cost bW (.node nm ks) s c↔s<m/\(ks=[]->0<=bW nm->bW nm=(s:Int))/\o9 m cost bW ks s c:=by rw [fZ]
theorem yQ {s:Nat}:∀ {l l2:List RT} {c:Int},o9 m cost bW (l++l2) s c↔∃a b,o9 m cost bW l s a/\o9 m cost bW l2 s b/\c=a+b
 | [],l2,c=>by
  constructor
  ·intro h;exact ⟨0,c,mS.2 rfl,h,by omega⟩
  ·rintro ⟨a,b,h1,h2,rfl⟩
   rw [mS] at h1;subst h1
   rw [Int.zero_add];exact h2
 | k::l,l2,c=>by
  rw [cr,cQ]
  constructor
  ·rintro ⟨u,a,b,h1,h2,rfl⟩
   obtain ⟨a2,b2,h3,h4,rfl⟩:=yQ.1 h2
   exact ⟨cost s u+a+a2,b2,cQ.2 ⟨u,a,a2,h1,h3,rfl⟩,h4,by omega⟩
  ·rintro ⟨a,b,h1,h2,rfl⟩
   obtain ⟨u,a1,a2,h3,h4,rfl⟩:=cQ.1 h1
   exact ⟨u,a1,a2+b,h3,yQ.2 ⟨a2,b,h4,h2,rfl⟩,by omega⟩
theorem wJ {s:Nat} {l l2:List RT} (h:l.Perm l2):∀ {c:Int},o9 m cost bW l s c->o9 m cost bW l2 s c:=by
 induction h with
 | nil=>intro c h;exact h
 | cons x _ ih =>
  intro c h
  obtain ⟨u,a,b,h1,h2,rfl⟩:=cQ.1 h
  exact cQ.2 ⟨u,a,b,h1,ih h2,rfl⟩
 | swap x y l =>
  intro c h
  obtain ⟨u,a,b,h1,h2,rfl⟩:=cQ.1 h
  obtain ⟨v,a2,b2,h3,h4,rfl⟩:=cQ.1 h2
  exact cQ.2 ⟨v,a2,cost s u+a+b2,h3,cQ.2 ⟨u,a,b2,h1,h4,rfl⟩,by omega⟩
 | trans _ _ i1 i2=>intro c h;exact i2 (i1 h)
mutual
theorem Gn:∀(r:RT) (s:Nat) (c:Int),fZ m cost bW (cn r) s c↔fZ m cost bW r s c
 | .node nm ks,s,c=>by
  rw [cn,jd,jd,JJ ks s c]
  constructor
  ·rintro ⟨h1,h2,h3⟩;exact ⟨h1,fun e=>h2 (rI.2 e),h3⟩
  ·rintro ⟨h1,h2,h3⟩;exact ⟨h1,fun e=>h2 (rI.1 e),h3⟩
theorem JJ:∀(rs:List RT) (s:Nat) (c:Int),o9 m cost bW (fU rs) s c↔o9 m cost bW rs s c
 | [],s,c=>by rw [fU]
 | r::rs,s,c=>by
  rw [fU]
  have hp:=Ir (cn r) (fU rs)
  constructor
  ·intro h
   obtain ⟨u,a,b,h1,h2,e⟩:=cQ.1 (wJ hp h)
   exact cQ.2 ⟨u,a,b,(Gn r u a).1 h1,(JJ rs s b).1 h2,e⟩
  ·intro h
   obtain ⟨u,a,b,h1,h2,e⟩:=cQ.1 h
   exact wJ hp.symm (cQ.2 ⟨u,a,b,(Gn r u a).2 h1,(JJ rs s b).2 h2,e⟩)
end
theorem Mt (M:vR m cost):∀(d:Nat) (r:RT),aU r<=d->∀s c,fZ m cost bW r s c->∃u c',fZ m cost bW (gw r) u c'/\∀p,p<m->cost p u+c'<=cost p s+c
 | 0,.node nm ks,h=>by rw [aU] at h;omega
 | d+1,.node nm ks,h=>by
  intro s c hc
  rw [jd] at hc
  obtain ⟨hs,hl,hk⟩:=hc
  by_cases h1:ks.length=1
  ·obtain ⟨k,rfl⟩:=CK.1 h1
   rw [JI]
   obtain ⟨u,a,b,h2,h3,rfl⟩:=cQ.1 hk
   rw [mS] at h3;subst h3
   obtain ⟨v,c',h4,h5⟩:=Mt M d k (by have:=vO (nm:=nm) (ks:=[k]) (k:=k) (by simp);omega) u a h2
   refine ⟨v,c',h4,fun p hp=>?_⟩
   have:=h5 p hp
   have:=M.tri p s u hp hs (kC h2)
   omega
  ·rw [Gl h1]
   have hall:∀k∈ks,∀s c,fZ m cost bW k s c->∃u c',fZ m cost bW (gw k) u c'/\∀p,p<m->cost p u+c'<=cost p s+c:=fun k hk=>Mt M d k (by have:=vO (nm:=nm) hk;omega)
   have key:∀(l:List RT),(∀k∈l,∀s c,fZ m cost bW k s c->∃u c',fZ m cost bW (gw k) u c'/\∀p,p<m->cost p u+c'<=cost p s+c)->∀c,o9 m cost bW l s c->∃c',o9 m cost bW (l.map gw) s c'/\c'<=c:=fun l=>by
    induction l with
    | nil=>intro _ c h;exact ⟨c,h,lT _⟩
    | cons k l ih =>
     intro ha c h
     obtain ⟨u,a,b,h2,h3,rfl⟩:=cQ.1 h
     obtain ⟨v,a',h4,h5⟩:=ha k (by simp) u a h2
     obtain ⟨b',h6,h7⟩:=ih (fun k hk=>ha k (by simp [hk])) b h3
     refine ⟨cost s v+a'+b',cQ.2 ⟨v,a',b',h4,h6,rfl⟩,?_⟩
     have:=h5 s hs
     omega
   obtain ⟨c',h6,h7⟩:=key ks hall c hk
   exact ⟨s,c',jd.2 ⟨hs,fun e=>hl (by simpa using e),h6⟩,fun p _=>by omega⟩
theorem WA (M:vR m cost) {nm nm':ByteArray} {ks K:List RT} {x B:RT} (hp:ks.Perm (x::K)) (c:Int):PM m cost bW (.node nm ks) B c↔PM m cost bW x (.node nm' (K++[B])) c:=by
 have hne:ks≠[]:=fun e=>by rw [e] at hp;have:=hp.length_eq;simp at this
 constructor
 ·rintro ⟨s,u,a,b,h1,h2,rfl⟩
  rw [jd] at h1;obtain ⟨v,a1,a2,h3,h4,rfl⟩:=cQ.1 (wJ hp h1.2.2);refine ⟨v,s,a1,a2+(cost s u+b),h3,jd.2 ⟨h1.1,fun e=>(by simp at e),yQ.2 ⟨a2,cost s u+b,h4,cQ.2 ⟨u,b,0,h2,mS.2 rfl,by omega⟩,rfl⟩⟩,?_⟩;have:=M.sym s v h1.1 (kC h3);omega
 ·rintro ⟨v,s,a1,a,h1,h2,rfl⟩
  rw [jd] at h2;obtain ⟨a2,b1,h3,h4,rfl⟩:=yQ.1 h2.2.2;obtain ⟨u,b,z,h5,h6,rfl⟩:=cQ.1 h4;rw [mS] at h6;subst h6;refine ⟨s,u,cost s v+a1+a2,b,jd.2 ⟨h2.1,fun e=>absurd e hne,wJ hp.symm (cQ.2 ⟨v,a1,a2,h1,h3,rfl⟩)⟩,h5,?_⟩;have:=M.sym s v h2.1 (kC h1);omega
theorem Gp (M:vR m cost) {nm:ByteArray} {x W:RT} {c:Int} (h:PM m cost bW x W c):∃s,fZ m cost bW (.node nm [x,W]) s c:=by
 obtain ⟨s,u,a,b,h1,h2,rfl⟩:=h;refine ⟨s,jd.2 ⟨kC h1,fun e=>(by cases e),cQ.2 ⟨s,a,cost s u+b,h1,cQ.2 ⟨u,b,0,h2,mS.2 rfl,by omega⟩,?_⟩⟩⟩;have:=M.z s (kC h1);omega
theorem Gq (M:vR m cost) {nm:ByteArray} {x W:RT} {s:Nat} {c:Int} (h:fZ m cost bW (.node nm [x,W]) s c):∃c',PM m cost bW x W c'/\c'<=c:=by
 rw [jd] at h;obtain ⟨hs,_,h⟩:=h;obtain ⟨u,a,b,h1,h2,rfl⟩:=cQ.1 h;obtain ⟨v,a2,b2,h3,h4,rfl⟩:=cQ.1 h2;rw [mS] at h4;subst h4;refine ⟨a+cost u v+a2,⟨u,v,a,a2,h1,h3,rfl⟩,?_⟩;have:=M.tri u s v (kC h1) hs (kC h3);have:=M.sym u s (kC h1) hs;omega
end
end
section
theorem WB:∀ks:List RT,ks≠[]->(∀k∈ks,∃b:BT ByteArray,b.eR.Perm (dx k)/\∀m cost bW,vR m cost->∀s c,fZ m cost bW k s c->∃c',c'<=c/\fZ m cost bW (eF b) s c') ->
  ∃B:BT ByteArray,B.eR.Perm (ks.flatMap dx)/\(∀m cost bW,vR m cost->∀s c,s<m->o9 m cost bW ks s c->∃u a,fZ m cost bW (eF B) u a/\cost s u+a<=c) /\
   (ks.length≠1->∀m cost bW,vR m cost->∀s c,s<m->o9 m cost bW ks s c->∃c',c'<=c/\fZ m cost bW (eF B) s c')
 | [],h,_=>absurd rfl h
 | [k],_,hk=>by
  obtain ⟨b,h1,h2⟩:=hk k (by simp)
  refine ⟨b,by simpa using h1,fun m cost bW M s c hs h=>?_,fun e=>absurd rfl e⟩
  obtain ⟨u,a,z,h3,h4,rfl⟩:=cQ.1 h
  rw [mS] at h4;subst h4
  obtain ⟨c',h5,h6⟩:=h2 m cost bW M u a h3
  exact ⟨u,c',h6,by omega⟩
 | k::k2::ks,_,hk=>by
  obtain ⟨b,h1,h2⟩:=hk k (by simp)
  obtain ⟨B,h3,h4,_⟩:=WB (k2::ks) (by simp) fun x hx=>hk x (by simp only [aW] at hx ⊢;exact .inr hx)
  have key:∀m cost bW,vR m cost->∀s c,s<m->o9 m cost bW (k::k2::ks) s c->∃c',c'<=c/\fZ m cost bW (eF (.node b B)) s c':=fun m cost bW M s c hs h=>by
   obtain ⟨u,a,z,h5,h6,rfl⟩:=cQ.1 h
   obtain ⟨a',h7,h8⟩:=h2 m cost bW M u a h5
   obtain ⟨v,z',h9,h10⟩:=h4 m cost bW M s z hs h6
   exact ⟨cost s u+a'+(cost s v+z'),by omega,jd.2 ⟨hs,fun e=>(by cases e),cQ.2 ⟨u,a',cost s v+z',h8,cQ.2 ⟨v,z',0,h9,mS.2 rfl,by omega⟩,rfl⟩⟩⟩
  refine ⟨.node b B,?_,fun m cost bW M s c hs h=>?_,fun _=>key⟩
  ·rw [BT.eR,gU];exact h1.append h3
  ·obtain ⟨c',h5,h6⟩:=key m cost bW M s c hs h
   have:=M.z s hs
   exact ⟨s,c',h6,by omega⟩
theorem bin_ex:∀(d:Nat) (r:RT),aU r<=d->GZ r->∃b:BT ByteArray,b.eR.Perm (dx r)/\∀m cost bW,vR m cost->∀s c,fZ m cost bW r s c->∃c',c'<=c/\fZ m cost bW (eF b) s c'
 | 0,r,hd,_=>by have:=mA r;omega
 | d+1,.node nm ks,hd,ho=>by
  by_cases hk:ks=[]
  ·subst hk
   have h0:nm.size≠0:=jR ((ho.pt _ (ja _)).2.1 rfl)
   exact ⟨.leaf nm,by rw [F0 h0];exact k9 _,fun m cost bW M s c h=>⟨c,by omega,h⟩⟩
  ·obtain ⟨B,h1,_,h3⟩:=WB ks hk fun k hk=>bin_ex d k (by have:=vO (nm:=nm) hk;omega) (ho.sub (A9 hk))
   refine ⟨B,by rw [ho.leafs hk];exact h1,fun m cost bW M s c h=>?_⟩
   rw [jd] at h
   exact h3 (ho.pt _ (ja _)).2.2 m cost bW M s c h.1 h.2.2
theorem Kk (x:ByteArray):∀A B:BT ByteArray,x∈A.eR->∃R:BT ByteArray,(x::R.eR).Perm (A.eR++B.eR)/\∀m cost bW,vR m cost->∀c,PM m cost bW (eF A) (eF B) c↔PM m cost bW (.node x []) (eF R) c
 | .leaf y,B,h=>by
  have:x=y:=by simpa [BT.eR] using h
  subst this
  exact ⟨B,k9 _,fun m cost bW M c=>Iff.rfl⟩
 | .node a1 a2,B,h=>by
  rw [BT.eR] at h
  rcases dV.1 h with h | h
  ·obtain ⟨R,h1,h2⟩:=Kk x a1 (.node a2 B) h
   refine ⟨R,?_,fun m cost bW M c=>Iff.trans ?_ (h2 m cost bW M c)⟩
   ·rw [BT.eR,dN];exact h1
   ·exact WA M (nm':=ByteArray.empty) (K:=[eF a2]) (k9 _) c
  ·obtain ⟨R,h1,h2⟩:=Kk x a2 (.node a1 B) h
   refine ⟨R,?_,fun m cost bW M c=>Iff.trans ?_ (h2 m cost bW M c)⟩
   ·rw [BT.eR,dN]
    refine h1.trans ?_
    rw [BT.eR]
    rw [<- dN,<- dN]
    exact Bi.append_right _
   ·exact WA M (nm':=ByteArray.empty) (K:=[eF a1]) (List.Perm.swap _ _ _) c
theorem bin_root (b:BT ByteArray) {x:ByteArray} (hx:x∈b.eR) (h2:2<=b.eR.length):∃R:BT ByteArray,(x::R.eR).Perm b.eR/\∀m cost bW,vR m cost->(∀s c,fZ m cost bW (eF b) s c->∃s' c',c'<=c/\fZ m cost bW (eF (.node (.leaf x) R)) s' c')/\(∀s c,fZ m cost bW (eF (.node (.leaf x) R)) s c->∃s' c',c'<=c/\fZ m cost bW (eF b) s' c'):=by
 cases b with
 | leaf y=>simp [BT.eR] at h2
 | node a1 a2 =>
  rw [BT.eR] at hx;rcases dV.1 hx with hx | hx
  ·obtain ⟨R,h3,h4⟩:=Kk x a1 a2 hx
   refine ⟨R,h3,fun m cost bW M=>⟨fun s c h=>?_,fun s c h=>?_⟩⟩
   ·obtain ⟨c',h5,h6⟩:=Gq M h
    obtain ⟨s',h7⟩:=Gp M (nm:=ByteArray.empty) ((h4 m cost bW M c').1 h5);exact ⟨s',c',h6,h7⟩
   ·obtain ⟨c',h5,h6⟩:=Gq M h
    obtain ⟨s',h7⟩:=Gp M (nm:=ByteArray.empty) ((h4 m cost bW M c').2 h5);exact ⟨s',c',h6,h7⟩
  ·obtain ⟨R,h3,h4⟩:=Kk x a2 a1 hx
   (have hsw:∀m cost bW s c,fZ m cost bW (eF (.node a1 a2)) s c↔fZ m cost bW (eF (.node a2 a1)) s c:=fun m cost bW s c=>by rw [eF,eF,jd,jd];exact ⟨fun ⟨q1,q2,q3⟩=>⟨q1,fun e=>(by cases e),wJ (List.Perm.swap _ _ _) q3⟩,fun ⟨q1,q2,q3⟩=>⟨q1,fun e=>(by cases e),wJ (List.Perm.swap _ _ _) q3⟩⟩);refine ⟨R,h3.trans Bi,fun m cost bW M=>⟨fun s c h=>?_,fun s c h=>?_⟩⟩
   ·obtain ⟨c',h5,h6⟩:=Gq M ((hsw _ _ _ _ _).1 h)
    obtain ⟨s',h7⟩:=Gp M (nm:=ByteArray.empty) ((h4 m cost bW M c').1 h5);exact ⟨s',c',h6,h7⟩
   ·obtain ⟨c',h5,h6⟩:=Gq M h
    obtain ⟨s',h7⟩:=Gp M (nm:=ByteArray.empty) ((h4 m cost bW M c').2 h5);exact ⟨s',c',h6,(hsw _ _ _ _ _).2 h7⟩
theorem Yc {aac:List ByteArray} (h:gT aac) {b:BT ByteArray} (hb:b.eR.Perm aac):∃q∈cI aac,∀m cost bW,vR m cost->(∀s c,fZ m cost bW (eF b) s c->∃s' c',c'<=c/\fZ m cost bW q s' c')/\(∀s c,fZ m cost bW q s c->∃s' c',c'<=c/\fZ m cost bW (eF b) s' c'):=by
 have h0:gs aac 0∈b.eR:=hb.mem_iff.2 (by rw [<- h.cons];simp [gs]);obtain ⟨R,h1,h2⟩:=bin_root b h0 (by rw [hb.length_eq];exact h.lo);have h3:R.eR.Perm aac.tail:=(List.perm_cons (gs aac 0)).1 ((h1.trans hb).trans (List.Perm.of_eq h.cons.symm));obtain ⟨r,hr,hs⟩:=Wz aac.length aac.tail R (by simp) h.tail_nd h3;have ho:=uB_ok h h3;have e:cn (eF (uB aac R))=uR aac r:=bt_sim (BT.GQ.node (.leaf _) hs) ho;refine ⟨uR aac r,F3.2 ⟨r,hr,rfl⟩,fun m cost bW M=>?_⟩;obtain ⟨h4,h5⟩:=h2 m cost bW M;rw [<- e];refine ⟨fun s c hc=>?_,fun s c hc=>?_⟩
 ·obtain ⟨s',c',h6,h7⟩:=h4 s c hc
  exact ⟨s',c',h6,(Gn _ _ _).2 h7⟩
 ·exact h5 s c ((Gn _ _ _).1 hc)
theorem best_ex {aac:List ByteArray} (h:gT aac) {r:RT} (hg:iq r) (hr:(dx r).Perm aac):∃q∈cI aac,∀m cost bW,vR m cost->∀s c,fZ m cost bW r s c->∃s' c',c'<=c/\fZ m cost bW q s' c':=by
 have ho:=oku_contr hg;obtain ⟨b,h1,h2⟩:=bin_ex _ (gw r) (af _) ho;rw [hg.Yb] at h1;obtain ⟨q,hq,h3⟩:=Yc h (h1.trans hr);refine ⟨q,hq,fun m cost bW M s c hc=>?_⟩;obtain ⟨u,c',h4,h5⟩:=Mt M _ r (af _) s c hc;have h6:=h5 s (kC hc);have h7:=M.z s (kC hc);have h8:=M.nn s u (kC hc) (kC h4);obtain ⟨c1,h9,h10⟩:=h2 m cost bW M u c' h4;obtain ⟨s',c2,h11,h12⟩:=(h3 m cost bW M).1 u c1 h10;exact ⟨s',c2,by omega,h12⟩
end
section
section
variable {F:ct} {n:Nat} {rk:Nat->Nat} {P:Nat->Bool} {m:Nat} {cost:Nat->Nat->Int} {bW:ByteArray->Int}
theorem rk_ind (h:Wf F n rk) {Q:Nat->Prop} (step:∀z,z<n->(∀k∈F.kids z,Q k)->Q z):∀z,z<n->Q z:=by
 have key:∀d z,rk z<=d->z<n->Q z:=by
  intro d
  induction d with
  | zero=>intro z hd hz;exact step z hz fun k hk=>by have:=(h.kid z hz k hk).2;omega
  | succ d ih=>intro z hd hz;exact step z hz fun k hk=>by have:=h.kid z hz k hk;exact ih k (by omega) this.1
 exact fun z hz=>key _ z (af _) hz
end
section
variable {t:az} {st:List Int} {cs:List (List Int)} {bW:ByteArray->Int}
theorem Z4 (hv:Valid t st cs) (hl:∀i,i<t.ps.length->bq t.ps i=[]->bW (gs t.ns i)=nh t.ns st i):∀z,z<t.ps.length->∀s,s<cs.length ->
  (∀c,fZ cs.length (jm cs) bW (bB (fJ t) (dU t) z) s c->0<=kG t st cs z s/\kG t st cs z s<=c)/\(0<=kG t st cs z s->fZ cs.length (jm cs) bW (bB (fJ t) (dU t) z) s (kG t st cs z s)):=by
 have hw:=(eu hv.tree).wf;obtain ⟨_,_,_,m4,_⟩:=yE hv.mat;have hcost:∀s,∀j,j<cs.length->0<=jm cs s j/\jm cs s j<=1000:=fun s j _=>m4 s j;have DK:∀s k,qg t st cs s k=(cN (jm cs s) (gi (bK t st cs k)) cs.length).1:=fun s k=>by unfold qg;rw [lV];rfl
 refine rk_ind hw fun z hz IH s hs=>?_;rw [iY] at IH;rw [fO hw hz,Yr t st cs hz s,iY];show (∀c,fZ cs.length (jm cs) bW (.node (gs t.ns z) _) s c->_)/\(_->fZ cs.length (jm cs) bW (.node (gs t.ns z) _) s _);simp only [jd];have key1:∀l:List Nat,(∀k∈l,k∈bq t.ps z)->∀c,o9 cs.length (jm cs) bW (l.map (bB (fJ t) (dU t))) s c->(l.map (qg t st cs s)).sum<=c:=fun l=>by
  induction l with
  | nil=>intro _ c h;rw [wQ,mS] at h;subst h;simp
  | cons k l ih =>
   intro hm c hc;obtain ⟨u,a,b,h1,h2,rfl⟩:=cQ.1 hc;have hkm:=hm k (by simp);have h3:=ih (fun k hk=>hm k (by simp [hk])) b h2;obtain ⟨h4,h5⟩:=(IH k hkm u (kC h1)).1 a h1;obtain ⟨o,_,_,_,_,h6,_⟩:=AV hv (hcost s) (cD.1 hkm).1;have h7:=h6 u (kC h1) (by rw [ig t st cs k (kC h1)];exact h4);rw [ig t st cs k (kC h1),<- DK] at h7;rw [cK,List.sum_cons];omega
 have key2:∀l:List Nat,(∀k∈l,k∈bq t.ps z)->o9 cs.length (jm cs) bW (l.map (bB (fJ t) (dU t))) s ((l.map (qg t st cs s)).sum)/\0<=(l.map (qg t st cs s)).sum:=fun l=>by
  induction l with
  | nil=>intro _;exact ⟨mS.2 rfl,by simp⟩
  | cons k l ih =>
   intro hm;have hkm:=hm k (by simp);obtain ⟨h2,h3⟩:=ih fun k hk=>hm k (by simp [hk]);obtain ⟨o,_,h4,h5,h6,_,_⟩:=AV hv (hcost s) (cD.1 hkm).1;rw [ig t st cs k h4] at h5 h6;rw [<- DK] at h6;rw [cK,cK,List.sum_cons];have:=(hcost s o h4).1;exact ⟨cQ.2 ⟨o,kG t st cs k o,_,(IH k hkm o h4).2 h5,h2,by omega⟩,by omega⟩
 obtain ⟨k2,k3⟩:=key2 _ fun k hk=>hk;have k1:=key1 _ fun k hk=>hk;by_cases h0:bq t.ps z=[]
 ·rw [h0] at k1 k2 k3 ⊢
  have hlz:=hl z hz h0;rw [hlz];unfold jQ;simp only [wQ,List.sum_nil,mS] at *;constructor
  ·rintro c ⟨_,h1,h2⟩
   have h1:=h1 trivial;rw [if_neg (fun e=>e.2 (h1 e.1))];omega
  ·intro h1
   refine ⟨hs,fun _ h2=>?_,?_⟩
   ·by_cases e:nh t.ns st z=(s:Int)
    ·exact e
    ·rw [if_pos ⟨h2,e⟩] at h1;omega
   ·split at h1
    ·omega
    ·rw [if_neg (by assumption)];rfl
 ·have hown:nh t.ns st z = -1:=by
   obtain ⟨c,hc⟩:=Fs _ h0
   obtain ⟨c1,c2,c3⟩:=cD.1 hc
   exact hv.fine.leaf z c c1 c2 c3
  have hb:jQ t st z s=0:=by unfold jQ;rw [if_neg (by omega)]
  rw [hb,Int.zero_add]
  exact ⟨fun c ⟨_,_,h3⟩=>⟨k3,k1 c h3⟩,fun _=>⟨hs,fun e=>absurd (List.map_eq_nil_iff.1 e) h0,k2⟩⟩
theorem Sd (hv:Valid t st cs) (hl:∀i,i<t.ps.length->bq t.ps i=[]->bW (gs t.ns i)=nh t.ns st i) :
  (∃s,fZ cs.length (jm cs) bW (iZ t) s (dg t st cs))/\∀s c,fZ cs.length (jm cs) bW (iZ t) s c->dg t st cs<=c:=by
 have hp:=(aF hv.tree).1;have hsc:dg t st cs=(cN (fun _=>0) (gi (bK t st cs 0)) cs.length).1:=by unfold dg;rw [if_pos hv.par]
 obtain ⟨o,_,h4,h5,h6,h7,_⟩:=AV hv (c:=fun _=>0) (fun j _=>⟨lT _,by omega⟩) hp;rw [<- hsc] at h6 h7;rw [ig t st cs 0 h4] at h5 h6;constructor
 ·refine ⟨o,?_⟩
  rw [h6,Int.zero_add];exact (Z4 hv hl 0 hp o h4).2 h5
 ·intro s c hc
  have hs:=kC hc;obtain ⟨a1,a2⟩:=(Z4 hv hl 0 hp s hs).1 c hc;have:=h7 s hs (by rw [ig t st cs 0 hs];exact a1);rw [ig t st cs 0 hs] at this;omega
theorem leafOk_of (he:aH t=0) {i:Nat} (hi:i<t.ps.length) (hk:bq t.ps i=[]):eL t i:=⟨he,hi,jR (uP he hi hk)⟩
end
end
end Go.Proofs.YthgabkgmkolobaaGreat
