/- The contract of layer 31's reference's Canonical. The reference's canonical tree is the .. -/
import Derived.Test.YthgabkgmkolobaaGreatQ29
set_option maxRecDepth 100000
namespace Go.Proofs.YthgabkgmkolobaaGreat
section
open Go.RowKit Go.Deep
def sN (t:aD):aD:=flat (ordR (iA t))
def Vu (w:World) (t:aD) (e:Ending) (w':World):Prop :=
 Up w w'∧((aB t≠0∧e=.returned (.tuple #[.agg #[.slice none 0 0,.slice none 0 0],.int .i64 1]))∨(aB t=0∧∃v,e=.returned (.tuple #[v,.int .i64 0])∧au (fun b=>w.heap.size≤b) w' v (sN t)))
set_option maxHeartbeats 2000000 in
theorem PN (S:Nat→Prop) (w:World) (v:Value) (t:aD) (hT:au S w v t) (hp:t.ps.length≤1000000) (hn:t.ns.length≤1000000) (hz:∀k,(gs t.ns k).size≤70000):Calls Tryz.prog 147 #[v] w (Vu w t):=by
 obtain ⟨P,N,rfl,hP,hN⟩:=hT;have hu:=(Up.alloc w (.cells #[P,N] 39)).trans (Up.alloc _ (.cells #[.slice none 0 0,.slice none 0 0] 39));have dw:au S ((w.alloc (.cells #[P,N] 39)).alloc (.cells #[.slice none 0 0,.slice none 0 0] 39)) (.agg #[P,N]) t:=au.keep ⟨P,N,rfl,hP,hN⟩ (hu.kept _);have dr:=aa (jZ S _ _ t dw hp hn hz);have HT:=aa dw;have HU:=aa hu;have eN:=aa ((Up.alloc _ (.cells #[.slice none 0 0,.slice none 0 0] 39)).cell (dc w P N 39));have jE:=aa ((Up.alloc _ (.cells #[.slice none 0 0,.slice none 0 0] 39)).cell (dz w P N 39))
 have hc0:=eN.out;have hc1:=jE.out;have hrb:=ek (w:=w.alloc (.cells #[P,N] 39)) (P:=.slice none 0 0) (N:=.slice none 0 0) (T:=39);have hsz:((w.alloc (.cells #[P,N] 39)).alloc (.cells #[.slice none 0 0,.slice none 0 0] 39)).heap.size=w.heap.size+2:=by simp
 rw [World.size_alloc] at hrb;have iV:=aa hrb;have cz:=aa hsz;clear hu dw hP hN hrb hsz
 go_enter Tryz.func147,Tryz.ntmps147
 go_wp2_with fail;generalize (w.alloc (.cells #[P,N] 39)).alloc (.cells #[.slice none 0 0,.slice none 0 0] 39)=w1 at *;refine dr.out.mono ?_;rintro e w2 ⟨rfl,hb2⟩;have aG:Up w1 w2:=hb2;have hc0:=aG.cell eN.out;have hc1:=aG.cell jE.out;have iu:=aa (HT.out.keep (aG.kept S));have kr:=(Below.block aG (w.heap.size+1) (by rw [cz.out];omega)).trans iV.out;have aP:=aa (HU.out.trans aG);have dP:Hid (w.heap.size+2≤w2.heap.size):=by unfold Hid;have:=aG.size;rw [cz.out] at this;exact this
 clear hb2 aG dr HT HU eN jE iV;by_cases he:aB t=0
 ·have HE:=aa he
  rw [he];have iZ:=aa kr;have tH:=aa (I1 S t he (cW t 0) 0 (Nat.le_refl _) (aJ he).1 w2 _ iu.out);have hsize:=CR he;have Vv:=C8 (iA t);have RD:=aa (And.intro hsize Vv);clear kr he hsize Vv;go_wp2_with fail;refine tH.out.mono ?_;rintro e w3 ⟨bz,v3,rfl,hr3⟩;have bW:=aa bz;have YX:=aa (MJ _ 64 (iA t) RD.out.1 (by omega) w3 _ hr3);clear bz hr3 tH;go_wp2_with fail;refine YX.out.mono ?_;rintro e w4 ⟨bE,v4,rfl,hr4⟩;have jl:=aa (bW.out.trans bE)
  have l6:=aa (zx _ w4 _ (ordR (iA t)) hr4 (by have:=RD.out;omega));have AE:Hid (w.heap.size+2≤w4.heap.size):=by unfold Hid;have:=jl.out.size;have:=dP.out;omega
  clear bE hr4 YX bW;go_wp2_with fail;refine l6.out.mono ?_;rintro e w5 ⟨fe,_,rfl,P4,N4,rfl,ey,eC⟩;have ey:aj (fun b=>w4.heap.size≤b) w5 P4 (sN t).ps:=ey;have eC:ah (fun b=>w4.heap.size≤b) w5 N4 (sN t).ns:=eC;obtain ⟨pp,pc,rfl,_,_⟩:=aC.open ey;obtain ⟨np,nc,rfl,_,_⟩:=aC.open eC;have ja:=(Below.block (jl.out.trans fe) (w.heap.size+1) (by have:=dP.out;omega)).trans iZ.out;have ji:w5.cell? ⟨w.heap.size+1,0,none⟩=some (.slice none 0 0):=by simp [World.cell?,ja]
  have hr1:w5.cell? ⟨w.heap.size+1,1,none⟩=some (.slice none 0 0):=by simp [World.cell?,ja]
  have IQ:w5.frozen? ⟨w.heap.size+1,0,none⟩=false:=by simp [World.frozen?,ja]
  have nw:w5.frozen? ⟨w.heap.size+1,1,none⟩=false:=by simp [World.frozen?,ja]
  have CJ:=aa ey;have Mr:=aa eC;have HST:=aa (dS (w:=w) (p:=.slice pp (sN t).ps.length pc) (q:=.slice np (sN t).ns.length nc) ja (by omega) (aP.out.trans (jl.out.trans fe)));clear ey eC fe ja l6 iZ hc0 hc1;go_wp2_with fail;obtain ⟨s1,s2,s3,s4⟩:=HST.out;have hs2:=dP.out;have hs4:=AE.out;refine ⟨rfl,.tuple #[.agg #[.slice pp (sN t).ps.length pc,.slice np (sN t).ns.length nc],.int .i64 0],by simp [results,Tryz.results147,go_sem,s2,s3],?_⟩
  exact ⟨s1,.inr ⟨HE.out,_,rfl,_,_,rfl,(aj.keep CJ.out fun b hb _=>s4 b (by omega)).sub fun b hb _=>by omega,(ah.keep Mr.out fun b hb _=>s4 b (by omega)).sub fun b hb _=>by omega⟩⟩
 ·have rR:(aB t != 0)=true:=by simpa using he
  have ji:w2.cell? ⟨w.heap.size+1,0,none⟩=some (.slice none 0 0):=by simp [World.cell?,kr]
  have hr1:w2.cell? ⟨w.heap.size+1,1,none⟩=some (.slice none 0 0):=by simp [World.cell?,kr]
  have IQ:w2.frozen? ⟨w.heap.size+1,0,none⟩=false:=by simp [World.frozen?,kr]
  have nw:w2.frozen? ⟨w.heap.size+1,1,none⟩=false:=by simp [World.frozen?,kr]
  have HST:=aa (dS (w:=w) (p:=.slice none 0 0) (q:=.slice none 0 0) kr (by omega) aP.out);have HE:=aa he;clear he kr hc0 hc1;generalize aB t=te at rR ⊢;go_wp2_with fail;obtain ⟨s1,s2,s3,s4⟩:=HST.out;refine ⟨rfl,.tuple #[.agg #[.slice none 0 0,.slice none 0 0],.int .i64 1],by simp [results,Tryz.results147,go_sem,s2,s3],?_⟩;exact ⟨s1,.inl ⟨HE.out,rfl⟩⟩
end
section
open Go.RowKit Go.Deep
theorem uJ:∀a b:List UInt8,Op.bytesLess a b=decide (Lib.compareBytes a b<0)
 | [],[]=>rfl
 | [],_::_=>rfl
 | _::_,[]=>rfl
 | a::x,b::y=>by
  rw [Op.bytesLess,Lib.compareBytes,uJ x y]
  by_cases h:a<b
  ·simp [h]
  ·by_cases h2:b<a
   ·have:a≠b:=by rintro rfl;exact h h2
    simp [h,h2,this]
   ·have:a=b:=by
     apply UInt8.toNat.inj
     rw [UInt8.lt_iff_toNat_lt] at h h2;omega
    subst this
    simp [h]
theorem I5 (a b:ByteArray):xw a b=decide (b6 a b<0):=by
 unfold xw b6;rw [uJ,Lib.toList_data,Lib.toList_data]
theorem lW (a b:ByteArray):iG a b=if b6 a b≤0 then a else b:=by
 unfold iG;rw [I5];by_cases h:a.toList=b.toList
 ·have e:a=b:=eD (by rw [← Lib.toList_data,← Lib.toList_data,h])
  subst e;simp [Cs]
 ·have e:b6 a b≠0:=fun q=>h (by rw [gu q])
  by_cases h1:b6 a b≤0
  ·rw [if_pos h1,if_pos];simp;left;omega
  ·rw [if_neg h1,if_neg];simp [h];omega
theorem lK {a b c:ByteArray} (h:b6 a b≤0) (h':b6 b c≤0):b6 a c≤0:=by
 by_cases h1:b6 a b=0
 ·rw [gu h1];exact h'
 ·by_cases h2:b6 b c=0
  ·rw [← gu h2];exact h
  ·have:=pY (a:=a) (b:=b) (c:=c) (by omega) (by omega);omega
theorem Fz {s a b:ByteArray} (h:b6 a b≤0):iG (iG s a) b=iG s a:=by
 rw [lW s a];split
 ·rename_i h1;rw [lW,if_pos (lK h1 h)]
 ·rw [lW,if_pos h]
theorem FA {s a b:ByteArray} (h:¬b6 a b≤0):iG (iG s a) b=iG s b:=by
 have hb:=gq a b;rw [lW s a];split
 ·rfl
 ·rename_i h1
  rw [lW a b,if_neg h,lW s b,if_neg];intro q;exact h1 (lK q (by omega))
def hdMin (s:ByteArray):List RT→ByteArray
 | []=>s
 | b::_=>iG s (firstR b)
theorem ML (s:ByteArray) (a:RT):∀l,hdMin s (insR a l)=hdMin (iG s (firstR a)) l
 | []=>rfl
 | b::l=>by
  rw [insR]
  split
  ·rename_i h;show iG s _=iG (iG s _) _;rw [Fz h]
  ·rename_i h;show iG s _=iG (iG s _) _;rw [FA h]
mutual
theorem qg:∀r:RT,lstR r=firstR (sortR r)
 | .node nm []=>by rw [lstR,sortR,dI,firstR]
 | .node nm (k::ks)=>by
  rw [lstR,yN ks,qg k,sortR,dI]
  cases h:dI ks with
  | nil=>rfl
  | cons b l =>
   rw [insR]
   show iG _ _=_
   rw [lW]
   split
   ·rw [firstR]
   ·rw [firstR]
theorem yN:∀(rs:List RT) (s:ByteArray),lstRs s rs=hdMin s (dI rs)
 | [],s=>by rw [lstRs,dI];rfl
 | r::rs,s=>by rw [lstRs,yN rs,qg r,dI,ML]
end
theorem FB {s:ByteArray} {o:RT} (hs:s=firstR o):∀ {l:List RT},(∀b∈l,lstR b=firstR b)→nU s o l=insR o l
 | [],_=>rfl
 | b::l,h=>by
  have hb:=h b (by simp)
  have ha:=gq (firstR b) (firstR o)
  have ih:=FB hs (l:=l) fun q hq=>h q (by simp [hq])
  unfold nU at ih ⊢
  rw [posK,insR,hb,I5,hs]
  by_cases e:b6 (firstR o) (firstR b)≤0
  ·rw [if_pos e,if_neg (by simp;omega)];rfl
  ·rw [if_neg e,if_pos (by simp;omega),List.take_succ_cons,List.drop_succ_cons,List.cons_append,← hs,ih]
theorem Db {a b:RT} (h:firstR a≠firstR b):∀l,insR a (insR b l)=insR b (insR a l)
 | []=>by
  have h1:=gq (firstR a) (firstR b)
  have h2:b6 (firstR a) (firstR b)≠0:=fun q=>h (gu q)
  simp only [insR]
  by_cases e:b6 (firstR a) (firstR b)≤0
  ·rw [if_pos e,if_neg (by omega)]
  ·rw [if_neg e,if_pos (by omega)]
 | c::l=>by
  have h1:=gq (firstR a) (firstR b)
  have h2:b6 (firstR a) (firstR b)≠0:=fun q=>h (gu q)
  by_cases ea:b6 (firstR a) (firstR c)≤0
  ·by_cases eb:b6 (firstR b) (firstR c)≤0
   ·by_cases e:b6 (firstR a) (firstR b)≤0
    ·have e':¬b6 (firstR b) (firstR a)≤0:=by omega
     simp only [insR,ea,eb,e,e',if_true,if_false]
    ·have e':b6 (firstR b) (firstR a)≤0:=by omega
     simp only [insR,ea,eb,e,e',if_true,if_false]
   ·have e':¬b6 (firstR b) (firstR a)≤0:=fun q=>eb (lK q ea)
    simp only [insR,ea,eb,e',if_true,if_false]
  ·by_cases eb:b6 (firstR b) (firstR c)≤0
   ·have e':¬b6 (firstR a) (firstR b)≤0:=fun q=>ea (lK q eb)
    simp only [insR,ea,eb,e',if_true,if_false]
   ·simp only [insR,ea,eb,if_false]
    rw [Db h l]
theorem FC {a x:RT}:∀ {l:List RT},x∈insR a l↔x=a∨x∈l
 | []=>by simp [insR]
 | b::l=>by
  rw [insR]
  split
  ·simp
  ·rw [List.mem_cons,FC (l:=l),List.mem_cons]
   constructor
   ·rintro (h | h | h)<;>simp [h]
   ·rintro (h | h | h)<;>simp [h]
def YY (r:RT):Prop:=∀s∈subR r,(s.kids.map fun k=>firstR (sortR k)).Nodup
def foldI (acc:List RT):List RT→List RT
 | []=>acc
 | c::cs=>insR (sortR c) (foldI acc cs)
theorem Dc {a:RT}:∀(cs acc:List RT),(∀c∈cs,firstR a≠firstR (sortR c))→foldI (insR a acc) cs=insR a (foldI acc cs)
 | [],_,_=>rfl
 | c::cs,acc,h=>by
  rw [foldI,foldI,Dc cs acc (fun q hq=>h q (by simp [hq])),Db (h c (by simp))]
theorem Dd:∀cs:List RT,foldI [] cs=dI cs
 | []=>by rw [foldI,dI]
 | c::cs=>by rw [foldI,dI,Dd cs]
mutual
theorem FD:∀r:RT,YY r→ordR r=sortR r
 | .node nm ks,h=>by
  have h0:=h (.node nm ks) (by rw [subR];simp)
  rw [ordR,sortR,De ks [] (fun s hs=>h s (by rw [subR];simp [hs])) h0 (by simp),Dd]
theorem De:∀(cs acc:List RT),(∀s∈subRs cs,(s.kids.map fun k=>firstR (sortR k)).Nodup)→(cs.map fun k=>firstR (sortR k)).Nodup→(∀b∈acc,lstR b=firstR b)→eo acc cs=foldI acc cs
 | [],acc,_,_,_=>by rw [eo,foldI]
 | c::cs,acc,h,hn,ha=>by
  have hc:=FD c (fun s hs=>h s (by rw [subRs];simp [hs]))
  have hl:lstR (sortR c)=firstR (sortR c):=by rw [qg,uz]
  rw [List.map_cons,List.nodup_cons] at hn
  rw [eo,hc,FB (qg c) ha,De cs _ (fun s hs=>h s (by rw [subRs];simp [hs])) hn.2 (fun b hb=>by
   rcases FC.1 hb with rfl | hb
   ·exact hl
   ·exact ha b hb),foldI,Dc cs acc]
  intro q hq e
  exact hn.1 (List.mem_map.2 ⟨q,hq,e.symm⟩)
end
mutual
theorem FE:∀(r s:RT),s∈subR r→(cF s).Sublist (cF r)
 | .node nm ks,s,h=>by
  rw [subR,List.mem_cons] at h
  rcases h with rfl | h
  ·exact List.Sublist.refl _
  ·rw [cF];exact (Df ks s h).trans (List.sublist_cons_self _ _)
theorem Df:∀(rs:List RT) (s:RT),s∈subRs rs→(cF s).Sublist (cN rs)
 | [],s,h=>by simp [subRs] at h
 | r::rs,s,h=>by
  rw [subRs,List.mem_append] at h
  rw [cN]
  rcases h with h | h
  ·exact (FE r s h).trans (List.sublist_append_left _ _)
  ·exact (Df rs s h).trans (List.sublist_append_right _ _)
end
theorem oO {r s:RT} (h:s∈subR r):(fA s).Sublist (fA r):=(FE r s h).filter _
theorem xE (r:RT):r∈subR r:=by cases r;rw [subR];simp
theorem uK:∀r:RT,(∀s∈subR r,s.kids=[]→aX s.nm.data.toList=true)→firstR r∈fA r
 | .node nm [],h=>by
  have h1:aX nm.data.toList=true:=h (.node nm []) (xE _) rfl
  rw [Ke (ux h1),firstR];simp
 | .node nm (k::ks),h=>by
  have hk:∀s∈subR k,s∈subR (.node nm (k::ks)):=fun s hs=>by rw [subR,subRs];simp [hs]
  rw [firstR]
  exact (oO (hk k (xE k))).subset (uK k fun s hs=>h s (hk s hs))
theorem Dg {k:RT}:∀ {ks:List RT},k∈ks→∀s∈subR k,s∈subRs ks
 | b::ks,h,s,hs=>by
  rw [subRs,List.mem_append]
  rcases List.mem_cons.1 h with rfl | h
  ·exact .inl hs
  ·exact .inr (Dg h s hs)
mutual
theorem mX:∀(r:RT) {s u:RT},s∈subR r→u∈subR s→u∈subR r
 | .node nm ks,s,u,h,hu=>by
  rw [subR,List.mem_cons] at h
  rcases h with rfl | h
  ·exact hu
  ·rw [subR];exact List.mem_cons_of_mem _ (yO ks h hu)
theorem yO:∀(rs:List RT) {s u:RT},s∈subRs rs→u∈subR s→u∈subRs rs
 | [],s,u,h,_=>by simp [subRs] at h
 | r::rs,s,u,h,hu=>by
  rw [subRs,List.mem_append] at h ⊢
  rcases h with h | h
  ·exact .inl (mX r h hu)
  ·exact .inr (yO rs h hu)
end
theorem PO {r:RT} (h:jR r):YY r:=by
 intro s hs;have gI:(fA s).Nodup:=(oO hs).nodup h.nd;obtain ⟨nm,ks⟩:=s;show (ks.map _).Nodup;by_cases hk:ks=[]
 ·subst hk;simp
 ·rw [uG (nm:=nm) (ks:=ks) (h.CP (.node nm ks) hs hk)] at gI
  have hmem:∀k∈ks,firstR (sortR k)∈fA k:=fun k hk=>(qd k).mem_iff.1 (uK _ fun q hq YZ=>by
   obtain ⟨x,hx,rfl⟩:=List.mem_map.1 ((kz k).mem_iff.1 hq);rw [qc] at YZ;rw [qY]
   exact h.lf x (mX r hs (by rw [subR];exact List.mem_cons_of_mem _ (Dg hk x hx))) (mR.1 YZ))
  clear hs hk
  induction ks with
  | nil=>simp
  | cons k ks ih =>
   rw [List.flatMap_cons,List.nodup_append] at gI;rw [List.map_cons,List.nodup_cons];refine ⟨fun hm=>?_,ih gI.2.1 fun q hq=>hmem q (by simp [hq])⟩;obtain ⟨q,hq,e⟩:=List.mem_map.1 hm;exact gI.2.2 _ (hmem k (by simp)) _ (List.mem_flatMap.2 ⟨q,hq,hmem q (by simp [hq])⟩) e.symm
theorem MM {t:aD} (h:aB t=0):sN t=o5 t:=by
 unfold sN;rw [FD _ (PO (Fj h)),xm h]
end
section
structure RF (r:RT):Prop where
 nd:(fA r).Nodup
 pt:∀s∈subR r,Fp s
theorem RF.good {r:RT} (h:RF r):jR r:=⟨fun s hs hk=>(h.pt s hs).1 hk,fun s hs hk=>(h.pt s hs).2.1 hk,h.nd⟩
theorem PR {a b:ByteArray} (ha:a.size=0) (hb:b.size=0):a=b:=by
 apply ByteArray.ext;apply Array.ext
 ·show a.size=b.size;omega
 ·intro i hi _;have:i<a.size:=hi;omega
end
section
section
variable {F:aU} {n:Nat} {rk:Nat→Nat}
theorem xF (h:Wf F n rk) {i z:Nat} (hi:i<n) (hs:bM F rk i z=true):aT F rk z∈subR (aT F rk i):=by
 rw [rX h hi (Nat.le_refl _)];exact List.mem_map.2 ⟨z,(dN h hi (Nat.le_refl _)).2 hs,rfl⟩
theorem AG (h:Wf F n rk):∀(d i:Nat),rk i≤d→i<n→jR (aT F rk i)→(bK F rk i).Nodup
 | d,i,hd,hi,hg=>by
  rw [bY h hi,List.nodup_cons]
  have hsub:∀k∈F.kids i,aT F rk k∈subR (aT F rk i):=fun k hk=>xF h hi (lU h hi hk (iz h (h.kid i hi k hk).1))
  have u7:∀k∈F.kids i,jR (aT F rk k):=fun k hk=>⟨fun s hs=>hg.CP s (mX _ (hsub k hk) hs),fun s hs=>hg.lf s (mX _ (hsub k hk) hs),(oO (hsub k hk)).nodup hg.nd⟩
  refine ⟨fun hm=>?_,?_⟩
  ·obtain ⟨k,hk,hm⟩:=List.mem_flatMap.1 hm
   have hkk:=h.kid i hi k hk
   have:=l9 h hkk.1 ((dN h hkk.1 (Nat.le_refl _)).1 hm)
   omega
  ·by_cases h0:F.kids i=[]
   ·rw [h0];simp
   ·have gI:=hg.nd
    rw [dD h hi,uG (by have:=hg.CP _ (xE _);rw [tE h hi,xu h hi] at this;exact this (fun e=>h0 (List.map_eq_nil_iff.1 e))),List.flatMap_map,List.nodup_iff_pairwise_ne,List.pairwise_flatMap] at gI
    rw [List.nodup_iff_pairwise_ne,List.pairwise_flatMap]
    refine ⟨fun k hk=>?_,?_⟩
    ·have hkk:=h.kid i hi k hk
     cases d with
     | zero=>omega
     | succ d=>exact AG h d k (by omega) hkk.1 (u7 k hk)
    ·refine gI.2.imp_of_mem ?_
     intro a b ha hb hab x hx y hy e
     subst e
     have hka:=h.kid i hi a ha
     have hkb:=h.kid i hi b hb
     have h1:=xF h hka.1 ((dN h hka.1 (Nat.le_refl _)).1 hx)
     have h2:=xF h hkb.1 ((dN h hkb.1 (Nat.le_refl _)).1 hy)
     have hf:=uK (aT F rk x) fun s hs=>(u7 a ha).lf s (mX _ h1 hs)
     exact hab _ ((oO h1).subset hf) _ ((oO h2).subset hf) rfl
end
end
section
section
variable {F:aU} {n:Nat} {rk:Nat→Nat}
theorem PT (h:Wf F n rk):∀ {d i:Nat} (p:Option Nat) (np:Int) (s:vC),i<n→rk i≤d→(bK F rk i).Nodup→p≠some i→s.mp.lookup p=some np→(∀j∈bK F rk i,s.mp.lookup (some j)=none) →
  DV s ((dH F rk i p).foldl (mM F) s) (psR (aT F rk i) s.ps.length np) (cF (aT F rk i)) (bK F rk i):=by
 intro d
 induction d with
 | zero =>
  intro i p np s hi hd Vw hp hl hn;have hk:F.kids i=[]:=by
   cases hk:F.kids i with
   | nil=>rfl
   | cons k l=>have:=(h.kid i hi k (by rw [hk];simp)).2;omega
  rw [fO h hi,dD h hi,bY h hi,hk];have hni:=hn i (by rw [bY h hi];simp);refine ⟨?_,?_,fun k hk2=>di _ (hk2 i (by simp))⟩
  ·show s.ps++[((kj s.mp (some i) _).lookup p).getD 0]=_
   rw [di _ hp,hl];rfl
  ·rfl
 | succ d ih =>
  intro i p np s hi hd Vw hp hl hn;rw [fO h hi,dD h hi,bY h hi];have hni:=hn i (by rw [bY h hi];simp);have gI:=Vw;rw [bY h hi,List.nodup_cons] at gI;have key:∀(l:List Nat),(∀k∈l,k∈F.kids i)→(l.flatMap fun k=>bK F rk k).Nodup→(∀k∈l,i∉bK F rk k)→∀(s2:vC) (own:Nat),s2.mp.lookup (some i)=some (own:Int)→(∀k∈l,∀j∈bK F rk k,s2.mp.lookup (some j)=none) →
    DV s2 ((l.flatMap fun k=>dH F rk k (some i)).foldl (mM F) s2) (psRs (l.map (aT F rk)) own s2.ps.length) (cN (l.map (aT F rk))) (l.flatMap fun k=>bK F rk k):=by
   intro l
   induction l with
   | nil=>intro _ _ _ s2 own _ _;exact ⟨by simp [psRs],by simp [cN],fun _ _=>rfl⟩
   | cons c l ihl =>
    intro hin hdl hil s2 own ho hno
    have hcc:=h.kid i hi c (hin c (by simp))
    rw [List.flatMap_cons,List.foldl_append,List.flatMap_cons]
    rw [List.flatMap_cons,List.nodup_append] at hdl
    have h1:=ih (some i) (own:Int) s2 hcc.1 (by omega) hdl.1 (fun e=>by
     injection e with e
     have:=hcc.2;rw [e] at this;omega) ho (hno c (by simp))
    have h2:=ihl (fun k hk=>hin k (by simp [hk])) hdl.2.1 (fun k hk=>hil k (by simp [hk])) ((dH F rk c (some i)).foldl (mM F) s2) own
     ((h1.old (some i) (fun j hj e=>by injection e with e;subst e;exact hil c (by simp) hj)).trans ho)
     (fun k hk j hj=>(h1.old (some j) (fun j2 hj2 e=>by
      injection e with e;subst e
      exact hdl.2.2 j hj2 j (List.mem_flatMap.2 ⟨k,hk,hj⟩) rfl)).trans (hno k (by simp [hk]) j hj))
    refine ⟨?_,?_,fun k hk=>?_⟩
    ·rw [h2.ps,h1.ps,List.map_cons,psRs,List.append_assoc,List.length_append,kO]
    ·rw [h2.ns,h1.ns,List.map_cons,cN,List.append_assoc]
    ·rw [h2.old k (fun j hj=>hk j (by simp [hj])),h1.old k (fun j hj=>hk j (by simp [hj]))]
  have hin:∀k∈F.kids i,i∉bK F rk k:=fun k hk hm=>gI.1 (List.mem_flatMap.2 ⟨k,hk,hm⟩)
  have h3:=key (F.kids i) (fun k hk=>hk) gI.2 hin (mM F s (i,p)) s.ps.length (rW _ hni) (fun k hk j hj=>by
   show (kj s.mp (some i) _).lookup (some j)=none;rw [di _ (fun e=>by injection e with e;subst e;exact hin k hk hj)]
   exact hn j (by rw [bY h hi];exact List.mem_cons_of_mem _ (List.mem_flatMap.2 ⟨k,hk,hj⟩)))
  have hps:(mM F s (i,p)).ps=s.ps++[np]:=by show s.ps++[((kj s.mp (some i) _).lookup p).getD 0]=_;rw [di _ hp,hl];rfl
  rw [List.foldl_cons];refine ⟨?_,?_,fun k hk=>?_⟩
  ·rw [h3.ps,hps,psR,List.append_assoc,List.length_append];rfl
  ·rw [h3.ns]
   show (s.ns++[F.nm i])++_=_;rw [cF,List.append_assoc];rfl
  ·rw [h3.old k (fun j hj=>hk j (by simp [hj]))]
   exact di _ (hk i (by simp))
theorem Hr (h:Wf F n rk) {i:Nat} (hi:i<n) (gI:(bK F rk i).Nodup):fu F rk i=flat (aT F rk i):=by
 have h1:=PT h (d:=rk i) none (-1) BA hi (Nat.le_refl _) gI (fun e=>by cases e) rfl (fun j _=>rfl);unfold fu flat ct;rw [h1.ps,h1.ns];rfl
end
end
end Go.Proofs.YthgabkgmkolobaaGreat
