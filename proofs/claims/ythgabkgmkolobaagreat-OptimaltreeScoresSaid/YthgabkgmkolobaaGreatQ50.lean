/- slices.EqualFunc at trees, optimaltree.Check. Reference 34: Best, Check, GreatTrees. -/
import Derived.Test.YthgabkgmkolobaaGreatQ49
set_option maxRecDepth 100000
namespace Go.Proofs.YthgabkgmkolobaaGreat
section
open Go.RowKit Go.Deep
set_option maxHeartbeats 2000000 in
theorem GX (S T:Nat→Prop) (w:World) (v u:Value) (xs ys:List aD) (h:b7 S w v xs) (h2:b7 T w u ys) (hn:xs.length≤63) (hr:∀k,(gt xs k).ps.length≤1000000∧(gt xs k).ns.length≤1000000) (hr2:∀k,(gt ys k).ps.length≤1000000∧(gt ys k).ns.length≤1000000) :
  Calls Tryz.prog 106 #[v,u,.func (.func 107) #[] #[]] w fun e w'=>e=.returned (.bool (decide (xs=ys)))∧Up w w':=by
 obtain ⟨p,cap,rfl,hcap⟩:=cU h;obtain ⟨q,cr,rfl,mD⟩:=cU h2;have HX:=aa h;have HY:=aa h2;have HR:=aa hr;have wR:=aa hr2;clear h h2 hr hr2;by_cases hl:xs.length=ys.length
 ·have eU:((xs.length:Int) != ys.length)=false:=by simp [hl]
  have HL:=aa hl;have vU:Hid ((xs=ys)↔∀k,k<xs.length→gt xs k=gt ys k):=Ba hl;clear hl
  go_enter Tryz.func106,Tryz.ntmps106
  go_wp2_with fail
  go_loopw [7,8,9,17] (fun _ _ _ i wr=>∃k:Nat,k≤xs.length∧i=.int .i64 k∧Hid (Up w wr)∧Hid (∀j,j<k→gt xs j=gt ys j)) (fun _ _ _ i _=>xs.length - (intOf i).toNat)
  case atStart=>exact ⟨0,Nat.zero_le _,rfl,Up.refl _,fun j hj=>absurd hj (Nat.not_lt_zero _)⟩
  case round =>
   obtain ⟨k,hk,rfl,hQ,hd⟩:=hrel;obtain ⟨wo,rfl⟩:∃wo:World,wo=wr:=⟨_,rfl⟩;by_cases hlt:k<xs.length
   ·have hlt2:k<ys.length:=by rw [← HL.out];exact hlt
    obtain ⟨b,off,pp,pc,np,nc,rfl,c0,c1,hT⟩:=kE (HX.out.keep (hQ.out.kept S)) hlt;obtain ⟨b2,off2,oD,oF,oG,oH,rfl,d0,d1,Jt⟩:=kE (HY.out.keep (hQ.out.kept T)) hlt2;have aW:=aa hlt;have aY:=(Up.alloc wo (.cells #[.slice pp (gt xs k).ps.length pc,.slice np (gt xs k).ns.length nc] 39)).trans (Up.alloc _ (.cells #[.slice oD (gt ys k).ps.length oF,.slice oG (gt ys k).ns.length oH] 39));have HS:=aa (QC S T _ _ _ _ _ (hT.keep (aY.kept _)) (Jt.keep (aY.kept _)) (HR.out k).1 (HR.out k).2 (wR.out k).1 (wR.out k).2);have vz:=aa (hQ.out.trans aY)
    have aO:=Up.alloc wo (.cells #[.slice pp (gt xs k).ps.length pc,.slice np (gt xs k).ns.length nc] 39);have d2:=aO.cell d0;have d3:=aO.cell d1;(have vv:Hid (gt xs k=gt ys k→∀j,j<k+1→gt xs j=gt ys j):=fun e j hj=>if ej:j=k then by subst ej;exact e else hd.out j (by omega));have qT:Hid (gt xs k≠gt ys k→decide (xs=ys)=false):=fun hne=>decide_eq_false fun e=>hne (by rw [e]);(have k0:(0:Int)≤(k:Int):=by omega);(have k1:(k:Int)<(xs.length:Int):=by omega);(have k2:(k:Int)<(ys.length:Int):=by omega);(have k3:(k:Int)<64:=by omega);clear hT Jt aY hQ hd hlt aO;generalize gt xs k=x at *
    generalize gt ys k=y at *;by_cases hxy:x=y
    ·have hb:decide (x=y)=true:=decide_eq_true hxy
     rw [hb] at HS;have qH:=aa (vv.out hxy);clear hxy hb qT vv;go_wp2_with fail;refine HS.out.mono ?_;rintro e w' ⟨rfl,hu⟩;have xD:=aa (vz.out.trans hu);clear hu;go_wp2_with fail
     go_roundw
     case rel=>exact ⟨k+1,aW.out,by go_num,xD.out,qH.out⟩
     case measure=>have:=aW.out;simp [intOf];omega
    ·have hb:decide (x=y)=false:=decide_eq_false hxy
     rw [hb] at HS;have qH:=aa (qT.out hxy);clear hxy hb qT vv;go_wp2_with fail;refine HS.out.mono ?_;rintro e w' ⟨rfl,hu⟩;have xD:=aa (vz.out.trans hu);clear hu;go_wp2_with fail;go_ret;exact ⟨aR qH.out.symm,xD.out⟩
   ·obtain rfl:k=xs.length:=by omega
    have Ez:Hid (decide (xs=ys)=true):=decide_eq_true (vU.out.2 hd.out);clear hlt hk hd;go_wp2_with fail;go_ret;exact ⟨aR (by rw [Ez.out]),hQ.out⟩
 ·have eU:((xs.length:Int) != ys.length)=true:=by simp;omega
  have HL:Hid (decide (xs=ys)=false):=decide_eq_false fun e=>hl (by rw [e]);clear hl
  go_enter Tryz.func106,Tryz.ntmps106
  go_wp2_with fail;go_ret;exact ⟨aR HL.out.symm,Up.refl _⟩
def kJ (names:List ByteArray) (states:List (List Int)) (ts:List aD) (sc:Int):Int:=if aZ names states≠0 then aZ names states else if kQ names states=sc∧fW names states=ts then 0 else 18
theorem sR {names:List ByteArray} {states:List (List Int)} (h5:names.length≤5∨7<names.length):(fW names states).length≤63∧∀k,(gt (fW names states) k).ps.length≤1000000∧(gt (fW names states) k).ns.length≤1000000:=by
 unfold fW;split
 ·rename_i h0
  have hc:=nh h5 h0;have aY:(allT names).length≤15:=by unfold allT;rw [List.length_map,uN hc.nm];split<;>(try split)<;>(try split)<;>omega
  refine ⟨Nat.le_trans (List.length_filter_le _ _) (by omega),GV fun t ht=>?_⟩;have ht2:=(List.mem_filter.1 ht).1;obtain ⟨ho,_⟩:=yc hc.nm ht2;obtain ⟨_,h64,hl,_,_⟩:=aJ ho.te;omega
 ·exact ⟨Nat.zero_le _,GV fun t h=>by cases h⟩
set_option maxHeartbeats 2000000 in
theorem Tu (S:Nat→Prop) (w:World) (v vs vt:Value) (names:List ByteArray) (states:List (List Int)) (ts:List aD) (sc:Int) (h:ah S w v names) (hn:names.length≤1000000) (hz:∀k,(gs names k).size≤70000) (hS:aQ S w vs states) (jA:states.length≤1000000) (hr:∀k,(gl states k).length≤1000000) (h5:names.length≤5∨7<names.length)
  (hT:b7 Any w vt ts) (htr:∀k,(gt ts k).ps.length≤1000000∧(gt ts k).ns.length≤1000000) :
  Calls Tryz.prog 45 #[v,vs,vt,.int .i64 sc] w fun e w'=>e=.returned (.int .i64 (kJ names states ts sc))∧Up w w':=by
 have sk:=aa (zN S w v vs names states h hn hz hS jA hr h5);have vU:=aa (sR (states:=states) h5);have HC:Hid (kJ names states ts sc=if aZ names states≠0 then aZ names states else if kQ names states=sc∧fW names states=ts then 0 else 18):=rfl;obtain ⟨tp,tc,rfl,-⟩:=cU hT;obtain ⟨mp,mc,rfl,-,-⟩:=aC.open h;obtain ⟨sp,sc',rfl,-,-⟩:=bS hS;have HT:=aa hT;have Ao:=aa htr;clear h hS hz hr h5 hT htr
 go_enter Tryz.func45,Tryz.ntmps45
 go_wp2_with fail;refine sk.out.mono ?_;rintro e w2 ⟨aG,v2,rfl,ht2⟩;obtain ⟨p2,c2,rfl,-⟩:=cU ht2;have aP:=aa aG;have rJ:=aa (GX Any Any w2 _ _ (fW names states) ts ht2 (HT.out.keep (aG.kept _)) vU.out.1 vU.out.2 Ao.out);clear aG ht2 sk vU;generalize aZ names states=ce at *;generalize kQ names states=bn at *;generalize fW names states=bl at *;by_cases c1:ce=0
 ·subst c1
  have iK:Hid (kJ names states ts sc=if bn=sc∧bl=ts then 0 else 18):=by unfold Hid;rw [HC.out,if_neg (by simp)]
  by_cases Bf:bn=sc
  ·subst Bf
   (have d1:(bn != bn)=false:=by simp);by_cases c3:bl=ts
   ·have d2:decide (bl=ts)=true:=decide_eq_true c3
    rw [d2] at rJ;(have HF:Hid (kJ names states ts bn=0):=by unfold Hid;rw [iK.out,if_pos ⟨rfl,c3⟩]);clear c3 d2 HC iK;go_wp2_with fail;refine rJ.out.mono ?_;rintro e w3 ⟨rfl,bz⟩;have bW:=aa (aP.out.trans bz);clear bz;go_wp2_with fail;go_ret;exact ⟨aH HF.out.symm,bW.out⟩
   ·have d2:decide (bl=ts)=false:=decide_eq_false c3
    rw [d2] at rJ;(have HF:Hid (kJ names states ts bn=18):=by unfold Hid;rw [iK.out,if_neg fun e=>c3 e.2]);clear c3 d2 HC iK;go_wp2_with fail;refine rJ.out.mono ?_;rintro e w3 ⟨rfl,bz⟩;have bW:=aa (aP.out.trans bz);clear bz;go_wp2_with fail;go_ret;exact ⟨aH HF.out.symm,bW.out⟩
  ·have d1:(bn != sc)=true:=by simp [Bf]
   (have HF:Hid (kJ names states ts sc=18):=by unfold Hid;rw [iK.out,if_neg fun e=>Bf e.1]);clear Bf HC iK rJ;go_wp2_with fail;go_ret;exact ⟨aH HF.out.symm,aP.out⟩
 ·have HF:Hid (kJ names states ts sc=ce):=by unfold Hid;rw [HC.out,if_pos c1]
  have d1:(ce != 0)=true:=by simp [c1]
  clear HC rJ c1;go_wp2_with fail;go_ret;exact ⟨aH HF.out.symm,aP.out⟩
end
section
open Go.RowKit Go.Deep
theorem NW {names:List ByteArray} (hn:gY names):0<(allT names).length∧(allT names).length≤15:=by
 have h1:=hn.lo;have h2:=hn.hi;unfold allT;rw [List.length_map,uN hn];split<;>(try split)<;>(try split)<;>omega
def nD (names:List ByteArray) (states:List (List Int)) (n:Nat):List aD:=((allT names).take n).filter fun t=>decide (bZ t names states=eX names states n)
def vV (names:List ByteArray) (states:List (List Int)) (n:Nat):Int:=if n=0 then 0 else eX names states n
theorem GY {names:List ByteArray} {states:List (List Int)} (hc:mZ names states):∀ {n:Nat},n≤(allT names).length→(0<n→0≤eX names states n)∧∀j,j<n→eX names states n≤fH names states j
 | 0,_=>⟨fun h=>absurd h (Nat.lt_irrefl _),fun j h=>absurd h (Nat.not_lt_zero _)⟩
 | n+1,h=>by
  obtain ⟨h1,h2⟩:=GY hc (n:=n) (by omega)
  have h3:=(Bb hc (n:=n) h).1
  have h4:=(Bc hc (n:=n) (by omega)).1
  rw [uW]
  refine ⟨fun _=>?_,fun j hj=>?_⟩
  ·split<;>omega
  ·by_cases e:j=n
   ·subst e
    split<;>omega
   ·have h5:=h2 j (by omega)
    have h6:=h1 (by omega)
    split<;>omega
theorem Tv {names:List ByteArray} {n:Nat} {t:aD} (h:t∈(allT names).take n) (hn:n≤(allT names).length):∃j,j<n∧t=gt (allT names) j:=by
 obtain ⟨j,hj,rfl⟩:=List.getElem_of_mem h;rw [List.length_take] at hj;refine ⟨j,by omega,?_⟩;simp [gt,show j<(allT names).length by omega]
theorem Tw {names:List ByteArray} {states:List (List Int)} (hc:mZ names states) {n:Nat} (h:n<(allT names).length) (h0:n=0∨fH names states n<eX names states n):eX names states (n+1)=fH names states n∧nD names states (n+1)=[gt (allT names) n]:=by
 have h1:eX names states (n+1)=fH names states n:=by
  rw [uW];rcases h0 with rfl | h0
  ·rw [if_pos (.inl (show (-1:Int)<0 by decide))]
  ·rw [if_pos (.inr h0)]
 refine ⟨h1,?_⟩;unfold nD;rw [h1,yg h,List.filter_append];have h2:((allT names).take n).filter (fun t=>decide (bZ t names states=fH names states n))=[]:=by
  rw [List.filter_eq_nil_iff];intro t ht e;obtain ⟨j,hj,rfl⟩:=Tv ht (by omega);have e:fH names states j=fH names states n:=of_decide_eq_true e;have h3:=(GY hc (n:=n) (by omega)).2 j hj;rcases h0 with h0 | h0
  ·omega
  ·omega
 rw [h2];have:bZ (gt (allT names) n) names states=fH names states n:=rfl;simp [this]
theorem QH {names:List ByteArray} {states:List (List Int)} (hc:mZ names states) {n:Nat} (h:n<(allT names).length) (h0:n≠0) (h1:¬fH names states n<eX names states n):eX names states (n+1)=eX names states n∧nD names states (n+1)=nD names states n++if fH names states n=eX names states n then [gt (allT names) n] else []:=by
 have hp:=(GY hc (n:=n) (by omega)).1 (by omega);have h2:eX names states (n+1)=eX names states n:=by rw [uW,if_neg (by omega)]
 refine ⟨h2,?_⟩;unfold nD;rw [h2,yg h,List.filter_append];congr 1;have e0:bZ (gt (allT names) n) names states=fH names states n:=rfl;by_cases e:fH names states n=eX names states n
 ·rw [if_pos e];simp [e0,e]
 ·rw [if_neg e];simp [e0,e]
def BrI (w2:World) (names:List ByteArray) (states:List (List Int)) (n:Nat) (out:Value) (wr:World):Prop:=Up w2 wr∧∃es:List kF,gN w2.heap.size wr out es∧es.map (·.2)=nD names states n
set_option maxHeartbeats 4000000 in
theorem DD (S:Nat→Prop) (w:World) (v vs:Value) (names:List ByteArray) (states:List (List Int)) (h:ah S w v names) (hn:names.length≤1000000) (hz:∀k,(gs names k).size≤70000) (hS:aQ S w vs states) (jA:states.length≤1000000) (hr:∀k,(gl states k).length≤1000000) (h5:names.length≤5∨7<names.length) :
  Calls Tryz.prog 43 #[v,vs] w (jy w names states):=by
 have dr:=aa (A6 S w v vs names states h hn hz hS jA hr);obtain ⟨mp,mc,rfl,-,-⟩:=aC.open h;have h:ah S w (.slice mp names.length mc) names:=h;obtain ⟨sp,sc,rfl,-,-⟩:=bS hS;have HN:=aa h;have HS:=aa hS;have pI:Hid (aZ names states=0→mZ names states):=nh h5;clear h hS hz hr h5
 go_enter Tryz.func43,Tryz.ntmps43
 go_wp2_with fail;refine dr.out.mono ?_;rintro e w1 ⟨rfl,aO⟩;by_cases c1:aZ names states=0
 ·have hc:=pI.out c1
  have ri:=aa (QE S w1 _ names hc.nm (ah.keep HN.out (aO.kept S)));have HC:=aa hc;have dF:Hid (∀W v,Up w W→b7 Any W v (ox names states)→jy w names states (.returned (.tuple #[v,.int .i64 (gL names states),.int .i64 0])) W):=fun W v hu ht=>⟨hu,v,by unfold kQ;rw [c1];rfl,by unfold fW;rw [if_pos c1];exact ht⟩;have HL:=aa (NW hc.nm);have bH:=aa aO;rw [c1];clear c1 hc aO dr pI;go_wp2_with fail;refine ri.out.mono ?_;rintro e w2 ⟨aG,av,rfl,hat⟩;obtain ⟨ap,ac,rfl,-⟩:=cU hat;have aP:=aa (bH.out.trans aG)
  have HA:=aa hat;have jP:=aa (ah.keep HN.out (aP.out.kept S));have dP:=aa (aQ.keep HS.out (aP.out.kept S));have tW:Hid (BrI w2 names states 0 (.slice (some ⟨w2.heap.size,0,none⟩) 0 0) (w2.alloc (.cells #[] 39))) :=
   ⟨Up.alloc _ _,[],⟨World.ownsRow_made w2 #[] 0 (Nat.le_refl _) (by unfold maxLen;omega) (by simp),fun _ h=>by cases h⟩,by simp [nD]⟩
  clear aG hat ri bH;go_wp2_with fail
  go_loopw [9,10,11,12] (fun b o i _ wr=>∃n:Nat,n≤(allT names).length∧i=.int .i64 n∧b=.int .i64 (vV names states n)∧Hid (BrI w2 names states n o wr)) (fun _ _ i _ _=>(allT names).length - (intOf i).toNat)
  case atStart=>exact ⟨0,Nat.zero_le _,rfl,rfl,tW.out⟩
  case round =>
   obtain ⟨n,hn,rfl,rfl,hI⟩:=hrel;obtain ⟨wo,rfl⟩:∃wo:World,wo=wr:=⟨_,rfl⟩;obtain ⟨fR,es,hes,hem⟩:=hI.out;by_cases hlt:n<(allT names).length
   ·obtain ⟨tb,toff,pp,pc,np,nc,rfl,c0,c1,hT⟩:=kE HA.out hlt
    have ho:=(yc HC.out.nm (AX hlt)).1;have hbd:=Bb HC.out hlt;have hmb:=Bc HC.out hn;have KR:Hid (n=0∨fH names states n<eX names states n→eX names states (n+1)=fH names states n∧nD names states (n+1)=[gt (allT names) n]):=Tw HC.out hlt;have DY:Hid (n≠0→¬fH names states n<eX names states n→eX names states (n+1)=eX names states n∧nD names states (n+1)=nD names states n++if fH names states n=eX names states n then [gt (allT names) n] else []):=QH HC.out hlt
    have mI:=aa (Bd Any wo (.agg #[.slice pp (gt (allT names) n).ps.length pc,.slice np (gt (allT names) n).ns.length nc]) (.slice mp names.length mc) (.slice sp states.length sc) (gt (allT names) n) names states (hT.keep (fR.kept _)) ho (Ju HC.out.nm (k:=n) (by have h:=hlt;unfold allT at h;rwa [List.length_map] at h)).2.2 ((ah.keep jP.out (fR.kept S)).sub fun _ _ _=>trivial) ((aQ.keep dP.out (fR.kept S)).sub fun _ _ _=>trivial) HC.out)
    have HT:Hid (au (fun b=>b<w2.heap.size) w2 (.agg #[.slice pp (gt (allT names) n).ps.length pc,.slice np (gt (allT names) n).ns.length nc]) (gt (allT names) n)):=hT.sub fun b _ hb=>hb;have e0:bZ (gt (allT names) n) names states=fH names states n:=rfl;rw [e0] at mI;have HC01:=aa (And.intro c0 c1);replace c0:=fR.cell c0;replace c1:=fR.cell c1;have GC:Hid (vV names states (n+1)=eX names states (n+1)):=rfl;have Xf:Hid (n≠0→vV names states n=eX names states n):=fun h=>by unfold vV;rw [if_neg h]
    (have hbb:-1≤vV names states n∧vV names states n≤409600000:=by unfold vV;split<;>omega);have sj:=aa fR;have pV:=aa hes;have A9:=aa hem;have aW:=aa hlt;(have i3:(0:Int)≤(n:Int):=by omega);(have i4:(n:Int)<((allT names).length:Int):=by omega);(have i5:(n:Int)<16:=by have:=HL.out.2;omega);clear hI fR hes hem hlt hT ho e0;generalize gt (allT names) n=q at *;generalize fH names states n=f at *;generalize CS:vV names states n=b at *;have HBQ:=aa CS;clear CS;generalize eX names states n=m at *;obtain ⟨op,oc,rfl⟩:=pV.out.form;go_wp2_with fail
    refine mI.out.mono ?_;rintro e w3 ⟨rfl,bz⟩;replace c0:=bz.cell c0;replace c1:=bz.cell c1;have bW:=aa (sj.out.trans bz);have QI:=aa (pV.out.up bz);(have hel:es.length≤n:=by have h:=congrArg List.length A9.out;rw [List.length_map] at h;rw [h];unfold nD;exact Nat.le_trans (List.length_filter_le _ _) (by rw [List.length_take];omega));(have HEL:Hid (es.length≤1000000):=by have:=HL.out.2;unfold Hid;omega);clear hel bz mI pV;by_cases hnew:n=0∨f<m
    ·obtain ⟨g1,g2⟩:=KR.out hnew
     (have cR:Hid (vV names states (n+1)=f):=by unfold Hid;rw [GC.out,g1]);have yF:Hid (nD names states (n+1)=[q]):=g2;have HOW:Hid (gN w2.heap.size (w3.alloc (.cells #[] 39)) (.slice (some ⟨w3.heap.size,0,none⟩) 0 0) []):=⟨World.ownsRow_made w3 #[] 0 bW.out.size (by unfold maxLen;omega) (by simp),fun _ h=>by cases h⟩;have aY:=Up.alloc w3 (.cells #[] 39);have vz:=aa (bW.out.trans aY)
     (have yV:Hid (au (fun b=>some b≠(Value.slice (some ⟨w3.heap.size,0,none⟩) 0 0).ownBlock) (w3.alloc (.cells #[] 39)) (.agg #[.slice pp q.ps.length pc,.slice np q.ns.length nc]) q):=(HT.out.keep (vz.out.kept _)).sub fun b hb _ e=>by (have e:b=w3.heap.size:=by simp only [Value.ownBlock,Option.some.injEq] at e;exact e);have:=bW.out.size;have hb:b<w2.heap.size:=hb;omega);have V6:=aY.cell c0;have hd1:=aY.cell c1;(have d9:(f==f)=true:=by simp);clear aY g1 g2 KR DY;by_cases h0:n=0
     ·have d1:((n:Int)==0)=true:=by simp [h0]
      clear hnew h0;go_wp2_with (at_builtin;refine kH _ rfl _ _ 33 rfl w2.heap.size _ 48 Tryz.underlying33 Tryz.infoTree rfl (by decide) HOW.out rfl ((.slice pp q.ps.length pc,.slice np q.ns.length nc),q) (by rw [World.size_alloc];rfl) yV.out 0 rfl (by omega) vz.out.size ?_;intro g8 gZ w8 bJ cD kD;have tY:=aa bJ;have gT:=aa kD;clear bJ cD kD)
      go_roundw
      case rel=>exact ⟨n+1,aW.out,by go_num,by rw [cR.out],Below.trans (show Below w2.heap.size w2 _ from vz.out) gT.out,_,tY.out,by rw [yF.out];rfl⟩
      case measure=>have:=aW.out;simp [intOf];omega
     ·have d1:((n:Int)==0)=false:=beq_eq_false_iff_ne.2 (by omega)
      have Cn:f<b:=by
       have:=Xf.out h0;rcases hnew with h | h
       ·exact absurd h h0
       ·omega
      have d2:decide (f<b)=true:=decide_eq_true Cn;clear hnew h0;go_wp2_with (at_builtin;refine kH _ rfl _ _ 33 rfl w2.heap.size _ 48 Tryz.underlying33 Tryz.infoTree rfl (by decide) HOW.out rfl ((.slice pp q.ps.length pc,.slice np q.ns.length nc),q) (by rw [World.size_alloc];rfl) yV.out 0 rfl (by omega) vz.out.size ?_;intro g8 gZ w8 bJ cD kD;have tY:=aa bJ;have gT:=aa kD;clear bJ cD kD)
      go_roundw
      case rel=>exact ⟨n+1,aW.out,by go_num,by rw [cR.out],Below.trans (show Below w2.heap.size w2 _ from vz.out) gT.out,_,tY.out,by rw [yF.out];rfl⟩
      case measure=>have:=aW.out;simp [intOf];omega
    ·have h0:n≠0:=fun h=>hnew (.inl h)
     have Cn:¬f<m:=fun h=>hnew (.inr h);obtain ⟨g1,g2⟩:=DY.out h0 (by omega);have hbm:b=m:=Xf.out h0;subst hbm;(have cR:Hid (vV names states (n+1)=b):=by unfold Hid;rw [GC.out,g1]);have d1:((n:Int)==0)=false:=beq_eq_false_iff_ne.2 (by omega);have d2:decide (f<b)=false:=decide_eq_false Cn;by_cases yI:f=b
     ·subst yI
      (have yF:Hid (nD names states (n+1)=nD names states n++[q]):=by unfold Hid;rw [g2,if_pos rfl]);(have d9:(f==f)=true:=by simp);(have yV:Hid (au (fun b=>some b≠(Value.slice op es.length oc).ownBlock) w3 (.agg #[.slice pp q.ps.length pc,.slice np q.ns.length nc]) q):=(HT.out.keep (bW.out.kept _)).sub fun b hb _ e=>by have h2:=(World.ownsRow.lt QI.out.1 b e.symm).1;have hb:b<w2.heap.size:=hb;omega);clear hnew h0 Cn g1 g2 KR DY
      go_wp2_with (at_builtin;refine kH _ rfl _ _ 33 rfl w2.heap.size _ 48 Tryz.underlying33 Tryz.infoTree rfl (by decide) QI.out rfl ((.slice pp q.ps.length pc,.slice np q.ns.length nc),q) rfl yV.out es.length rfl HEL.out bW.out.size ?_;intro g8 gZ w8 bJ cD kD;have tY:=aa bJ;have gT:=aa kD;clear bJ cD kD)
      go_roundw
      case rel=>exact ⟨n+1,aW.out,by go_num,by rw [cR.out],Below.trans (show Below w2.heap.size w2 _ from bW.out) gT.out,_,tY.out,by rw [yF.out,List.map_append,A9.out];rfl⟩
      case measure=>have:=aW.out;simp [intOf];omega
     ·have yF:Hid (nD names states (n+1)=nD names states n):=by unfold Hid;rw [g2,if_neg yI,List.append_nil]
      (have d9:(f==b)=false:=by simp [yI]);clear hnew h0 Cn g1 g2 KR DY yI;go_wp2_with fail
      go_roundw
      case rel=>exact ⟨n+1,aW.out,by go_num,by rw [cR.out],bW.out,_,QI.out,by rw [yF.out,A9.out]⟩
      case measure=>have:=aW.out;simp [intOf];omega
   ·obtain rfl:n=(allT names).length:=by omega
    (have hne:(allT names).length≠0:=by have:=HL.out.1;omega);(have R8:vV names states (allT names).length=gL names states:=by unfold vV;rw [if_neg hne];rfl);(have W5:nD names states (allT names).length=ox names states:=by unfold nD ox;rw [List.take_length];rfl);rw [R8];obtain ⟨op,oc,rfl⟩:=hes.form;have si:=aa (dF.out wo _ (aP.out.trans fR) (by rw [← W5,← hem];exact hes.trees));clear hI fR hes hem hlt hne R8 W5 dF;go_wp2_with fail;exact ⟨rfl,.tuple #[.slice op es.length oc,.int .i64 (gL names states),.int .i64 0],by simp [results,Tryz.results43,go_sem],si.out⟩
 ·have dF:Hid (jy w names states (.returned (.tuple #[.slice none 0 0,.int .i64 0,.int .i64 (aZ names states)])) w1):=by
   refine ⟨aO,.slice none 0 0,?_,?_⟩
   ·unfold kQ;rw [if_neg c1]
   ·unfold fW;rw [if_neg c1];exact b7.nil _ _
  generalize aZ names states=a at *
  clear aO dr
  go_wp2_with fail
  exact ⟨rfl,.tuple #[.slice none 0 0,.int .i64 0,.int .i64 a],by simp [results,Tryz.results43,go_sem],dF.out⟩
end
end Go.Proofs.YthgabkgmkolobaaGreat
