/- Reference 34: Check, GreatTrees; the law's great. The laws OptimaltreeConsensus, .. -/
import Derived.Test.YthgabkgmkolobaaGreatQ50
set_option maxRecDepth 100000
namespace Go.Proofs.YthgabkgmkolobaaGreat
section
open Go.RowKit Go.Deep
set_option maxHeartbeats 2000000 in
theorem QJ (S:Nat→Prop) (w:World) (v vs vt:Value) (names:List ByteArray) (states:List (List Int)) (ts:List aD) (sc:Int) (h:ah S w v names) (hn:names.length≤1000000) (hz:∀k,(gs names k).size≤70000) (hS:aQ S w vs states) (jA:states.length≤1000000) (hr:∀k,(gl states k).length≤1000000) (h5:names.length≤5∨7<names.length)
  (hT:b7 Any w vt ts) (htr:∀k,(gt ts k).ps.length≤1000000∧(gt ts k).ns.length≤1000000) :
  Calls Tryz.prog 46 #[v,vs,vt,.int .i64 sc] w fun e w'=>e=.returned (.int .i64 (kJ names states ts sc))∧Up w w':=by
 have sk:=aa (DD S w v vs names states h hn hz hS jA hr h5);have vU:=aa (sR (states:=states) h5);have HC:Hid (kJ names states ts sc=if aZ names states≠0 then aZ names states else if kQ names states=sc∧fW names states=ts then 0 else 18):=rfl;obtain ⟨tp,tc,rfl,-⟩:=cU hT;obtain ⟨mp,mc,rfl,-,-⟩:=aC.open h;obtain ⟨sp,sc',rfl,-,-⟩:=bS hS;have HT:=aa hT;have Ao:=aa htr;clear h hS hz hr h5 hT htr
 go_enter Tryz.func46,Tryz.ntmps46
 go_wp2_with fail;refine sk.out.mono ?_;rintro e w2 ⟨aG,v2,rfl,ht2⟩;obtain ⟨p2,c2,rfl,-⟩:=cU ht2;have aP:=aa aG;have rJ:=aa (o9 Any Any w2 _ _ (fW names states) ts ht2 (HT.out.keep (aG.kept _)) (Nat.le_trans vU.out.1 (by decide)) vU.out.2);clear aG ht2 sk vU;generalize aZ names states=ce at *;generalize kQ names states=bn at *;generalize fW names states=bl at *;by_cases c1:ce=0
 ·subst c1
  have iK:Hid (kJ names states ts sc=if bn=sc∧bl=ts then 0 else 18):=by unfold Hid;rw [HC.out,if_neg (by simp)]
  by_cases Bf:bn=sc
  ·subst Bf
   (have d1:(bn != bn)=false:=by simp);by_cases c3:bl=ts
   ·have d2:decide (bl=ts)=true:=decide_eq_true c3
    rw [d2] at rJ;(have HF:Hid (kJ names states ts bn=0):=by unfold Hid;rw [iK.out,if_pos ⟨rfl,c3⟩]);clear c3 d2 HC iK;go_wp2_with fail;refine rJ.out.mono ?_;rintro e w3 ⟨rfl,bz⟩;have bW:=aa (aP.out.trans bz);clear bz;go_wp2_with fail;go_ret;exact ⟨aH HF.out.symm,bW.out⟩
   ·have d2:decide (bl=ts)=false:=decide_eq_false c3
    rw [d2] at rJ;(have HF:Hid (kJ names states ts bn=18):=by unfold Hid;rw [iK.out,if_neg fun e=>c3 e.2]);clear c3 d2 HC iK;go_wp2_with fail;refine rJ.out.mono ?_;rintro e w3 ⟨rfl,bz⟩;have bW:=aa (aP.out.trans bz);clear bz;go_wp2_with fail;go_ret;exact ⟨aH HF.out.symm,bW.out⟩
  ·have d1:(bn != sc)=true:=by simp [Bf]
   (have HF:Hid (kJ names states ts sc=18):=by unfold Hid;rw [iK.out,if_neg fun e=>Bf e.1]);clear Bf HC iK rJ;go_wp2_with fail;go_ret;exact ⟨aH HF.out.symm,aP.out⟩
 ·have HF:Hid (kJ names states ts sc=ce):=by unfold Hid;rw [HC.out,if_pos c1]
  have d1:(ce != 0)=true:=by simp [c1]
  clear HC rJ c1;go_wp2_with fail;go_ret;exact ⟨aH HF.out.symm,aP.out⟩

def uX (ts:List aD):Bool:=((List.range ts.length).any fun k=>mW (gt ts k) 16) || decide (16<ts.length)
set_option maxHeartbeats 2000000 in
theorem B1 (S:Nat→Prop) (w:World) (v:Value) (ts:List aD) (h:b7 S w v ts) (hz:KP ts) :
  Calls Tryz.prog 101 #[v] w fun e w'=>e=.returned (.bool (uX ts))∧Up w w':=by
 obtain ⟨p,cap,rfl,-⟩:=cU h;have HX:=aa h;have HZ:=aa hz;have HG:Hid (uX ts=(((List.range ts.length).any fun k=>mW (gt ts k) 16) || decide (16<ts.length))):=rfl;have hl:=hz.1;clear h hz
 go_enter Tryz.func101,Tryz.ntmps101
 go_wp2_with fail
 go_loopw [3] (fun i wr=>∃k:Nat,k≤ts.length∧i=.int .i64 k∧Hid (Up w wr)∧Hid (∀j,j<k→mW (gt ts j) 16=false)) (fun i _=>ts.length - (intOf i).toNat)
 case atStart=>exact ⟨0,Nat.zero_le _,rfl,Up.refl _,fun j hj=>absurd hj (Nat.not_lt_zero _)⟩
 case round =>
  obtain ⟨k,hk,rfl,hU,hd⟩:=hrel;obtain ⟨wo,rfl⟩:∃wo:World,wo=wr:=⟨_,rfl⟩;by_cases hlt:k<ts.length
  ·obtain ⟨b,off,pp,pc,np,nc,rfl,c0,c1,hT⟩:=kE (HX.out.keep (hU.out.kept S)) hlt
   (have i1:(0:Int)≤(k:Int):=by omega);(have i2:(k:Int)<(ts.length:Int):=by omega);obtain ⟨z1,z2,z3⟩:=HZ.out.2 k;have tH:=aa (MH S wo _ (gt ts k) 16 hT z1 z2 z3);(have HY:Hid (mW (gt ts k) 16=true→uX ts=true):=fun e=>by rw [HG.out,ij hlt e];rfl);(have HN:Hid (mW (gt ts k) 16=false→∀j,j<k+1→mW (gt ts j) 16=false):=fun e j hj=>if ej:j=k then by subst ej;exact e else hd.out j (by omega));have aW:=aa hlt;clear hd hlt hk hT z1 z2 z3;generalize mW (gt ts k) 16=g at *;generalize gt ts k=t at *;cases g
   ·have jP:=aa (HN.out rfl)
    go_wp2_with fail;refine tH.out.mono ?_;rintro e w' ⟨rfl,hb⟩;have aP:=aa (hU.out.trans hb);clear hb;go_wp2_with fail
    go_roundw
    case rel=>exact ⟨k+1,aW.out,by go_num,aP.out,jP.out⟩
    case measure=>have:=aW.out;simp [intOf];omega
   ·have HY2:=aa (HY.out rfl)
    go_wp2_with fail;refine tH.out.mono ?_;rintro e w' ⟨rfl,hb⟩;have aP:=aa (hU.out.trans hb);clear hb;go_wp2_with fail;go_ret;exact ⟨aR HY2.out.symm,aP.out⟩
  ·obtain rfl:k=ts.length:=by omega
   (have HF:Hid (uX ts=decide (16<(ts.length:Int))):=by unfold Hid;rw [HG.out,any_none hd.out,Bool.false_or,Bool.eq_iff_iff,decide_eq_true_iff,decide_eq_true_iff];omega);clear hd hlt;go_wp2_with fail;go_ret;exact ⟨aR (by rw [HF.out]),hU.out⟩
def ue (names:List ByteArray) (states:List (List Int)) (ts:List aD):Bool:=kI names states || uX ts
set_option maxHeartbeats 2000000 in
theorem Ii (w:World) (v:Value) (names:List ByteArray) (states:List (List Int)) (ts:List aD) (sc:Int) (h:tZ w v names states ts sc) :
  Calls Tryz.prog 41 #[v] w fun e w'=>e=.returned (.bool (ue names states ts))∧Up w w':=by
 obtain ⟨V0,V1,V2,rfl,hN,hS,hT⟩:=h.ex;obtain ⟨p0,c0,rfl,-,-⟩:=aC.open hN;obtain ⟨p1,c1,rfl,-,-⟩:=bS hS;obtain ⟨p2,c2,rfl,-⟩:=cU hT;have hN:ah Any w (.slice p0 names.length c0) names:=hN;have hu:=Up.alloc w (.cells #[.slice p0 names.length c0,.slice p1 states.length c1,.slice p2 ts.length c2,.int .i64 sc] 69);have q0:=aK w #[.slice p0 names.length c0,.slice p1 states.length c1,.slice p2 ts.length c2,.int .i64 sc] 69 0;have q1:=aK w #[.slice p0 names.length c0,.slice p1 states.length c1,.slice p2 ts.length c2,.int .i64 sc] 69 1
 have q2:=aK w #[.slice p0 names.length c0,.slice p1 states.length c1,.slice p2 ts.length c2,.int .i64 sc] 69 2;have tH:=aa (NH Any Any _ _ _ names states (ah.keep hN (hu.kept _)) (hS.keep (hu.kept _)) h.n.1 h.n.2 h.s.1 h.s.2);have HGT:=aa (B1 Any _ _ ts (hT.keep (hu.kept _)) h.t);have HG:Hid (ue names states ts=(kI names states || uX ts)):=rfl;have HU:=aa hu;simp only [List.getElem?_toArray,List.getElem?_cons_zero,List.getElem?_cons_succ] at q0 q1 q2;clear hN hS hT hu h;generalize kI names states=a at *;generalize uX ts=b at *
 go_enter Tryz.func41,Tryz.ntmps41
 go_wp2_with fail;generalize w.alloc (.cells #[.slice p0 names.length c0,.slice p1 states.length c1,.slice p2 ts.length c2,.int .i64 sc] 69)=w1 at *;refine tH.out.mono ?_;rintro e w2 ⟨rfl,rfl⟩;cases a
 ·go_wp2_with fail
  refine HGT.out.mono ?_;rintro e w3 ⟨rfl,bz⟩;have bW:=aa (HU.out.trans bz);clear bz;go_wp2_with fail;go_ret;exact ⟨aR (by rw [HG.out];rfl),bW.out⟩
 ·go_wp2_with fail
  go_ret;exact ⟨aR (by rw [HG.out];rfl),HU.out⟩
end
section
open Go.RowKit Go.Deep
theorem Tx {ts:List aD} (h:uX ts=false):ts.length≤16∧∀k,(gt ts k).ps.length≤66∧(gt ts k).ns.length≤68∧∀j,(gs (gt ts k).ns j).size≤20:=by
 unfold uX at h;rw [Bool.or_eq_false_iff,decide_eq_false_iff_not] at h;obtain ⟨h1,h2⟩:=h;refine ⟨by omega,fun k=>?_⟩;by_cases hk:k<ts.length
 ·have h3:=any_false h1 hk
  unfold mW at h3;rw [Bool.or_eq_false_iff,Bool.or_eq_false_iff,Bool.or_eq_false_iff] at h3;obtain ⟨⟨⟨_,h4⟩,h5⟩,h6⟩:=h3;rw [decide_eq_false_iff_not] at h4 h5;refine ⟨by omega,by omega,fun j=>?_⟩;by_cases hj:j<(gt ts k).ns.length
  ·have:=of_decide_eq_false (any_false h6 hj);omega
  ·have:gs (gt ts k).ns j=ByteArray.empty:=by simp [gs,hj]
   rw [this];exact Nat.zero_le _
 ·have:gt ts k=⟨[],[]⟩:=by simp [gt,hk]
  rw [this];exact ⟨Nat.zero_le _,Nat.zero_le _,fun j=>by simp [gs]⟩
theorem tZ.keep {W W':World} {v:Value} {names:List ByteArray} {states:List (List Int)} {ts:List aD} {sc:Int} (h:tZ W v names states ts sc) (hu:Up W W'):tZ W' v names states ts sc:=by
 obtain ⟨V0,V1,V2,e,hN,hS,hT⟩:=h.ex;exact ⟨⟨V0,V1,V2,e,ah.keep hN (hu.kept _),hS.keep (hu.kept _),hT.keep (hu.kept _)⟩,h.n,h.s,h.t,h.sc⟩
structure NX (names:List ByteArray) (states:List (List Int)) (ts:List aD):Prop where
 n:names.length≤1000000
 nz:∀k,(gs names k).size≤70000
 n5:names.length≤5∨7<names.length
 s:states.length≤1000000
 sr:∀k,(gl states k).length≤1000000
 t:ts.length≤16
 tz:∀k,(gt ts k).ps.length≤1000000∧(gt ts k).ns.length≤1000000∧∀j,(gs (gt ts k).ns j).size≤70000
theorem NY {names:List ByteArray} {states:List (List Int)} {ts:List aD} (h:ue names states ts=false):NX names states ts:=by
 unfold ue at h;rw [Bool.or_eq_false_iff] at h;have h1:=Tq h.1;obtain ⟨h2,h3,h4⟩:=h1.le10;obtain ⟨h5,h6⟩:=Tx h.2;refine ⟨by omega,fun k=>Nat.le_trans (h1.nm k) (by decide),h4,Nat.le_trans h1.m10 (by decide),fun k=>Nat.le_trans (h3 k) (by decide),h5,fun k=>?_⟩;obtain ⟨z1,z2,z3⟩:=h6 k;exact ⟨by omega,by omega,fun j=>Nat.le_trans (z3 j) (by decide)⟩
end
section
open Go.RowKit Go.Deep
set_option maxHeartbeats 8000000 in
theorem GZ (w:World) (v:Value) (names:List ByteArray) (states:List (List Int)) (ts:List aD) (sc:Int) (h:tZ w v names states ts sc) :
  Calls Tryz.prog 7 #[v] w fun e w'=>e=.returned (.bool true)∧Up w w':=by
 obtain ⟨V0,V1,V2,rfl,hN,hS,hT⟩:=h.ex;obtain ⟨p0,c0,rfl,-,-⟩:=aC.open hN;obtain ⟨p1,c1,rfl,-,-⟩:=bS hS;obtain ⟨p2,c2,rfl,-⟩:=cU hT;have hN:ah Any w (.slice p0 names.length c0) names:=hN;have hu:=Up.alloc w (.cells #[.slice p0 names.length c0,.slice p1 states.length c1,.slice p2 ts.length c2,.int .i64 sc] 69);have q0:=aK w #[.slice p0 names.length c0,.slice p1 states.length c1,.slice p2 ts.length c2,.int .i64 sc] 69 0;have q1:=aK w #[.slice p0 names.length c0,.slice p1 states.length c1,.slice p2 ts.length c2,.int .i64 sc] 69 1
 have q2:=aK w #[.slice p0 names.length c0,.slice p1 states.length c1,.slice p2 ts.length c2,.int .i64 sc] 69 2;have q3:=aK w #[.slice p0 names.length c0,.slice p1 states.length c1,.slice p2 ts.length c2,.int .i64 sc] 69 3;simp only [List.getElem?_toArray,List.getElem?_cons_zero,List.getElem?_cons_succ] at q0 q1 q2 q3;have tH:=aa (Ii _ _ names states ts sc (h.keep hu));have HAW:Hid (∀W,Calls Tryz.prog 26 #[] W fun e w'=>e=.returned (.bool true)∧Up W w'):=NV;have nv:Hid (ue names states ts=false→NX names states ts):=NY;have HU:=aa hu
 have HN:=aa (ah.keep hN (hu.kept _));have HS:=aa (hS.keep (hu.kept _));have HT:=aa (hT.keep (hu.kept _));clear h hN hS hT hu
 go_enter Tryz.func7,Tryz.ntmps7
 go_wp2_with fail;generalize w.alloc (.cells #[.slice p0 names.length c0,.slice p1 states.length c1,.slice p2 ts.length c2,.int .i64 sc] 69)=w1 at *;generalize w.heap.size=cb at *;refine tH.out.mono ?_;rintro e w2 ⟨rfl,aG⟩;have aP:=aa (HU.out.trans aG);have HQ:=aa (And.intro (aG.cell q0) (And.intro (aG.cell q1) (And.intro (aG.cell q2) (aG.cell q3))));have jP:=aa (ah.keep HN.out (aG.kept _));have dP:=aa (HS.out.keep (aG.kept _));have iu:=aa (HT.out.keep (aG.kept _));clear aG tH q0 q1 q2 q3 HN HS HT;cases hg:ue names states ts
 ·have hok:=nv.out hg
  obtain ⟨q0,q1,q2,q3⟩:=HQ.out;have pQ:Hid (ts.length≤16):=hok.t;have QK:Hid (∀W n,Up w2 W→∀P N,au Any W (.agg #[P,N]) (gt ts n)→Calls Tryz.prog 21 #[.agg #[P,N],.slice p0 names.length c0,.slice p1 states.length c1] W (fG W (gt ts n) names states)):=fun W n hW P N ht =>
   KM Any W _ _ _ _ names states ht (hok.tz n).1 (hok.tz n).2.1 (hok.tz n).2.2 (ah.keep jP.out (hW.kept _)) hok.n hok.nz (dP.out.keep (hW.kept _)) hok.s hok.sr hok.n5
  have QL:Hid (∀W n,Up w2 W→∀P N,au Any W (.agg #[P,N]) (gt ts n)→Calls Tryz.prog 42 #[.agg #[P,N],.slice p0 names.length c0,.slice p1 states.length c1] W (fG W (gt ts n) names states)):=fun W n hW P N ht =>
   Ih Any W _ _ _ _ names states ht (hok.tz n).1 (hok.tz n).2.1 (hok.tz n).2.2 (ah.keep jP.out (hW.kept _)) hok.n hok.nz (dP.out.keep (hW.kept _)) hok.s hok.sr hok.n5
  have QM:Hid (∀W,Up w2 W→Calls Tryz.prog 17 #[.slice p0 names.length c0,.slice p1 states.length c1] W (jy W names states)):=fun W hW=>zN Any W _ _ names states (ah.keep jP.out (hW.kept _)) hok.n hok.nz (dP.out.keep (hW.kept _)) hok.s hok.sr hok.n5;have QN:Hid (∀W,Up w2 W→Calls Tryz.prog 43 #[.slice p0 names.length c0,.slice p1 states.length c1] W (jy W names states)):=fun W hW=>DD Any W _ _ names states (ah.keep jP.out (hW.kept _)) hok.n hok.nz (dP.out.keep (hW.kept _)) hok.s hok.sr hok.n5
  have Xg:Hid (∀W,Up w2 W→Calls Tryz.prog 45 #[.slice p0 names.length c0,.slice p1 states.length c1,.slice p2 ts.length c2,.int .i64 sc] W fun e w'=>e=.returned (.int .i64 (kJ names states ts sc))∧Up W w'):=fun W hW=>Tu Any W _ _ _ names states ts sc (ah.keep jP.out (hW.kept _)) hok.n hok.nz (dP.out.keep (hW.kept _)) hok.s hok.sr hok.n5 (iu.out.keep (hW.kept _)) fun k=>⟨(hok.tz k).1,(hok.tz k).2.1⟩
  have Xh:Hid (∀W,Up w2 W→Calls Tryz.prog 46 #[.slice p0 names.length c0,.slice p1 states.length c1,.slice p2 ts.length c2,.int .i64 sc] W fun e w'=>e=.returned (.int .i64 (kJ names states ts sc))∧Up W w'):=fun W hW=>QJ Any W _ _ _ names states ts sc (ah.keep jP.out (hW.kept _)) hok.n hok.nz (dP.out.keep (hW.kept _)) hok.s hok.sr hok.n5 (iu.out.keep (hW.kept _)) fun k=>⟨(hok.tz k).1,(hok.tz k).2.1⟩;have kU:=aa (sR (states:=states) hok.n5);clear hok hg nv jP dP;unfold jy at QM QN;unfold fG at QK QL;go_wp2_with fail;clear q0 q1 q2 q3
  go_loopw [4,5,6,7,8,21] (fun _ _ _ _ _ i wr=>∃k:Nat,k≤ts.length∧i=.int .i64 k∧Hid (Up w2 wr)) (fun _ _ _ _ _ i _=>ts.length - (intOf i).toNat)
  case atStart=>exact ⟨0,Nat.zero_le _,rfl,Up.refl _⟩
  case round =>
   obtain ⟨k,hk,rfl,hU⟩:=hrel;obtain ⟨wo,rfl⟩:∃wo:World,wo=wr:=⟨_,rfl⟩;by_cases hlt:k<ts.length
   ·obtain ⟨tb,toff,pp,pc,np,nc,rfl,d0,d1,hTk⟩:=kE (iu.out.keep (hU.out.kept _)) hlt
    (have i1:(0:Int)≤(k:Int):=by omega);(have i2:(k:Int)<(ts.length:Int):=by omega);(have i3:(k:Int)<64:=by have:=pQ.out;omega);have ud:=Up.alloc wo (.cells #[.slice pp (gt ts k).ps.length pc,.slice np (gt ts k).ns.length nc] 39);obtain ⟨r0,r1,-,-⟩:=boxed (ek (w:=wo) (P:=.slice pp (gt ts k).ps.length pc) (N:=.slice np (gt ts k).ns.length nc) (T:=39));have Xi:=hTk.keep (ud.kept _);have D5:=hU.out.trans ud;have jW:=aa (QK.out _ k D5 _ _ Xi)
    have wZ:Hid (∀W,Up (wo.alloc (.cells #[.slice pp (gt ts k).ps.length pc,.slice np (gt ts k).ns.length nc] 39)) W→_):=fun W hW=>QL.out W k (D5.trans hW) _ _ (Xi.keep (hW.kept _));obtain ⟨q0,q1,-,-⟩:=HQ.out;replace q0:=D5.cell q0;replace q1:=D5.cell q1;have xD:=aa D5;have aW:=aa hlt;clear hTk ud Xi D5 hU hlt hk;generalize rE (gt ts k) names states=a at *;generalize fF (gt ts k) names states=b at *;generalize gt ts k=t at *;go_wp2_with fail;generalize wo.alloc (.cells #[.slice pp t.ps.length pc,.slice np t.ns.length nc] 39)=wa at *;refine jW.out.mono ?_
    rintro e w4 ⟨bE,rfl⟩;replace q0:=bE.cell q0;replace q1:=bE.cell q1;replace r0:=bE.cell r0;replace r1:=bE.cell r1;have AE:=aa (wZ.out w4 bE);have jl:=aa (xD.out.trans bE);clear bE jW wZ;go_wp2_with fail;refine AE.out.mono ?_;rintro e w5 ⟨fe,rfl⟩;have gU:=aa (jl.out.trans fe);(have e1:(a != a)=false:=by simp);(have e2:(b != b)=false:=by simp);clear fe AE q0 q1 r0 r1;go_wp2_with fail
    go_roundw
    case rel=>exact ⟨k+1,aW.out,by go_num,gU.out⟩
    case measure=>have:=aW.out;simp [intOf];omega
   ·obtain rfl:k=ts.length:=by omega
    have jB:=aa hU.out;obtain ⟨q0,q1,q2,q3⟩:=HQ.out;replace q0:=hU.out.cell q0;replace q1:=hU.out.cell q1;replace q2:=hU.out.cell q2;replace q3:=hU.out.cell q3;have cR:=aa (QM.out wo hU.out);clear hU hlt hk QK QL QM iu;generalize kQ names states=bn at *;generalize fW names states=bl at *;generalize aZ names states=be at *;go_wp2_with fail;refine cR.out.mono ?_;rintro e w4 ⟨bE,v4,rfl,IM⟩;obtain ⟨p4,c4,rfl,-⟩:=cU IM;have AZ:=aa (QN.out w4 (jB.out.trans bE));have jl:=aa (jB.out.trans bE);have Am:=aa IM;replace q0:=bE.cell q0
    replace q1:=bE.cell q1;replace q2:=bE.cell q2;replace q3:=bE.cell q3;clear bE IM cR QN;go_wp2_with fail;refine AZ.out.mono ?_;rintro e w5 ⟨fe,v5,rfl,Jw⟩;obtain ⟨p5,c5,rfl,-⟩:=cU Jw;have gU:=aa (jl.out.trans fe);have nB:=aa (Am.out.keep (fe.kept _));have xO:=aa Jw;have Q0:=aa (fe.cell q0);have Q1:=aa (fe.cell q1);have Q2:=aa (fe.cell q2);have Q3:=aa (fe.cell q3);clear fe Jw AZ q0 q1 q2 q3 Am jl jB HQ
    (have HST:Hid (∀W,Up w5 W→Calls Tryz.prog 44 #[.slice p4 bl.length c4,.slice p5 bl.length c5] W fun e w'=>e=.returned (.bool true)∧Up W w'):=fun W hW=>by have h:=o9 Any Any W _ _ bl bl (nB.out.keep (hW.kept _)) (xO.out.keep (hW.kept _)) (Nat.le_trans kU.out.1 (by decide)) kU.out.2;rw [decide_eq_true rfl] at h;exact h);have jE:Hid (∀W,Up w5 W→_):=fun W hW=>Xg.out W (gU.out.trans hW);have iK:Hid (∀W,Up w5 W→_):=fun W hW=>Xh.out W (gU.out.trans hW);have MK:=aa (aP.out.trans gU.out);clear nB xO kU Xg Xh gU;generalize kJ names states ts sc=ck at *
    (have e1:(bn==bn)=true:=by simp);(have e2:(be==be)=true:=by simp);(have e3:(ck==ck)=true:=by simp);have b9:Hid (Up w5 (w5.drewN 1)):=Up.drewN w5 1;go_wp2_with fail
    go_region_held3 (fun w'=>Hid (Up w5 w')∧w'.cell? ⟨cb,0,none⟩=some (.slice p0 names.length c0)∧w'.cell? ⟨cb,1,none⟩=some (.slice p1 states.length c1)∧w'.cell? ⟨cb,2,none⟩=some (.slice p2 ts.length c2)∧w'.cell? ⟨cb,3,none⟩=some (.int .i64 sc)) (exact ⟨b9,b9.out.cell Q0.out,b9.out.cell Q1.out,b9.out.cell Q2.out,b9.out.cell Q3.out⟩) (first
     | (go_at_call 44;refine (HST.out _ b9.out).mono ?_;rintro e w' ⟨rfl,hu⟩;have b9:Hid (Up w5 w'):=b9.out.trans hu;clear hu)
     | (go_at_call 45;refine (jE.out _ b9.out).mono ?_;rintro e w' ⟨rfl,hu⟩;have b9:Hid (Up w5 w'):=b9.out.trans hu;clear hu)
     | (go_at_call 46;refine (iK.out _ b9.out).mono ?_;rintro e w' ⟨rfl,hu⟩;have b9:Hid (Up w5 w'):=b9.out.trans hu;clear hu)
     | (go_at_call 26;refine (HAW.out _).mono ?_;rintro e w' ⟨rfl,hu⟩;have b9:Hid (Up w5 w'):=b9.out.trans hu;clear hu))
    go_wp2_with fail;go_ret;exact ⟨rfl,MK.out.trans b9.out⟩
 ·clear nv hg iu jP dP HQ
  go_wp2_with fail;refine (HAW.out _).mono ?_;rintro e w8 ⟨rfl,mg⟩;have gT:=aa (aP.out.trans mg);clear mg;go_wp2_with fail;go_ret;exact ⟨rfl,gT.out⟩
end
end Go.Proofs.YthgabkgmkolobaaGreat
