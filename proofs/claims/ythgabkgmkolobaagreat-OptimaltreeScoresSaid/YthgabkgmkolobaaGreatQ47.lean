/- Reference 34: all, All. -/
import Derived.Test.YthgabkgmkolobaaGreatQ45
import Derived.Test.YthgabkgmkolobaaGreatQ46
set_option maxRecDepth 100000
namespace Go.Proofs.YthgabkgmkolobaaGreat
open Go.RowKit Go.Deep
def GN (w:World) (names:List ByteArray) (e:Ending) (w':World):Prop:=Up w w'∧∃v,e=.returned v∧b7 Any w' v (allT names)
def WQ (w w2:World) (names:List ByteArray) (n:Nat) (tv:Value) (wr:World):Prop :=
 ∃qs:List RT,oV (w.heap.size+1) w w2 wr tv (qs.map aV)∧qs.Perm (((kW names.tail).take n).map (uR names))∧qs.Pairwise eW
def NN (w w2:World) (qs:List RT) (q:RT) (k:Nat) (tv:Value) (wr:World):Prop :=
 ∃j:ByteArray,oV (w.heap.size+1) w w2 wr tv (rH (qs.map aV) k j)∧∀i,k≤i→i<qs.length→¬eW (qs.getD i (.node ByteArray.empty [])) q
theorem WR {L:List ByteArray} {n:Nat} (h:n<(kW L).length):gs (bA L) n=iM (gB (kW L) n)∧gB (kW L) n∈jF L:=by
 unfold gs gB bA;constructor
 ·simp [h]
 ·rw [(zL L).mem_iff];simp [h]
theorem yh {qs:List RT} {i:Nat} (h:i<qs.length):gs (qs.map aV) i=aV (qs.getD i (.node ByteArray.empty [])):=by simp [gs,h]
theorem NP (y q:RT):eW y q↔Op.bytesLess (aV y).toList (aV q).toList=true∨(aV y).toList=(aV q).toList:=by
 have e:∀r:RT,(aV r).toList=bT r:=fun r=>by rw [toList_data];unfold aV;simp
 rw [e,e,uJ,decide_eq_true_iff];unfold eW;constructor
 ·intro h
  by_cases h0:Lib.compareBytes (bT y) (bT q)=0
  ·exact .inr (nJ h0)
  ·exact .inl (by omega)
 ·rintro (h | h)
  ·omega
  ·rw [h,um];exact Int.le_refl _
theorem Ts {y q:RT} (h:(!Op.bytesLess (aV y).toList (aV q).toList)=false∨(!(aV y).toList==(aV q).toList)=false):eW y q:=by
 rw [NP];rcases h with h | h
 ·exact .inl (by simpa using h)
 ·exact .inr (by simpa using h)
theorem WS {y q:RT} (h:(!Op.bytesLess (aV y).toList (aV q).toList)=true∧(!(aV y).toList==(aV q).toList)=true):¬eW y q:=by
 rw [NP];rintro (e | e)
 ·rw [e] at h;exact absurd h.1 (by decide)
 ·have:=h.2;rw [e] at this;simp at this
set_option maxHeartbeats 8000000 in
theorem QE (S:Nat→Prop) (w:World) (v:Value) (names:List ByteArray) (hok:gY names) (h:ah S w v names):Calls Tryz.prog 105 #[v] w (GN w names):=by
 have hlo:=hok.lo;have hhi:=hok.hi;obtain ⟨p,cap,rfl,hcap,-⟩:=aC.open h;have h:ah S w (.slice p names.length cap) names:=h;obtain ⟨nb,no,rfl,hc0⟩:=bI h (k:=0) (by omega);rw [Nat.add_zero] at hc0;have hz:∀x∈names,x.size≤20:=fun x hx=>tX (hok.nm x hx);have kT:=Up.alloc w (.cells #[] 9);have hs0:(w.alloc (.cells #[] 9)).heap.size=w.heap.size+1:=World.size_alloc _ _
 have NA:=aa (Ia names.tail.length names.tail (Nat.le_refl _) (by rw [List.length_tail];omega) (by rw [List.length_tail];omega) (fun x hx=>hz x (List.mem_of_mem_tail hx)) S (w.alloc (.cells #[] 9)) _ (Dz (ah.keep h (kT.kept _)) hlo));have nv:=aa hok;have eN:=aa hc0;have WT:=aa (aF.made w 9);have yB:=aa kT;have WU:=aa hs0;have pQ:Hid (names.tail.length≤4∧1≤names.tail.length):=by unfold Hid;rw [List.length_tail];omega
 have WD:Hid ((gs names 0).size≤20):=jd hz 0;have WE:Hid (∀k,(gs (bA names.tail) k).size≤100):=jd fun x hx=>zM pQ.out.1 (fun x hx=>hz x (List.mem_of_mem_tail hx)) hx;have j9:Hid ((bA names.tail).length=(kW names.tail).length∧(bA names.tail).length≤15):=⟨by unfold bA;rw [List.length_map],nY pQ.out.1⟩;have i0:¬cap=1:=by omega
 have i1:(1:Int)≤(names.length:Int):=by omega
 have i2:1≤names.length:=by omega
 clear h hc0 hz hok hhi kT hs0
 go_enter Tryz.func105,Tryz.ntmps105
 go_wp2_with fail;generalize w.alloc (.cells #[] 9)=w1 at *;refine NA.out.mono ?_;rintro e w2 ⟨aG,tv,rfl,GG⟩;obtain ⟨tp,tc,rfl,-⟩:=GG.form (n:=(bA names.tail).length) (by rw [List.length_map]);have WG:Hid (ah (fun b=>w.heap.size+1≤b∧b<w2.heap.size) w2 (.slice tp (bA names.tail).length tc) (bA names.tail)):=GG.strs.sub fun b hb hl=>⟨by have:=WU.out;omega,hl⟩
 have tW:Hid (WQ w w2 names 0 (.slice (some ⟨w.heap.size,0,none⟩) 0 0) w2):=by refine ⟨[],⟨yB.out.trans aG,⟨Nat.le_succ _,by have:=WU.out;have:=aG.size;omega,Nat.le_refl _⟩,WT.out.fM fun b hb=>Below.block aG b (by have:=(aI WT.out hb).2;exact this),fun b hb=>.inl ?_,fun _ _ _=>rfl⟩,by simp,List.Pairwise.nil⟩;have hb:some w.heap.size=some b:=hb;injection hb with hb;omega
 clear GG aG NA WT WU;go_wp2_with fail
 go_loopw [3,5,6,7,8,9,10] (fun texts i _ _ _ _ _ wr=>∃n:Nat,n≤(bA names.tail).length∧i=.int .i64 n∧Hid (WQ w w2 names n texts wr)) (fun _ i _ _ _ _ _ _=>(bA names.tail).length - (intOf i).toNat)
 case atStart=>exact ⟨0,Nat.zero_le _,rfl,tW.out⟩
 case round =>
  obtain ⟨n,hn,rfl,hI⟩:=hrel;obtain ⟨wo,rfl⟩:∃wo:World,wo=wr:=⟨_,rfl⟩;obtain ⟨qs,hA,hp,hs⟩:=hI.out;have i3:(0:Int)≤(n:Int):=by omega
  have IJ:qs.length≤15:=by have h1:=hp.length_eq;rw [List.length_map,List.length_take] at h1;have:=j9.out;omega
  by_cases hlt:n<(bA names.tail).length
  ·obtain ⟨tb,to',rfl,hct⟩:=bI (hA.strs WG.out) hlt
   (have hnl:n<(kW names.tail).length:=by rw [← j9.out.1];exact hlt);obtain ⟨g1,g2⟩:=WR hnl;have DB:=Zw nv.out g2;(have fN:Hid (((kW names.tail).take (n+1)).map (uR names)=((kW names.tail).take n).map (uR names)++[uR names (gB (kW names.tail) n)]):=by unfold Hid;rw [Jr hnl,List.map_append];rfl);have z1:=WD.out;have z2:(gs (bA names.tail) n).size≤100:=WE.out n;rw [g1] at hct z2;have xR:Hid (∀W,Calls Tryz.prog 146 #[.string (mA names (iM (gB (kW names.tail) n)))] W (xM W (mA names (iM (gB (kW names.tail) n))))):=fun W=>KA W _ DB.Wy;unfold mA at xR
   have jm:=aa DB;have HA:=aa hA;have HP:=aa hp;have HS:=aa hs;have aW:=aa hlt;have ZT:=aa IJ;have HU0':=aa hA.up;have dQ:=hA.up.cell eN.out;(have i4:(n:Int)<((bA names.tail).length:Int):=by omega);(have i5:(n:Int)<16:=by have:=j9.out.2;omega);(have i6:0<names.length:=by omega);have i7:n<(bA names.tail).length:=hlt;(have i8:(0:Int)<(names.length:Int):=by omega);(have y1:(9223372036854775807<1+(gs names 0).size)=False:=by simp;omega);have y2:(9223372036854775807<1+(gs names 0).size+1)=False:=by simp;omega
   (have y3:(9223372036854775807<1+(gs names 0).size+1+(iM (gB (kW names.tail) n)).size)=False:=by simp;omega);(have y4:(9223372036854775807<1+(gs names 0).size+1+(iM (gB (kW names.tail) n)).size+2)=False:=by simp;omega);clear hI DB hA hp hs hlt hnl g1 g2 IJ;generalize gB (kW names.tail) n=r at *;(have hpe:r6 (mA names (iM r))=0:=by unfold r6;rw [jm.out.KJ];exact jm.out.te);(have hpt:pM (mA names (iM r))=flat (btR (uB names r)):=by unfold pM;rw [jm.out.KJ];simp [jm.out.te]);unfold mA at hpe hpt;have tq:=aa hpe;have tG:=aa hpt;clear hpe hpt;go_wp2_with fail
   go_cut [6,7] from 25 to 39 (fun s6 s7 wx=>∃B:Nat,s6=.pointer (some ⟨B,0,none⟩)∧s7=.int .i64 0∧Hid (uV wo B wx (flat (btR (uB names r)))))
   case first =>
    refine dG (by kernel_rfl) 12 (fun w'=>w'.cell? ⟨nb,no,none⟩=some (.string (gs names 0))∧w'.cell? ⟨tb,to'+n,none⟩=some (.string (iM r))) ⟨dQ,hct⟩ (fun hS=>?_);simp only [List.size_toArray,List.length_cons,List.length_nil,Nat.reduceAdd,Array.replicate_succ,Array.replicate_zero,List.push_toArray,List.nil_append,List.cons_append];refine af.tk 0 hS ?_;(try simp only [Act.put,ay,az,aA]);refine af.tk 1 hS ?_;(try simp only [Act.put,ay,az,aA]);refine af.tk 2 hS ?_
    (try simp only [Act.put,ay,az,aA]);refine af.tk 3 hS ?_;(try simp only [Act.put,ay,az,aA]);refine af.tk 4 hS ?_;(try simp only [Act.put,ay,az,aA]);refine af.tk 5 hS ?_;(try simp only [Act.put,ay,az,aA]);refine af.tk 6 hS ?_;(try simp only [Act.put,ay,az,aA]);refine af.tk 7 hS ?_
    (try simp only [Act.put,ay,az,aA]);refine af.tk 8 hS ?_;(try simp only [Act.put,ay,az,aA]);refine af.tk 9 hS ?_;(try simp only [Act.put,ay,az,aA]);refine af.tk 10 hS ?_;(try simp only [Act.put,ay,az,aA]);refine af.xU (i:=11) (i2:=15) rfl rfl (by kernel_rfl) (fun K' hK=>?_) (fun K' hK=>?_)
    ·go_simp
     refine (xR.out _).mono ?_;rintro e w2 ⟨aG,pv,rfl,hpv⟩;rw [tq.out];(have hpv:au Any w2 pv (flat (btR (uB names r))):=by have h:=hpv;unfold mA at h;rw [tG.out] at h;exact h);obtain ⟨P2,N2,rfl,fE,eZ⟩:=hpv;obtain ⟨pp,pc,rfl,-,-⟩:=aC.open fE;obtain ⟨np,nc,rfl,-,-⟩:=aC.open eZ;have lz:Up wo w2:=(Up.drewN wo 1).trans aG;have aY:=Up.alloc w2 (.cells #[.slice none 0 0,.slice none 0 0] 39);have hb3:=ek (w:=w2) (P:=.slice none 0 0) (N:=.slice none 0 0) (T:=39)
     have wN:Hid (uV wo w2.heap.size (w2.alloc (.cells #[.slice pp (flat (btR (uB names r))).ps.length pc,.slice np (flat (btR (uB names r))).ns.length nc] 39)) (flat (btR (uB names r)))):=uV.QB lz ⟨_,_,rfl,fE,eZ⟩;have bW:=aa (lz.trans aY);have xk:Hid (wo.heap.size≤w2.heap.size):=lz.size;obtain ⟨b0,b1,b2,b3⟩:=boxed hb3;have yT:=aa hb3;generalize flat (btR (uB names r))=q0 at *;clear fE eZ aG lz aY hb3;refine hK.out _ _ (aM (by kernel_rfl)) (fun _=>?_);try simp only [ay,az,aA]
     refine af.fr 12 (aM (by kernel_rfl)) ?_;(try simp only [Act.put,ay,az,aA]);refine af.fr 13 (aM (by kernel_rfl)) ?_;(try simp only [Act.put,ay,az,aA]);refine af.fr 14 (aM (by kernel_rfl)) ?_;(try simp only [Act.put,ay,az,aA]);refine af.step (i:=15) rfl (by kernel_rfl) (fun K' hK=>?_);go_simp;refine hK.out _ _ (aM (by kernel_rfl)) (fun _=>?_)
     (try simp only [ay,az,aA]);refine af.step (i:=16) rfl (by kernel_rfl) (fun K' hK=>?_);go_simp;refine hK.out _ _ (aM (by kernel_rfl)) (fun _=>?_);(try simp only [ay,az,aA]);refine af.step (i:=17) rfl (by kernel_rfl) (fun K' hK=>?_);go_simp;refine hK.out _ _ (aM (by kernel_rfl)) (fun _=>?_);refine af.done (by kernel_rfl) ?_;go_wp2_with fail;go_meet
     case rel=>exact ⟨_,rfl,rfl,wN.out⟩
    ·go_simp
     have aY:=Up.alloc wo (.cells #[.slice none 0 0,.slice none 0 0] 39);have hd:=Up.drewN (wo.alloc (.cells #[.slice none 0 0,.slice none 0 0] 39)) 1;have hb1:=ek (w:=wo) (P:=.slice none 0 0) (N:=.slice none 0 0) (T:=39);have hs1:(wo.alloc (.cells #[.slice none 0 0,.slice none 0 0] 39)).heap.size=wo.heap.size+1:=World.size_alloc _ _;refine hK.out _ _ (fun _=>⟨aY.cell dQ,aY.cell hct⟩) (fun hS=>?_);replace hS:=hS ⟨11,by decide,rfl⟩;(try simp only [ay,az,aA]);refine af.step (i:=11) rfl (by kernel_rfl) (fun K' hK=>?_);go_simp
     refine (xR.out _).mono ?_;rintro e w2 ⟨aG,pv,rfl,hpv⟩;rw [tq.out];(have hpv:au Any w2 pv (flat (btR (uB names r))):=by have h:=hpv;unfold mA at h;rw [tG.out] at h;exact h);have lz:=(aY.trans hd).trans aG;have hb3:w2.heap[wo.heap.size]? = some (Obj.cells #[.slice none 0 0,.slice none 0 0] 39 (0,0)):=(Below.block (hd.trans aG) _ (by rw [hs1];omega)).trans hb1;have hpv:=Ig hpv hb3;obtain ⟨P2,N2,rfl,fE,eZ⟩:=hpv;obtain ⟨pp,pc,rfl,-,-⟩:=aC.open fE;obtain ⟨np,nc,rfl,-,-⟩:=aC.open eZ
     have Mf:Hid (au (fun b=>b≠wo.heap.size) w2 (.agg #[.slice pp (flat (btR (uB names r))).ps.length pc,.slice np (flat (btR (uB names r))).ns.length nc]) (flat (btR (uB names r)))):=⟨_,_,rfl,fE,eZ⟩;have bW:=aa lz;have xk:Hid (wo.heap.size≤wo.heap.size):=Nat.le_refl _;obtain ⟨b0,b1,b2,b3⟩:=boxed hb3;have yT:=aa hb3;generalize flat (btR (uB names r))=q0 at *;clear fE eZ aG lz aY hd hb1 hs1 hb3;refine hK.out _ _ (aM (by kernel_rfl)) (fun _=>?_);try simp only [ay,az,aA]
     refine af.fr 12 (aM (by kernel_rfl)) ?_;(try simp only [Act.put,ay,az,aA]);refine af.fr 13 (aM (by kernel_rfl)) ?_;(try simp only [Act.put,ay,az,aA]);refine af.fr 14 (aM (by kernel_rfl)) ?_;(try simp only [Act.put,ay,az,aA]);refine af.step (i:=16) rfl (by kernel_rfl) (fun K' hK=>?_);go_simp;refine hK.out _ _ (aM (by kernel_rfl)) (fun _=>?_)
     (try simp only [ay,az,aA]);refine af.step (i:=17) rfl (by kernel_rfl) (fun K' hK=>?_);go_simp;refine hK.out _ _ (aM (by kernel_rfl)) (fun _=>?_);refine af.done (by kernel_rfl) ?_;go_wp2_with fail;go_meet
     case rel=>exact ⟨_,rfl,rfl,uV.GL yT.out xk.out bW.out Mf.out⟩
   case rest =>
    obtain ⟨B,rfl,rfl,hB⟩:=hcut;obtain ⟨w3,rfl⟩:∃w3:World,w3=wc:=⟨_,rfl⟩;obtain ⟨pp,pc,np,nc,hb3,wY⟩:=hB.out.ex;obtain ⟨q0,vR⟩:∃q0,q0=flat (btR (uB names r)):=⟨_,rfl⟩;obtain ⟨q1,hq1⟩:∃q1,q1=flat (uR names r):=⟨_,rfl⟩;have eu:=aa hB.out;rw [← vR] at hb3 wY;(have hl0:q0.ps.length≤1000000∧q0.ns.length≤1000000:=by have:=jm.out.len;rw [vR,mm,qo];omega);(have eU:q1.ps.length≤1000000∧q1.ns.length≤1000000:=by have:=jm.out.len;rw [hq1,mm,qo];omega);have CL:=aa (PN _ w3 _ q0 wY hl0.1 hl0.2 (by rw [vR];exact jm.out.sz))
    (have s8:Hid (aB q0=0∧sN q0=q1):=by (have h1:aB q0=0:=by rw [vR];exact jm.out.te);refine ⟨h1,?_⟩;rw [MM h1,vR,hq1];exact jm.out.can);(have jT:Hid (vG q1=0∧(⟨(r5 q1).toArray⟩:ByteArray)=aV (uR names r)):=by unfold Hid;rw [hq1];refine ⟨by unfold vG;rw [if_neg (by simp [jm.out.Zu])],?_⟩;unfold aV;rw [jm.out.tx]);have vJ:Hid (∀W v,au Any W v q1→Calls Tryz.prog 148 #[v] W (AJ W q1)):=fun W v h=>Kq Any W v q1 h eU.1 eU.2 (by rw [hq1];exact jm.out.Zv);have yT:=aa hb3;obtain ⟨b0,b1,b2,b3⟩:=boxed hb3
    clear hl0 eU vR hq1 wY hb3 dQ hct xR tq tG hB y1 y2 y3 y4;go_wp2_with fail;refine CL.out.mono ?_;rintro e w4 ⟨bE,⟨mB,-⟩ | ⟨-,cv,rfl,P4,N4,rfl,ey,eC⟩⟩
    ·exact absurd s8.out.1 mB
    rw [s8.out.2] at ey eC;obtain ⟨p4,c4,rfl,-,-⟩:=aC.open ey;obtain ⟨n4,d4,rfl,-,-⟩:=aC.open eC;have hb4:=(Below.block bE B eu.out.lo.2).trans yT.out;have ZU:=aa (uV.GL (w:=wo) (t:=q1) (pp:=p4) (np:=n4) (pc:=c4) (nc:=d4) hb4 eu.out.lo.1 (eu.out.up.trans bE) (au.sub ⟨_,_,rfl,ey,eC⟩ fun b hb _=>by have:=eu.out.lo.2;omega));obtain ⟨b0,b1,b2,b3⟩:=boxed hb4;obtain ⟨_,_,_,s4⟩:=dS (w:=wo) (p:=.slice p4 q1.ps.length c4) (q:=.slice n4 q1.ns.length d4) hb4 eu.out.lo.1 (eu.out.up.trans bE)
    have Ci:au Any ((w4.setCell ⟨B,0,none⟩ (.slice p4 q1.ps.length c4)).setCell ⟨B,1,none⟩ (.slice n4 q1.ns.length d4)) (.agg #[.slice p4 q1.ps.length c4,.slice n4 q1.ns.length d4]) q1 :=
     ((au.sub (T:=fun b=>b≠B) ⟨_,_,rfl,ey,eC⟩ fun b hb _=>by have:=eu.out.lo.2;omega).keep fun b hb _=>s4 b hb).sub fun _ _ _=>trivial
    have nB:=aa Ci;clear hb4 bE ey eC CL eu yT s4 Ci;go_wp2_with fail;generalize (w4.setCell ⟨B,0,none⟩ _).setCell ⟨B,1,none⟩ _=w5 at *;refine (vJ.out w5 _ nB.out).mono ?_;rintro e w6 ⟨ew,rfl⟩;rw [jT.out.1,jT.out.2];have NQ:=aa (HA.out.next (ZU.out.up.trans ew));obtain ⟨oq,oc,Gu,-⟩:=NQ.out.own.form (n:=qs.length) (by rw [List.length_map,List.length_map]);subst Gu;have HQ:Hid (∃q,q=uR names r):=⟨_,rfl⟩;obtain ⟨q,hq⟩:=HQ.out;rw [← hq] at jT fN ⊢;have NK:Hid (((qs.map aV).map Value.string).length=qs.length):=by unfold Hid;rw [List.length_map,List.length_map]
    (have cz:Hid (w.heap.size≤w6.heap.size):=by obtain ⟨z1,z2,z3⟩:=NQ.out.sz;unfold Hid;omega);clear ew ZU vJ nB jT s8 jm hq HQ b0 b1 b2 b3 HA z1 z2;go_wp2_with (at_builtin;refine iF w6 rfl _ _ 22 rfl w.heap.size 9 (.string ⟨#[]⟩) 16 Tryz.underlying22 Tryz.iE rfl (by decide) NQ.out.own rfl (.string (aV q)) rfl rfl qs.length NK.out (by have:=ZT.out;omega) cz.out ?_;intro g8 gZ w8 bJ cD fS;have yS:=aa (NQ.out.app bJ cD fS);clear bJ cD fS);have iw:Hid ((qs.map aV).length=qs.length):=List.length_map _
    have Nb:Hid (NN w w2 qs q qs.length (.slice (some ⟨g8,0,none⟩) (qs.length+1) gZ) w8):=by refine ⟨aV q,?_,fun i h1 h2=>by omega⟩;have h:=yS.out;rw [Qw,iw.out] at h;exact h
    have mO:Hid (∀(m:Nat) (wr:World),m≤qs.length→NN w w2 qs q m (.slice (some ⟨g8,0,none⟩) (qs.length+1) gZ) wr→(m=0∨eW (qs.getD (m - 1) (.node ByteArray.empty [])) q)→WQ w w2 names (n+1) (.slice (some ⟨g8,0,none⟩) (qs.length+1) gZ) (wr.setCell ⟨g8,m,none⟩ (.string (aV q)))):=fun m wr hm hJ hlo=>by
     obtain ⟨j,hj,hhi⟩:=hJ;obtain ⟨i1,i2⟩:=WB HS.out hm hhi hlo;obtain ⟨g,cp,e,_,_,h4⟩:=hj.set (j:=m) (by rw [GI,iw.out];omega);injection e with e;injection e with e;injection e with e;subst e;refine ⟨qs.take m++q::qs.drop m,?_,?_,i2⟩
     ·have h5:=h4 (aV q)
      rw [NC (by rw [iw.out];exact hm)] at h5;(have e2:(qs.take m++q::qs.drop m).map aV=rH (qs.map aV) m (aV q):=by unfold rH;simp);rw [e2];exact h5
     ·rw [fN.out]
      exact i1.trans ((HP.out.cons q).trans (List.perm_append_comm (l₁:=[q])))
    have Dy:Hid (∀(m:Nat) (wr:World),m≤qs.length→NN w w2 qs q m (.slice (some ⟨g8,0,none⟩) (qs.length+1) gZ) wr→wr.frozen? ⟨g8,m,none⟩=false∧(∃x,wr.cell? ⟨g8,m,none⟩=some (.string x))∧(0<m→wr.cell? ⟨g8,m - 1,none⟩=some (.string (aV (qs.getD (m - 1) (.node ByteArray.empty [])))))∧(0<m→¬eW (qs.getD (m - 1) (.node ByteArray.empty [])) q→NN w w2 qs q (m - 1) (.slice (some ⟨g8,0,none⟩) (qs.length+1) gZ) (wr.setCell ⟨g8,m,none⟩ (.string (aV (qs.getD (m - 1) (.node ByteArray.empty []))))))):=fun m wr hm hJ=>by
     obtain ⟨j,hj,hhi⟩:=hJ;obtain ⟨g,cp,e,h2,h3,h4⟩:=hj.set (j:=m) (by rw [GI,iw.out];omega);injection e with e;injection e with e;injection e with e;subst e;refine ⟨h3,⟨_,h2⟩,fun h0=>?_,fun h0 hn=>?_⟩
     ·obtain ⟨g',cp',e',B7,_,_⟩:=hj.set (j:=m - 1) (by rw [GI,iw.out];omega)
      injection e' with e';injection e' with e';injection e' with e';subst e';rw [Tn h0 (by rw [iw.out];exact hm),yh (by omega)] at B7;exact B7
     ·refine ⟨gs (qs.map aV) (m - 1),?_,fun i q1 q2=>?_⟩
      ·have h5:=h4 (aV (qs.getD (m - 1) (.node ByteArray.empty [])))
       rw [← yh (by omega),Qx h0 (by rw [iw.out];exact hm)] at h5;rw [← yh (by omega)];exact h5
      ·by_cases ei:i=m - 1
       ·rw [ei];exact hn
       ·exact hhi i (by omega) q2
    have KQ:Hid (qs.length≤15):=ZT.out;clear yS NQ iw fN HP NK cz;go_wp2_with fail
    go_loopw [10] (fun k wr=>∃m:Nat,m≤qs.length∧k=.int .i64 m∧Hid (NN w w2 qs q m (.slice (some ⟨g8,0,none⟩) (qs.length+1) gZ) wr)) (fun k _=>(intOf k).toNat)
    case atStart=>exact ⟨qs.length,Nat.le_refl _,rfl,Nb.out⟩
    case round =>
     obtain ⟨m,hm,rfl,hJ⟩:=hrel;obtain ⟨wi,rfl⟩:∃wi:World,wi=wr:=⟨_,rfl⟩;obtain ⟨hf,⟨x0,hx0⟩,hc1,hsh⟩:=Dy.out m wi hm hJ.out;(have m1:(0:Int)≤(m:Int):=by omega);(have m2:(m:Int)<((qs.length+1:Nat):Int):=by omega);(have m3:(m:Int)<16:=by have:=KQ.out;omega);(have m4:m<qs.length+1:=by omega);by_cases h0:m=0
     ·subst h0
      have dF:=aa (mO.out 0 wi (Nat.zero_le _) hJ.out (.inl rfl));clear hJ hsh hc1;go_wp2_with fail
      go_roundw
      case rel=>exact ⟨n+1,aW.out,by go_num,dF.out⟩
      case measure=>have:=aW.out;simp [intOf];omega
     ·have hc2:=hc1 (by omega)
      (have hw:wrap64 ((m:Int) - 1)=((m - 1:Nat):Int):=by unfold wrap64;omega);(have m5:(0:Int)<(m:Int):=by omega);(have m6:((m - 1:Nat):Int)<((qs.length+1:Nat):Int):=by omega);(have m7:m - 1<qs.length+1:=by omega);obtain ⟨y,hy⟩:∃y,y=qs.getD (m - 1) (.node ByteArray.empty []):=⟨_,rfl⟩;rw [← hy] at hc2 hsh;have C9:=aa (mO.out m wi hm hJ.out);rw [← hy] at C9;have HSH:=aa hsh;have UD:Hid (0<m∧m≤qs.length):=⟨by omega,hm⟩;have HJJ:=aa hJ.out;clear hc1 hsh hy hJ;go_wp2_with fail
      ·have hno:=WS ‹_∧_›
       have hm0:=UD.out;have HX:=aa (HSH.out hm0.1 hno)
       go_roundw
       case rel=>exact ⟨m - 1,by omega,by go_num,HX.out⟩
       case measure=>simp [intOf];omega
      ·have hyes:=Ts ‹_∨_›
       have dF:=aa (C9.out (.inr hyes))
       go_roundw
       case rel=>exact ⟨n+1,aW.out,by go_num,dF.out⟩
       case measure=>have:=aW.out;simp [intOf];omega
  ·obtain rfl:n=(bA names.tail).length:=by omega
   (have UW:qs=bG names:=by refine WC nv.out ?_ hs;rw [j9.out.1,List.take_length] at hp;exact hp);subst UW;have sj:=aa hA.up;have HST:Hid (ah Any wo u3 ((bG names).map aV)):=hA.own.strs.sub fun _ _ _=>trivial;obtain ⟨op,oc,Gu,-⟩:=hA.own.form (n:=(bG names).length) (by rw [List.length_map,List.length_map]);subst Gu;have HST:Hid (ah Any wo (.slice op (bG names).length oc) ((bG names).map aV)):=HST.out;(have dm:Hid ((allT names).length=(bG names).length):=by unfold Hid allT;rw [List.length_map]);have KQ:=aa IJ;clear hI hA hp hs hlt hn IJ
   (have tW:Hid (ZQ wo names 0 (.slice (some ⟨wo.heap.size,0,none⟩) 0 0) (wo.alloc (.cells #[] 39))):=by refine ⟨Up.alloc _ _,[],⟨World.ownsRow_made wo #[] 0 (Nat.le_refl _) (by unfold maxLen;omega) (by simp),fun _ h=>by cases h⟩,by simp⟩);go_wp2_with fail
   go_loopw [11,12,13,14] (fun out i _ _ wr=>∃k:Nat,k≤(bG names).length∧i=.int .i64 k∧Hid (ZQ wo names k out wr)) (fun _ i _ _ _=>(bG names).length - (intOf i).toNat)
   case atStart=>exact ⟨0,Nat.zero_le _,rfl,tW.out⟩
   case round =>
    obtain ⟨k,hk,rfl,hI⟩:=hrel;obtain ⟨wi,rfl⟩:∃wi:World,wi=wr:=⟨_,rfl⟩;obtain ⟨rI,es,hes,hem⟩:=hI.out;(have k0:(0:Int)≤(k:Int):=by omega);by_cases hlk:k<(bG names).length
    ·have hmem:(bG names).getD k (.node ByteArray.empty [])∈bG names:=by simp [hlk]
     obtain ⟨p1,p2,p3⟩:=KO nv.out hmem;obtain ⟨_,_,_,_,p5,_⟩:=fB nv.out hmem;obtain ⟨xb,xo,rfl,kR⟩:=bI (ah.keep HST.out (rI.kept _)) (k:=k) (by rw [List.length_map];exact hlk);rw [yh hlk] at kR;have oJ:iL (aV ((bG names).getD k (.node ByteArray.empty []))).data.toList=some ((bG names).getD k (.node ByteArray.empty [])):=by have hg:=(fB nv.out hmem).1.good;(have e:(aV ((bG names).getD k (.node ByteArray.empty []))).data.toList=txR ((bG names).getD k (.node ByteArray.empty []))++[59]:=by unfold aV bT;simp);rw [e];exact tJ hg.jg
     have xR:=aa (Hv wi _ p1 oJ p5);(have hlt2:k<(allT names).length:=by rw [dm.out];exact hlk);(have hgt:gt (allT names) k=flat ((bG names).getD k (.node ByteArray.empty [])):=by unfold allT gt;simp [hlk]);(have fN:Hid ((allT names).take (k+1)=es.map (·.2)++[flat ((bG names).getD k (.node ByteArray.empty []))]):=by unfold Hid;rw [yg hlt2,hem,hgt]);(have pF:es.length=k:=by have:=congrArg List.length hem;rw [List.length_map,List.length_take] at this;omega);have eO:=aa pF;obtain ⟨ZV,ZW,rfl⟩:=hes.form
     (have pV:Hid (gN wo.heap.size wi (.slice ZV k ZW) es):=by have h:=hes;rw [pF] at h;exact h);have Nu:=aa rI;have GJ:=aa hlk;(have k1:(k:Int)<((bG names).length:Int):=by omega);(have k2:(k:Int)<16:=by have:=KQ.out;omega);rw [pF];clear hI rI hes hem hlk hlt2 hgt hmem p1 p2 p3 p5 oJ pF;generalize aV ((bG names).getD k (.node ByteArray.empty []))=key at *;generalize flat ((bG names).getD k (.node ByteArray.empty []))=q at *;go_wp2_with fail;refine xR.out.mono ?_;rintro e w2 ⟨aG,v2,rfl,ht2⟩;obtain ⟨P2,N2,rfl,fE,eZ⟩:=ht2;obtain ⟨pp,pc,rfl,-,-⟩:=aC.open fE
     obtain ⟨np,nc,rfl,-,-⟩:=aC.open eZ;have aY:=Up.alloc w2 (.cells #[.slice pp q.ps.length pc,.slice np q.ns.length nc] 39);have WV:=pV.out.up (aG.trans aY);have HES2:=aa WV;have hlo:=fun b hb=>(World.ownsRow.lt pV.out.1 b hb);have yV:Hid (au (fun b=>some b≠(Value.slice ZV k ZW).ownBlock) (w2.alloc (.cells #[.slice pp q.ps.length pc,.slice np q.ns.length nc] 39)) (.agg #[.slice pp q.ps.length pc,.slice np q.ns.length nc]) q) :=
      (au.keep ⟨_,_,rfl,fE,eZ⟩ (aY.kept _)).sub fun b hb _ e=>by have h1:=(hlo b e.symm).2;have h2:wi.heap.size≤b:=hb;omega
     have aP:=aa (Nu.out.trans (aG.trans aY));have cZ:=aa (dc w2 (.slice pp q.ps.length pc) (.slice np q.ns.length nc) 39);have cR:=aa (dz w2 (.slice pp q.ps.length pc) (.slice np q.ns.length nc) 39);have rJ:Hid (es.length=k):=eO.out;(have HK6:Hid (k≤1000000):=by have:=GJ.out;have:=KQ.out;unfold Hid;omega);clear aG fE eZ aY WV hlo xR pV
     go_wp2_with (at_builtin;refine kH _ rfl _ _ 33 rfl wo.heap.size _ 48 Tryz.underlying33 Tryz.infoTree rfl (by decide) HES2.out rfl ((.slice pp q.ps.length pc,.slice np q.ns.length nc),q) (by rw [World.size_alloc];rfl) yV.out k rJ.out HK6.out aP.out.size ?_;intro g8 gZ w8 bJ cD kD;have tY:=aa bJ;have gT:=aa kD;clear bJ cD kD)
     go_roundw
     case rel=>exact ⟨k+1,GJ.out,by go_num,Below.trans (show Below wo.heap.size wo _ from aP.out) gT.out,_,tY.out,by rw [fN.out,List.map_append];rfl⟩
     case measure=>have:=GJ.out;simp [intOf];omega
    ·obtain rfl:k=(bG names).length:=by omega
     (have xS:es.map (·.2)=allT names:=by rw [hem,← dm.out,List.take_length]);have dF:Hid (GN w names (.returned u11) wi):=⟨sj.out.trans rI,u11,rfl,xS ▸ hes.trees⟩;clear hI rI hes hem xS hlk;go_wp2_with fail;go_ret;exact dF.out
end Go.Proofs.YthgabkgmkolobaaGreat
