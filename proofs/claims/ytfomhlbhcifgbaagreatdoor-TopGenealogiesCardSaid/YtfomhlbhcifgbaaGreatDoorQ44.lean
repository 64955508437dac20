/- contamination.counter. The walk of optimaltree.entries. Plain: the states that the law of .. -/
import Derived.Test.YtfomhlbhcifgbaaGreatDoorQ42
set_option maxRecDepth 100000
set_option maxHeartbeats 8000000
namespace Go.Proofs.YtfomhlbhcifgbaaGreatDoor
section
open Go.RowKit Go.Deep
def Cl (w3 wr:World) (xs:List Int):Prop :=
 Up w3 wr/\∃sv,wr.heap[w3.heap.size]? = some (Obj.cells #[sv] 27 (0,0))/\au (w3.heap.size+1) 3 wr sv (xs.map (Value.int .i64))/\w3.heap.size+1<=wr.heap.size
theorem Cl.start (w3:World):Cl w3 (w3.alloc (.cells #[.slice none 0 0] 27)) [] :=
 ⟨Up.alloc _ _,.slice none 0 0,nP _ _,au.nil _ _ _,by rw [aN];exact aj _⟩
theorem Cl.cell {w3 wr:World} {xs:List Int} (h:Cl w3 wr xs):∃q c,wr.cell? ⟨w3.heap.size,0,none⟩=some (.slice q xs.length c)/\au (w3.heap.size+1) 3 wr (.slice q xs.length c) (xs.map (Value.int .i64)):=by
 obtain ⟨_,sv,h2,h3,_⟩:=h;obtain ⟨q,c,rfl,_⟩:=h3.form (n:=xs.length) (by simp);exact ⟨q,c,by simp [World.cell?,h2],h3⟩
theorem Cl.app {w3 wr w8:World} {xs:List Int} {x:Int} (h:Cl w3 wr xs) {v:Value} (ho:au (w3.heap.size+1) 3 w8 v ((xs.map (Value.int .i64))++[.int .i64 x])) (hb:Below (w3.heap.size+1) wr w8) :
  (∃c,w8.cell? ⟨w3.heap.size,0,none⟩=some c)/\w8.frozen? ⟨w3.heap.size,0,none⟩=false/\Cl w3 (w8.setCell ⟨w3.heap.size,0,none⟩ v) (xs++[x]):=by
 obtain ⟨hu,sv,hc,_,hs⟩:=h;have B4:w8.heap[w3.heap.size]? = some (Obj.cells #[sv] 27 (0,0)):=(hb.block _ (kC _)).trans hc;refine ⟨⟨sv,by simp [World.cell?,B4]⟩,by simp [World.frozen?,B4],?_,v,?_,?_,?_⟩
 ·exact jm (p:=⟨w3.heap.size,0,none⟩) (dI hu (Below.mono hb (jP _))) (aj _) _
 ·simp [World.setCell,Array.getElem?_modify,B4]
 ·rw [cm]
  exact ho.kept fun b hb2 _=>Ad w8 _ _ b (by simp only;omega)
 ·rw [gX];exact aV hs hb.size
theorem OZ (S:Nat->Prop) (w:World) (v:Value) (s:kI) (h:aP S w v s) (hs:fD s.ns s.P) :
  Calls Tryz.prog 66 #[v] w fun e w'=>Up w w'/\∃bc bs,e=.returned (.func (.func 106) #[] #[.pointer (some ⟨bc,0,none⟩),.pointer (some ⟨bs,0,none⟩)])/\bc<w'.heap.size/\bs<w'.heap.size/\Dj (fun b=>b<w'.heap.size) w' bc bs s:=by
 have h0:aP (fun b=>b<w.heap.size) w v s:=h.sub fun b _ hb=>hb;obtain ⟨np,nc,bp,bc,pp,pc,rfl,hN,hB,hP⟩:=aP.open h0;have hl:=hs.len;have DV:s.ns.length<=7:=hs.le;obtain ⟨w1,hw1⟩:∃w1,w1=w.alloc (.cells #[.slice np s.ns.length nc,.slice bp s.bs.length bc,.slice pp s.P.length pc] 36):=⟨_,rfl⟩;obtain ⟨sb,eG⟩:∃sb,sb=w.heap.size:=⟨_,rfl⟩;have aM:Up w w1:=by rw [hw1];exact Up.alloc _ _
 have hs1:w1.heap.size=sb+1:=by rw [hw1,eG];simp
 have hx:w1.heap[sb]? = some (Obj.cells #[.slice np s.ns.length nc,.slice bp s.bs.length bc,.slice pp s.P.length pc] 36 (0,0)):=by rw [hw1,eG];exact fQ _ _ _ _ _
 obtain ⟨x0,x1,x2,-,-,-⟩:=aQ hx;have y2:=(Up.alloc w1 (.cells #[.slice none 0 0] 27)).cell x2;have uX:=aa (Cl.start w1);have HX:=aa hx;have bU:=aa aM;have jB:=aa hs1;have cg:=aa eG;have HP:=aa (aS.keep hP (aM.kept _));have HST:=aa (h0.keep (aM.kept _));have nW:Hid (∀i,i<s.P.length->(gl s.P i).length<=7):=fun i hi=>by have:=nZ hs.row hi;omega
 have HP7:Hid (s.P.length<=7):=by unfold Hid;omega
 have hp7:=HP7.out;rw [hw1] at y2;clear h h0 hN hB hP hl hs DV aM hx hs1 x0 x1 x2;generalize s.ns.length=n at *;generalize s.bs.length=nb at *;generalize hnp:s.P.length=ji at *;have HNP:=aa hnp;clear hnp;go_in;go_wp2_with fail;rw [<- hw1] at y2 ⊢;rw [<- eG];clear hw1 eG;generalize w1.alloc (.cells #[.slice none 0 0] 27)=w2 at *;clear y2
 go_loopw [4,5,9] (fun _ _ i wr=>∃k:Nat,k<=ji/\i=.int .i64 k/\Hid (Cl w1 wr (qi s.P k))) (fun _ _ i _=>ji - (intOf i).toNat)
 case atStart=>exact ⟨0,bg _,rfl,uX.out⟩
 case round =>
  obtain ⟨k,hk,rfl,hI⟩:=hrel;obtain ⟨wo,rfl⟩:=e9 wr;have hU:Up w1 wo:=hI.out.1;obtain ⟨q,c,hc,hown⟩:=hI.out.cell;rw [jB.out] at hc;by_cases hlt:k<ji
  ·obtain ⟨pb,po,rq,rc,rfl,jw,-⟩:=dV (HP.out.keep (hU.kept _)) (k:=k) (by rw [HNP.out];exact hlt)
   have hr7:=nW.out k hlt;have tK:=aa (IE s.P k);have OB:=Dh s.P k;(have kP:Hid (((qi s.P k).map (Value.int .i64)).length<=1000000):=by unfold Hid;rw [aD];omega);have HOW:=aa hown;have fW:Hid (w1.heap.size+1<=wo.heap.size):=hI.out.2.choose_spec.2.2;have bf:=aa hlt;(have j1:(k:Int)<(ji:Int):=by omega);(have j2:(k:Int)<8:=by omega);clear hlt hown;generalize (gl s.P k).length=rl at *;generalize qD:(qi s.P k).length=cl at *;have HCX:=aa qD;clear qD;by_cases h0:0<rl
   ·have j3:(0:Int)<(rl:Int):=by omega
    (have k7:Hid (qi s.P (k+1)=qi s.P k++[(k:Int)]):=by unfold Hid;rw [tK.out,if_pos h0]);clear h0;go_wp2_with (at_builtin;refine ja wo rfl _ _ 27 rfl (w1.heap.size+1) 3 _ 8 Tryz.underlying27 Tryz.p8 rfl (by decide) HOW.out rfl (.int .i64 k) rfl rfl kP.out fW.out ?_;intro g8 mY w8 cD eC jC;obtain ⟨⟨c8,B4⟩,Tz,hI8⟩:=hI.out.app cD jC;rw [jB.out] at B4 Tz;have HI8:=aa hI8;rw [jB.out] at HI8;clear cD eC jC hI8)
    go_roundw
    case rel=>exact ⟨k+1,bf.out,by go_num,by rw [k7.out];have h:=HI8.out;rw [aD] at h;exact h⟩
    case measure=>have:=bf.out;simp [intOf];omega
   ·have j3:¬(0:Int)<(rl:Int):=by omega
    (have k7:Hid (qi s.P (k+1)=qi s.P k):=by unfold Hid;rw [tK.out,if_neg h0]);(have acD:rl=0:=by omega);clear h0;go_wp2
    go_roundw
    case rel=>exact ⟨k+1,bf.out,by go_num,by rw [k7.out];exact hI.out⟩
    case measure=>have:=bf.out;simp [intOf];omega
  ·obtain rfl:k=ji:=by omega
   have tJ:Hid (Up w wo/\sb+1<wo.heap.size/\sb<wo.heap.size/\Dj (fun b=>b<wo.heap.size) wo (sb+1) sb s):=by
    have hsz:w1.heap.size+1<=wo.heap.size:=hI.out.2.choose_spec.2.2;rw [jB.out] at hsz;refine ⟨bU.out.trans hU,by omega,by omega,⟨_,hc,?_⟩,_,_,_,(aO hU _ (bq.1 HX.out).1).trans HX.out,?_⟩
    ·have h1:=hown.ints
     unfold lZ;rw [HNP.out];exact h1.sub fun b _ hb=>hb
    ·exact (HST.out.keep (hU.kept _)).sub fun b _ hb=>hb
   clear hown hc hU;go_wp2;go_ret;exact ⟨tJ.out.1,sb+1,sb,rfl,tJ.out.2⟩
theorem Tryz.U2:(Tryz.prog.info? 62).map (fun i=>(i.zero,i.size,i.bytes))=some (some (.agg #[.slice none 0 0,.slice none 0 0,.string ⟨#[]⟩]),3,64):=by kernel_rfl
def EnI (w:World) (acF:List ByteArray) (n:Nat) (out:Value) (wr:World):Prop:=Up w wr/\∃es:List mM,iY w.heap.size wr out es/\es.map (·.2)=((mh acF.tail).take n).map (uR acF)
theorem iY.form {base:Nat} {w:World} {v:Value} {es:List mM} (h:iY base w v es):∃p c,v=.slice p es.length c:=by
 rcases h.1.2 with ⟨e,h0⟩ | ⟨g,cap,cur,e,_⟩
 ·exact ⟨none,0,by rw [e,h0]⟩
 ·exact ⟨_,_,e⟩
theorem U3 {R:List (BT ByteArray)} {n:Nat} (h:n<R.length):R.take (n+1)=R.take n++[gB R n]:=by
 rw [iL h];simp [gB,h]
theorem O0 (S:Nat->Prop) (w:World) (v:Value) (acF:List ByteArray) (hok:iE acF) (h:aC S w v acF):Calls Tryz.prog 22 #[v] w (OV w acF):=by
 have hlo:=hok.lo;have hhi:=hok.hi;obtain ⟨p,cap,rfl,hcap,-⟩:=aB.open h;have h:aC S w (.slice p acF.length cap) acF:=h;obtain ⟨nb,no,rfl,hc0⟩:=fI h (k:=0) (by omega);rw [Nat.add_zero] at hc0;have hz:∀x∈acF,x.size<=20:=fun x hx=>Dk (hok.nm x hx);have HRT:=aa (RI acF.tail.length acF.tail (aj _) (by rw [vt];omega) (by rw [vt];omega) (fun x hx=>hz x (List.mem_of_mem_tail hx)) S w _ (OU h hlo));have pZ:=aa hok;have zy:=aa hc0
 have Ew:Hid (acF.tail.length<=4/\1<=acF.tail.length):=by unfold Hid;rw [vt];omega
 have hgz:(gs acF 0).size<=20:=q9 hz 0;have HGZ:=aa hgz;have HZT:Hid (∀k,(gs (bK acF.tail) k).size<=100):=q9 fun x hx=>AR Ew.out.1 (fun x hx=>hz x (List.mem_of_mem_tail hx)) hx;have nW:Hid ((bK acF.tail).length=(mh acF.tail).length/\(bK acF.tail).length<=15/\1<=(bK acF.tail).length):=⟨by unfold bK;rw [aD],uS Ew.out.1,UJ Ew.out.1 Ew.out.2⟩;have i0:¬cap=1:=by omega
 have i1:(1:Int)<=(acF.length:Int):=by omega
 have i2:1<=acF.length:=by omega
 clear h hc0 hz hok hhi hgz;go_in;go_wp2_with fail;refine HRT.out.mono ?_;rintro e w1 ⟨aM,tv,rfl,YS⟩;obtain ⟨tp,tc,rfl,-,-⟩:=aB.open YS;have HTV:Hid (aC (fun b=>S b\/w.heap.size<=b) w1 (.slice tp (bK acF.tail).length tc) (bK acF.tail)):=YS;have bU:=aa aM;have uX:Hid (EnI w1 acF 0 (.slice none 0 0) w1):=⟨Up.refl _,[],iY.nil _ _,by simp⟩;clear aM YS HRT;go_wp2
 go_loopw [4,6,7,8,9,14] (fun out _ _ _ _ i wr=>∃n:Nat,n<=(bK acF.tail).length/\i=.int .i64 n/\Hid (EnI w1 acF n out wr)) (fun _ _ _ _ _ i _=>(bK acF.tail).length - (intOf i).toNat)
 case atStart=>exact ⟨0,bg _,rfl,uX.out⟩
 case round =>
  obtain ⟨n,hn,rfl,hI⟩:=hrel;obtain ⟨wo,rfl⟩:=e9 wr;obtain ⟨oG,es,hes,hem⟩:=hI.out;have i3:(0:Int)<=(n:Int):=by omega
  by_cases hlt:n<(bK acF.tail).length
  ·obtain ⟨tb,to',rfl,hct⟩:=fI (aC.keep HTV.out (oG.kept _)) hlt
   (have hnl:n<(mh acF.tail).length:=by rw [<- nW.out.1];exact hlt);obtain ⟨g1,g2⟩:=YN hnl;have TL:=enF pZ.out g2;(have hen:es.length=n:=by have:=congrArg List.length hem;rw [aD,aD,iy] at this;omega);(have yJ:Hid (((mh acF.tail).take (n+1)).map (uR acF)=es.map (·.2)++[uR acF (gB (mh acF.tail) n)]):=by unfold Hid;rw [U3 hnl,cm,hem];rfl);have z1:=HGZ.out;have z2:(gs (bK acF.tail) n).size<=100:=HZT.out n;rw [g1] at hct z2
   have EJ:Hid (∀W,Calls Tryz.prog 19 #[.string (xe acF (oF (gB (mh acF.tail) n)))] W (B2 W (xe acF (oF (gB (mh acF.tail) n))))):=fun W=>Km W _ TL.psz (TF _ TL.psz);unfold xe at EJ;have xh:=aa TL;have EK:=aa hes;have IM:=aa hen;have bf:=aa hlt;have O1:=aa oG;have dZ:=(bU.out.trans oG).cell zy.out;(have i4:(n:Int)<((bK acF.tail).length:Int):=by omega);(have i5:(n:Int)<16:=by have:=nW.out.2.1;omega);clear hI TL hes hen hem oG hlt hnl g1 g2;generalize gB (mh acF.tail) n=r at *;go_wp2_with fail;refine (EJ.out wo).mono ?_
   rintro e w2 ⟨aK,pv,rfl,hpv⟩;(have hpe:Er (xe acF (oF r))=0:=by unfold Er;rw [xh.out.YM];exact xh.out.te);(have hpt:BW (xe acF (oF r))=flat (iW (uB acF r)):=by unfold BW;rw [xh.out.YM];simp [xh.out.te]);unfold xe at hpe hpt;rw [hpe];(have hpv:aJ Any w2 pv (flat (iW (uB acF r))):=by have h:=hpv;unfold xe at h;rw [hpt] at h;exact h);obtain ⟨q0,O2⟩:∃q0,q0=flat (iW (uB acF r)):=⟨_,rfl⟩;obtain ⟨q1,hq1⟩:∃q1,q1=flat (uR acF r):=⟨_,rfl⟩;rw [<- O2] at hpv;obtain ⟨P2,N2,rfl,O3,O4⟩:=hpv;obtain ⟨pp,pc,rfl,-,-⟩:=aB.open O3;obtain ⟨np,nc,rfl,-,-⟩:=aB.open O4
   have O3:af Any w2 (.slice pp q0.ps.length pc) q0.ps:=O3;have O4:aC Any w2 (.slice np q0.ns.length nc) q0.ns:=O4;have hal:=Up.alloc w2 (.cells #[.slice pp q0.ps.length pc,.slice np q0.ns.length nc] 33);have hb3:=uK (w:=w2) (P:=.slice pp q0.ps.length pc) (N:=.slice np q0.ns.length nc) (T:=33);have hs3:(w2.alloc (.cells #[.slice pp q0.ps.length pc,.slice np q0.ns.length nc] 33)).heap.size=w2.heap.size+1:=aN _ _;have hl0:q0.ps.length<=1000000/\q0.ns.length<=1000000:=by have:=xh.out.len;rw [O2,oZ,y7];omega
   (have ki:q1.ps.length<=1000000/\q1.ns.length<=1000000:=by have:=xh.out.len;rw [hq1,oZ,y7];omega);have GU:=aa (GW Any (w2.alloc (.cells #[.slice pp q0.ps.length pc,.slice np q0.ns.length nc] 33)) _ q0 (aJ.keep ⟨_,_,rfl,O3,O4⟩ (hal.kept _)) hl0.1 hl0.2 (by rw [O2];exact xh.out.sz));(have TK:Hid (aF q0=0/\r7 q0=q1):=by unfold Hid;rw [O2,hq1];exact ⟨xh.out.te,xh.out.can⟩);have qG:Hid (Ki q1=0/\(⟨(Ep q1).toArray⟩:ByteArray)=eM (uR acF r)):=by unfold Hid;rw [hq1];refine ⟨by unfold Ki;rw [if_neg (by simp [xh.out.te2])],?_⟩;unfold eM;rw [xh.out.tx]
   have Ii:Hid (∀W v,aJ Any W v q1->Calls Tryz.prog 44 #[v] W (N9 W q1)):=fun W v h=>UF Any W v q1 h ki.1 ki.2 (by rw [hq1];exact xh.out.sz2);have jA:=aa (aK.trans hal);have zF:=aa hb3;have uC:=aa hs3;have NI:Hid (wo.heap.size<=w2.heap.size):=aK.size;have YT:=aa hq1;obtain ⟨b0,b1,b2,b3⟩:=boxed hb3;clear hpe hpt O3 O4 hal hb3 hs3 hl0 ki aK O2 hq1 dZ hct EJ z1 z2;go_wp2_with fail;generalize w2.alloc (.cells #[.slice pp q0.ps.length pc,.slice np q0.ns.length nc] 33)=w3 at *;refine GU.out.mono ?_
   rintro e w4 ⟨eB,⟨xz,-⟩ | ⟨-,cv,rfl,P4,N4,rfl,nC,kL⟩⟩
   ·exact absurd TK.out.1 xz
   rw [TK.out.2] at nC kL;obtain ⟨p4,c4,rfl,-,-⟩:=aB.open nC;obtain ⟨n4,d4,rfl,-,-⟩:=aB.open kL;have hb4:=(aO eB w2.heap.size (by rw [uC.out];omega)).trans zF.out;have XS:=aa hb4;have gF:=aa (jA.out.trans eB);have JZ:Hid (af (fun b=>w3.heap.size<=b) w4 (.slice p4 q1.ps.length c4) q1.ps/\aC (fun b=>w3.heap.size<=b) w4 (.slice n4 q1.ns.length d4) q1.ns):=⟨nC,kL⟩;obtain ⟨b0,b1,b2,b3⟩:=boxed hb4;clear hb4 eB nC kL GU;have HST:=aa (nD (w:=wo) (p:=.slice p4 q1.ps.length c4) (q:=.slice n4 q1.ns.length d4) XS.out NI.out gF.out)
   go_wp2_with fail;obtain ⟨u5,s0,s1,s2⟩:=HST.out;have MD:aJ (fun b=>w3.heap.size<=b) ((w4.setCell ⟨w2.heap.size,0,none⟩ (.slice p4 q1.ps.length c4)).setCell ⟨w2.heap.size,1,none⟩ (.slice n4 q1.ns.length d4)) (.agg #[.slice p4 q1.ps.length c4,.slice n4 q1.ns.length d4]) q1 :=
    ⟨_,_,rfl,af.keep JZ.out.1 fun b hb _=>s2 b (by have:=uC.out;omega),aC.keep JZ.out.2 fun b hb _=>s2 b (by have:=uC.out;omega)⟩
   have Kn:=aa MD;have gU:=aa u5;have HC5:=aa (And.intro s0 s1);clear MD u5 s0 s1 s2 HST JZ b0 b1 b2 b3;generalize (w4.setCell ⟨w2.heap.size,0,none⟩ _).setCell ⟨w2.heap.size,1,none⟩ _=w5 at *;refine (Ii.out w5 _ (Kn.out.sub fun _ _ _=>trivial)).mono ?_;rintro e w6 ⟨iu,rfl⟩;rw [qG.out.1,qG.out.2];have b0:=iu.cell HC5.out.1;have b1:=iu.cell HC5.out.2;have Cm:=aa (gU.out.trans iu);have TC:=aa (Kn.out.keep (iu.kept _));have R3:=EK.out.up Cm.out;have R4:=aa R3;obtain ⟨op,oc,rfl⟩:=R3.form;rw [IM.out]
   (have R4:Hid (iY w1.heap.size w6 (.slice op n oc) es):=by have h:=R4.out;rw [IM.out] at h;exact h);have YU:Hid (aJ (fun b=>some b≠(Value.slice op n oc).ownBlock) w6 (.agg #[.slice p4 q1.ps.length c4,.slice n4 q1.ns.length d4]) (flat (uR acF r))):=by have h:=TC.out;(have hlt:∀b,(Value.slice op n oc).ownBlock=some b->b<wo.heap.size:=fun b hb=>by have h2:=EK.out.1;rw [IM.out] at h2;exact (mq h2 b hb).2);rw [<- YT.out];exact h.sub fun b hb _ e=>by have h1:=hlt b e.symm;have h2:=NI.out;have h3:=uC.out;omega
   have fW:Hid (w1.heap.size<=w6.heap.size):=(O1.out.trans Cm.out).size;clear R3 iu Kn TC Ii;go_wp2_with (at_builtin;refine EW w6 rfl _ _ 57 rfl w1.heap.size _ 64 Tryz.underlying57 Tryz.U2 rfl (by decide) R4.out rfl ((.slice p4 q1.ps.length c4,.slice n4 q1.ns.length d4),uR acF r) rfl YU.out n IM.out (by have:=bf.out;have:=nW.out.2.1;omega) fW.out ?_;intro g8 mY w8 cD eC jC;have tj:=aa cD;have lg:=aa jC;clear cD eC jC)
   go_roundw
   case rel=>exact ⟨n+1,bf.out,by go_num,dI (show Below w1.heap.size w1 w6 from O1.out.trans Cm.out) lg.out,_,tj.out,by rw [yJ.out,cm];rfl⟩
   case measure=>have:=bf.out;simp [intOf];omega
  ·obtain rfl:n=(bK acF.tail).length:=by omega
   (have i4:¬((bK acF.tail).length:Int)<((bK acF.tail).length:Int):=by omega);have YV:=iY.up hes (Up.refl wo);obtain ⟨op,oc,rfl⟩:=YV.form;(have IP:es.map (·.2)=(rt acF.length acF.tail).map (uR acF):=by rw [hem,nW.out.1,gq];have:rt acF.length acF.tail=mh acF.tail:=q8 _ _ _ (by simp) (aj _);rw [this]);have Bk:es.length=(bK acF.tail).length:=by have:=congrArg List.length hem;rw [aD,aD,nW.out.1,gq] at this;rw [nW.out.1];exact this
   (have hne:es≠[]:=fun e=>by rw [e] at Bk;have:=nW.out.2.2;simp at Bk;omega);have HSR:=aa (OD hes hne (by rw [Bk];have:=nW.out.2.1;omega));have EK:=aa hes;have O5:=aa IP;have O1:=aa oG;clear hI hes YV hem IP oG hlt hne Bk;go_wp2_with fail;refine HSR.out.mono ?_;rintro e w9 ⟨rfl,YW,es',TM,zS,g9,c9,hv9,zT⟩;have tJ:Hid (OV w acF (.returned (.tuple #[.slice op es.length oc,.int .i64 0])) w9):=by
    have hB:Below w1.heap.size w1 w9:=Below.grown (show Below w1.heap.size w1 wo from O1.out) YW O1.out.size fun k hk=>(mq EK.out.1 k hk).1;(have zL:(es'.map (·.2))=dN acF:=by refine BX (((TM.map (·.2)).trans (List.Perm.of_eq O5.out)).trans (qb _).symm) zS (zQ _) fun r hr=>?_;have hr2:r∈dN acF:=(qb _).mem_iff.2 (O5.out ▸ (TM.map (·.2)).mem_iff.1 hr);exact (iX pZ.out hr2).1.good.nR);refine ⟨?_,_,rfl,g9,c9,es',?_,zL,zT,?_⟩
    ·exact Up.trans bU.out hB
    ·rw [hv9,<- zL,aD]
    ·intro x hx
     have h1:=EK.out.2 x (TM.mem_iff.1 hx);exact (h1.keep fun b hb hlt=>YW.block b hlt hb).sub fun _ _ _=>trivial
   clear YW TM zS hv9 zT;go_wp2;go_ret2;exact tJ.out
end
section
section
variable {t:aA} {acF:List ByteArray} {acG:List (List Int)} {p:Nat}
theorem Cn {i:Nat} (hi:i<t.ps.length) (h0:(gs t.ns i).size=0):gi (fJ t acF acG p) i = -1:=by
 rw [uT hi];exact Mi _ h0
theorem EL (hc:lG acF acG) (ho:qy t acF) {i:Nat} (hi:i<t.ps.length) (h0:(gs t.ns i).size≠0):∃k:Nat,k<acF.length/\kr acF (gs t.ns i)=(k:Int)/\gi (fJ t acF acG p) i=gi (gl acG k) p:=by
 obtain ⟨_,_,hnl,_,_⟩:=aG ho.te;obtain ⟨b,hb,_,e⟩:=B5 ho hi h0;obtain ⟨p1,p2⟩:=Kr hnl hi h0;refine ⟨b,hb,e,?_⟩;rw [uT hi,yV (st:=gj t acF acG p) p1 p2];unfold gj;rw [Kq p1,p2,ei,e,ei,Il _ _ (by rw [hc.len];exact hb)]
end
end
end Go.Proofs.YtfomhlbhcifgbaaGreatDoor
