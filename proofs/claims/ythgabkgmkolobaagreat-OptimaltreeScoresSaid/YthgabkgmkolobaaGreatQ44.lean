/- The walk of optimaltree.entries. Lists of texts that grow and are written in place. Lists .. -/
import Derived.Test.YthgabkgmkolobaaGreatQ43
set_option maxRecDepth 100000
namespace Go.Proofs.YthgabkgmkolobaaGreat
section
open Go.RowKit Go.Deep
theorem Tryz.Tm:(Tryz.prog.info? 96).map (fun i=>(i.zero,i.size,i.bytes))=some (some (.agg #[.slice none 0 0,.slice none 0 0,.string ⟨#[]⟩]),3,64):=by kernel_rfl
def ZA (w:World) (names:List ByteArray) (n:Nat) (out:Value) (wr:World):Prop:=Up w wr∧∃es:List lG,iB w.heap.size wr out es∧es.map (·.2)=((jF names.tail).take n).map (uR names)
theorem iB.form {base:Nat} {w:World} {v:Value} {es:List lG} (h:iB base w v es):∃p c,v=.slice p es.length c:=by
 rcases h.1.2 with ⟨e,h0⟩ | ⟨g,cap,cur,e,_⟩
 ·exact ⟨none,0,by rw [e,h0]⟩
 ·exact ⟨_,_,e⟩
theorem Jr {R:List (BT ByteArray)} {n:Nat} (h:n<R.length):R.take (n+1)=R.take n++[gB R n]:=by
 rw [List.take_succ_eq_append_getElem h];simp [gB,h]
set_option maxHeartbeats 8000000 in
theorem Nz (S:Nat→Prop) (w:World) (v:Value) (names:List ByteArray) (hok:gY names) (h:ah S w v names):Calls Tryz.prog 68 #[v] w (Nw w names):=by
 have hlo:=hok.lo;have hhi:=hok.hi;obtain ⟨p,cap,rfl,hcap,-⟩:=aC.open h;have h:ah S w (.slice p names.length cap) names:=h;obtain ⟨nb,no,rfl,hc0⟩:=bI h (k:=0) (by omega);rw [Nat.add_zero] at hc0;have hz:∀x∈names,x.size≤20:=fun x hx=>tX (hok.nm x hx);have NA:=aa (Ql names.tail.length names.tail (Nat.le_refl _) (by rw [List.length_tail];omega) (by rw [List.length_tail];omega) (fun x hx=>hz x (List.mem_of_mem_tail hx)) S w _ (Dz h hlo));have nv:=aa hok;have eN:=aa hc0
 have pQ:Hid (names.tail.length≤4∧1≤names.tail.length):=by unfold Hid;rw [List.length_tail];omega
 have ZB:(gs names 0).size≤20:=jd hz 0;have WD:=aa ZB;have WE:Hid (∀k,(gs (bB names.tail) k).size≤100):=jd fun x hx=>uP pQ.out.1 (fun x hx=>hz x (List.mem_of_mem_tail hx)) hx;have j9:Hid ((bB names.tail).length=(jF names.tail).length∧(bB names.tail).length≤15∧1≤(bB names.tail).length):=⟨by unfold bB;rw [List.length_map],qu pQ.out.1,S5 pQ.out.1 pQ.out.2⟩;have i0:¬cap=1:=by omega
 have i1:(1:Int)≤(names.length:Int):=by omega
 have i2:1≤names.length:=by omega
 clear h hc0 hz hok hhi ZB
 go_enter Tryz.func68,Tryz.ntmps68
 go_wp2_with fail;refine NA.out.mono ?_;rintro e w1 ⟨aO,tv,rfl,GG⟩;obtain ⟨tp,tc,rfl,-,-⟩:=aC.open GG;have WG:Hid (ah (fun b=>S b∨w.heap.size≤b) w1 (.slice tp (bB names.tail).length tc) (bB names.tail)):=GG;have bH:=aa aO;have tW:Hid (ZA w1 names 0 (.slice none 0 0) w1):=⟨Up.refl _,[],iB.nil _ _,by simp⟩;clear aO GG NA;go_wp2_with fail
 go_loopw [4,6,7,8,9,14] (fun out _ _ _ _ i wr=>∃n:Nat,n≤(bB names.tail).length∧i=.int .i64 n∧Hid (ZA w1 names n out wr)) (fun _ _ _ _ _ i _=>(bB names.tail).length - (intOf i).toNat)
 case atStart=>exact ⟨0,Nat.zero_le _,rfl,tW.out⟩
 case round =>
  obtain ⟨n,hn,rfl,hI⟩:=hrel;obtain ⟨wo,rfl⟩:∃wo:World,wo=wr:=⟨_,rfl⟩;obtain ⟨fR,es,hes,hem⟩:=hI.out;have i3:(0:Int)≤(n:Int):=by omega
  by_cases hlt:n<(bB names.tail).length
  ·obtain ⟨tb,to',rfl,hct⟩:=bI (ah.keep WG.out (fR.kept _)) hlt
   (have hnl:n<(jF names.tail).length:=by rw [← j9.out.1];exact hlt);obtain ⟨g1,g2⟩:=Wz hnl;have DB:=Zw nv.out g2;(have hen:es.length=n:=by have:=congrArg List.length hem;rw [List.length_map,List.length_map,List.length_take] at this;omega);(have fN:Hid (((jF names.tail).take (n+1)).map (uR names)=es.map (·.2)++[uR names (gB (jF names.tail) n)]):=by unfold Hid;rw [Jr hnl,List.map_append,hem];rfl);have z1:=WD.out;have z2:(gs (bB names.tail) n).size≤100:=WE.out n;rw [g1] at hct z2
   have xR:Hid (∀W,Calls Tryz.prog 121 #[.string (mA names (iM (gB (jF names.tail) n)))] W (xM W (mA names (iM (gB (jF names.tail) n))))):=fun W=>S7 W _ DB.Wy (XQ _ DB.Wy);unfold mA at xR;have jm:=aa DB;have pV:=aa hes;have GH:=aa hen;have aW:=aa hlt;have NB:=aa fR;have dQ:=(bH.out.trans fR).cell eN.out;(have i4:(n:Int)<((bB names.tail).length:Int):=by omega);(have i5:(n:Int)<16:=by have:=j9.out.2.1;omega);clear hI DB hes hen hem fR hlt hnl g1 g2;generalize gB (jF names.tail) n=r at *;go_wp2_with fail;refine (xR.out wo).mono ?_
   rintro e w2 ⟨aG,pv,rfl,hpv⟩;(have hpe:r6 (mA names (iM r))=0:=by unfold r6;rw [jm.out.KJ];exact jm.out.te);(have hpt:pM (mA names (iM r))=flat (btR (uB names r)):=by unfold pM;rw [jm.out.KJ];simp [jm.out.te]);unfold mA at hpe hpt;rw [hpe];(have hpv:au Any w2 pv (flat (btR (uB names r))):=by have h:=hpv;unfold mA at h;rw [hpt] at h;exact h);obtain ⟨q0,vR⟩:∃q0,q0=flat (btR (uB names r)):=⟨_,rfl⟩;obtain ⟨q1,hq1⟩:∃q1,q1=flat (uR names r):=⟨_,rfl⟩;rw [← vR] at hpv;obtain ⟨P2,N2,rfl,fE,eZ⟩:=hpv;obtain ⟨pp,pc,rfl,-,-⟩:=aC.open fE;obtain ⟨np,nc,rfl,-,-⟩:=aC.open eZ
   have fE:aj Any w2 (.slice pp q0.ps.length pc) q0.ps:=fE;have eZ:ah Any w2 (.slice np q0.ns.length nc) q0.ns:=eZ;have aY:=Up.alloc w2 (.cells #[.slice pp q0.ps.length pc,.slice np q0.ns.length nc] 39);have hb3:=ek (w:=w2) (P:=.slice pp q0.ps.length pc) (N:=.slice np q0.ns.length nc) (T:=39);have hs3:(w2.alloc (.cells #[.slice pp q0.ps.length pc,.slice np q0.ns.length nc] 39)).heap.size=w2.heap.size+1:=World.size_alloc _ _;have hl0:q0.ps.length≤1000000∧q0.ns.length≤1000000:=by have:=jm.out.len;rw [vR,mm,qo];omega
   (have eU:q1.ps.length≤1000000∧q1.ns.length≤1000000:=by have:=jm.out.len;rw [hq1,mm,qo];omega);have CL:=aa (E8 Any (w2.alloc (.cells #[.slice pp q0.ps.length pc,.slice np q0.ns.length nc] 39)) _ q0 (au.keep ⟨_,_,rfl,fE,eZ⟩ (aY.kept _)) hl0.1 hl0.2 (by rw [vR];exact jm.out.sz));(have s8:Hid (aB q0=0∧o5 q0=q1):=by unfold Hid;rw [vR,hq1];exact ⟨jm.out.te,jm.out.can⟩);have jT:Hid (vG q1=0∧(⟨(r5 q1).toArray⟩:ByteArray)=aV (uR names r)):=by unfold Hid;rw [hq1];refine ⟨by unfold vG;rw [if_neg (by simp [jm.out.Zu])],?_⟩;unfold aV;rw [jm.out.tx]
   have vJ:Hid (∀W v,au Any W v q1→Calls Tryz.prog 29 #[v] W (AJ W q1)):=fun W v h=>SV Any W v q1 h eU.1 eU.2 (by rw [hq1];exact jm.out.Zv);have bW:=aa (aG.trans aY);have yT:=aa hb3;have wZ:=aa hs3;have xk:Hid (wo.heap.size≤w2.heap.size):=aG.size;have HQ1:=aa hq1;obtain ⟨b0,b1,b2,b3⟩:=boxed hb3;clear hpe hpt fE eZ aY hb3 hs3 hl0 eU aG vR hq1 dQ hct xR z1 z2;go_wp2_with fail;generalize w2.alloc (.cells #[.slice pp q0.ps.length pc,.slice np q0.ns.length nc] 39)=w3 at *;refine CL.out.mono ?_
   rintro e w4 ⟨bE,⟨mB,-⟩ | ⟨-,cv,rfl,P4,N4,rfl,ey,eC⟩⟩
   ·exact absurd s8.out.1 mB
   rw [s8.out.2] at ey eC;obtain ⟨p4,c4,rfl,-,-⟩:=aC.open ey;obtain ⟨n4,d4,rfl,-,-⟩:=aC.open eC;have hb4:=(Below.block bE w2.heap.size (by rw [wZ.out];omega)).trans yT.out;have VA:=aa hb4;have jl:=aa (bW.out.trans bE);have Am:Hid (aj (fun b=>w3.heap.size≤b) w4 (.slice p4 q1.ps.length c4) q1.ps∧ah (fun b=>w3.heap.size≤b) w4 (.slice n4 q1.ns.length d4) q1.ns):=⟨ey,eC⟩;obtain ⟨b0,b1,b2,b3⟩:=boxed hb4;clear hb4 bE ey eC CL;have HST:=aa (dS (w:=wo) (p:=.slice p4 q1.ps.length c4) (q:=.slice n4 q1.ns.length d4) VA.out xk.out jl.out)
   go_wp2_with fail;obtain ⟨u5,s0,s1,s2⟩:=HST.out;have Ci:au (fun b=>w3.heap.size≤b) ((w4.setCell ⟨w2.heap.size,0,none⟩ (.slice p4 q1.ps.length c4)).setCell ⟨w2.heap.size,1,none⟩ (.slice n4 q1.ns.length d4)) (.agg #[.slice p4 q1.ps.length c4,.slice n4 q1.ns.length d4]) q1 :=
    ⟨_,_,rfl,aj.keep Am.out.1 fun b hb _=>s2 b (by have:=wZ.out;omega),ah.keep Am.out.2 fun b hb _=>s2 b (by have:=wZ.out;omega)⟩
   have nB:=aa Ci;have gU:=aa u5;have ZC:=aa (And.intro s0 s1);clear Ci u5 s0 s1 s2 HST Am b0 b1 b2 b3;generalize (w4.setCell ⟨w2.heap.size,0,none⟩ _).setCell ⟨w2.heap.size,1,none⟩ _=w5 at *;refine (vJ.out w5 _ (nB.out.sub fun _ _ _=>trivial)).mono ?_;rintro e w6 ⟨ew,rfl⟩;rw [jT.out.1,jT.out.2];have b0:=ew.cell ZC.out.1;have b1:=ew.cell ZC.out.2;have WH:=aa (gU.out.trans ew);have xO:=aa (nB.out.keep (ew.kept _));have Qu:=pV.out.up WH.out;have Qv:=aa Qu;obtain ⟨op,oc,rfl⟩:=Qu.form;rw [GH.out]
   (have Qv:Hid (iB w1.heap.size w6 (.slice op n oc) es):=by have h:=Qv.out;rw [GH.out] at h;exact h);have yV:Hid (au (fun b=>some b≠(Value.slice op n oc).ownBlock) w6 (.agg #[.slice p4 q1.ps.length c4,.slice n4 q1.ns.length d4]) (flat (uR names r))):=by have h:=xO.out;(have hlt:∀b,(Value.slice op n oc).ownBlock=some b→b<wo.heap.size:=fun b hb=>by have h2:=pV.out.1;rw [GH.out] at h2;exact (World.ownsRow.lt h2 b hb).2);rw [← HQ1.out];exact h.sub fun b hb _ e=>by have h1:=hlt b e.symm;have h2:=xk.out;have h3:=wZ.out;omega
   have cz:Hid (w1.heap.size≤w6.heap.size):=(NB.out.trans WH.out).size;clear Qu ew nB xO vJ;go_wp2_with (at_builtin;refine DO w6 rfl _ _ 91 rfl w1.heap.size _ 64 Tryz.underlying91 Tryz.Tm rfl (by decide) Qv.out rfl ((.slice p4 q1.ps.length c4,.slice n4 q1.ns.length d4),uR names r) rfl yV.out n GH.out (by have:=aW.out;have:=j9.out.2.1;omega) cz.out ?_;intro g8 gZ w8 bJ cD kD;have tY:=aa bJ;have gT:=aa kD;clear bJ cD kD)
   go_roundw
   case rel=>exact ⟨n+1,aW.out,by go_num,Below.trans (show Below w1.heap.size w1 w6 from NB.out.trans WH.out) gT.out,_,tY.out,by rw [fN.out,List.map_append];rfl⟩
   case measure=>have:=aW.out;simp [intOf];omega
  ·obtain rfl:n=(bB names.tail).length:=by omega
   (have i4:¬((bB names.tail).length:Int)<((bB names.tail).length:Int):=by omega);have WI:=iB.up hes (Up.refl wo);obtain ⟨op,oc,rfl⟩:=WI.form;(have xS:es.map (·.2)=(rt names.length names.tail).map (uR names):=by rw [hem,j9.out.1,List.take_length];have:rt names.length names.tail=jF names.tail:=nV _ _ _ (by simp) (Nat.le_refl _);rw [this]);have pF:es.length=(bB names.tail).length:=by have:=congrArg List.length hem;rw [List.length_map,List.length_map,j9.out.1,List.take_length] at this;rw [j9.out.1];exact this
   (have hne:es≠[]:=fun e=>by rw [e] at pF;have:=j9.out.2.2;simp at pF;omega);have Mg:=aa (Nj hes hne (by rw [pF];have:=j9.out.2.1;omega));have pV:=aa hes;have A9:=aa xS;have NB:=aa fR;clear hI hes WI hem xS fR hlt hne pF;go_wp2_with fail;refine Mg.out.mono ?_;rintro e w9 ⟨rfl,WJ,es',R9,Jm,g9,c9,ZE,Jn⟩;have si:Hid (Nw w names (.returned (.tuple #[.slice op es.length oc,.int .i64 0])) w9):=by
    have hB:Below w1.heap.size w1 w9:=Below.grown (show Below w1.heap.size w1 wo from NB.out) WJ NB.out.size fun k hk=>(World.ownsRow.lt pV.out.1 k hk).1;(have yJ:(es'.map (·.2))=bG names:=by refine uM (((R9.map (·.2)).trans (List.Perm.of_eq A9.out)).trans (kB _).symm) Jm (sO _) fun r hr=>?_;have hr2:r∈bG names:=(kB _).mem_iff.2 (A9.out ▸ (R9.map (·.2)).mem_iff.1 hr);exact (fB nv.out hr2).1.good.jg);refine ⟨?_,_,rfl,g9,c9,es',?_,yJ,Jn,?_⟩
    ·exact Up.trans bH.out hB
    ·rw [ZE,← yJ,List.length_map]
    ·intro x hx
     have h1:=pV.out.2 x (R9.mem_iff.1 hx);exact (h1.keep fun b hb hlt=>WJ.block b hlt hb).sub fun _ _ _=>trivial
   clear WJ R9 Jm ZE Jn;go_wp2_with fail;go_ret2;exact si.out
end
section
open Go.RowKit Go.Deep
structure oV (lo:Nat) (w w2 wr:World) (tv:Value) (L:List ByteArray):Prop where
 up:Up w wr
 sz:w.heap.size≤lo∧lo≤w2.heap.size∧w2.heap.size≤wr.heap.size
 own:aF w.heap.size 9 wr tv (L.map Value.string)
 blk:∀b,tv.ownBlock=some b→b<lo∨w2.heap.size≤b
 keep:∀b,lo≤b→b<w2.heap.size→wr.heap[b]? = w2.heap[b]?
section
variable {lo:Nat} {w w2 wr W:World} {tv:Value} {L:List ByteArray} {s:ByteArray} {g cap k j:Nat}
theorem oV.next (h:oV lo w w2 wr tv L) (hu:Up wr W):oV lo w w2 W tv L:=by
 obtain ⟨z1,z2,z3⟩:=h.sz;exact ⟨h.up.trans hu,⟨z1,z2,Nat.le_trans z3 hu.size⟩,h.own.fM fun b hb=>Below.block hu b (aI h.own hb).2,h.blk,fun b h1 h2=>(Below.block hu b (by omega)).trans (h.keep b h1 h2)⟩
theorem oV.app (h:oV lo w w2 wr tv L) (ho:aF w.heap.size 9 W (.slice (some ⟨g,0,none⟩) k cap) (L.map Value.string++[.string s])) (hg:wr.grownBy W tv.ownBlock) (dY:tv.ownBlock=some g∨wr.heap.size≤g):oV lo w w2 W (.slice (some ⟨g,0,none⟩) k cap) (L++[s]):=by
 have hlo:=fun b hb=>(aI h.own (b:=b) hb);obtain ⟨z1,z2,z3⟩:=h.sz;refine ⟨⟨hg.os.trans h.up.os,hg.tape.trans h.up.tape,hg.output.trans h.up.output,Nat.le_trans h.up.size hg.size,fun b hb=>?_⟩,⟨z1,z2,Nat.le_trans z3 hg.size⟩,by rw [List.map_append];exact ho,fun b hb=>?_,fun b h1 h2=>?_⟩
 ·have:=h.up.size
  exact (hg.block b (by omega) fun e=>by have:=(hlo b e.symm).1;omega).trans (h.up.block b hb)
 ·have hb:some g=some b:=hb
  injection hb with hb;subst hb;rcases dY with e | e
  ·exact h.blk g e
  ·exact .inr (Nat.le_trans z3 e)
 ·refine (hg.block b (by omega) fun e=>?_).trans (h.keep b h1 h2)
  rcases h.blk b e.symm with e | e<;>omega
theorem oV.set (h:oV lo w w2 wr tv L) (hj:j<L.length):∃g cap,tv=.slice (some ⟨g,0,none⟩) L.length cap∧wr.cell? ⟨g,j,none⟩=some (.string (gs L j))∧wr.frozen? ⟨g,j,none⟩=false∧∀x,oV lo w w2 (wr.setCell ⟨g,j,none⟩ (.string x)) tv (L.set j x):=by
 obtain ⟨g,cap,e,h1,h2,h3,h4,h5⟩:=h.own.set (j:=j) (by rw [List.length_map];exact hj);have hgd:(L.map Value.string).getD j undef=.string (gs L j):=by simp [gs,hj]
 rw [hgd] at h3;rw [List.length_map] at e;refine ⟨g,cap,e,h3,h4,fun x=>?_⟩;have cG:∀b,b≠g→(wr.setCell ⟨g,j,none⟩ (.string x)).heap[b]? = wr.heap[b]?:=fun b hb=>blk_setCell_other _ _ _ _ hb;have hbk:g<lo∨w2.heap.size≤g:=h.blk g (by rw [e];rfl);obtain ⟨z1,z2,z3⟩:=h.sz;refine ⟨Below.setCell (p:=⟨g,j,none⟩) h.up h1 _,⟨z1,z2,by rw [World.size_setCell];exact z3⟩,?_,h.blk,fun b q1 q2=>(cG b (by omega)).trans (h.keep b q1 q2)⟩;have h6:=h5 (.string x);rw [← List.map_set] at h6;exact h6
theorem oV.strs {v:Value} {T:List ByteArray} (h:oV lo w w2 wr tv L) (hT:ah (fun b=>lo≤b∧b<w2.heap.size) w2 v T):ah (fun b=>lo≤b∧b<w2.heap.size) wr v T:=ah.keep hT fun b hb _=>h.keep b hb.1 hb.2
end
def rH (xs:List ByteArray) (k:Nat) (j:ByteArray):List ByteArray:=xs.take k++j::xs.drop k
theorem GI {xs:List ByteArray} {k:Nat} {j:ByteArray}:(rH xs k j).length=xs.length+1:=by
 unfold rH;rw [List.length_append,List.length_cons,List.length_take,List.length_drop];omega
theorem Qw (xs:List ByteArray) (s:ByteArray):xs++[s]=rH xs xs.length s:=by unfold rH;simp
theorem Tn {xs:List ByteArray} {k:Nat} {j:ByteArray} (h0:0<k) (hk:k≤xs.length):gs (rH xs k j) (k - 1)=gs xs (k - 1):=by
 unfold rH gs;rw [List.getD_eq_getElem?_getD,List.getD_eq_getElem?_getD,List.getElem?_append_left (by rw [List.length_take];omega),List.getElem?_take_of_lt (by omega)]
theorem NC {xs:List ByteArray} {k:Nat} {j s:ByteArray} (hk:k≤xs.length):(rH xs k j).set k s=rH xs k s:=by
 unfold rH;rw [List.set_append,if_neg (by rw [List.length_take];omega)];have:k - (xs.take k).length=0:=by rw [List.length_take];omega
 rw [this];rfl
theorem Qx {xs:List ByteArray} {k:Nat} {j:ByteArray} (h0:0<k) (hk:k≤xs.length):(rH xs k j).set k (gs xs (k - 1))=rH xs (k - 1) (gs xs (k - 1)):=by
 rw [NC hk];unfold rH;obtain ⟨m,rfl⟩:∃m,k=m+1:=⟨k - 1,by omega⟩;have hg:gs xs (m+1 - 1)=xs[m]:=by simp [gs,show m<xs.length by omega]
 have hd:xs.drop m=xs[m]::xs.drop (m+1):=List.drop_eq_getElem_cons (by omega);rw [hg,Nat.add_sub_cancel,List.take_succ_eq_append_getElem (by omega),List.append_assoc,← hd];rfl
end
section
open Go.RowKit Go.Deep
def b7 (S:Nat→Prop) (w:World) (v:Value) (ts:List aD):Prop :=
 ∃p cap,v=.slice p ts.length cap∧ts.length≤cap∧(ts.length=0∨∃b off,p=some ⟨b,off,none⟩∧S b∧∀k,k<ts.length→∃P N,w.cell? ⟨b,off+k*2,none⟩=some P∧w.cell? ⟨b,off+k*2+1,none⟩=some N∧au S w (.agg #[P,N]) (gt ts k))
theorem b7.keep {S:Nat→Prop} {w w':World} {v:Value} {ts:List aD} (h:b7 S w v ts) (k:Kept S w w'):b7 S w' v ts:=by
 obtain ⟨p,cap,rfl,hn,h⟩:=h;refine ⟨p,cap,rfl,hn,?_⟩;rcases h with h | ⟨b,off,rfl,hS,h⟩
 ·exact .inl h
 ·refine .inr ⟨b,off,rfl,hS,fun i hi=>?_⟩
  obtain ⟨P,N,h1,h2,h3⟩:=h i hi;have hlt:b<w.heap.size:=World.block_lt_of_cell? w _ h1;have hc:∀o,w'.cell? ⟨b,o,none⟩=w.cell? ⟨b,o,none⟩:=fun o=>World.cell?_of_block (a:=⟨b,o,none⟩) (k b hS hlt);exact ⟨P,N,(hc _).trans h1,(hc _).trans h2,h3.keep k⟩
theorem cU {S:Nat→Prop} {w:World} {v:Value} {ts:List aD} (h:b7 S w v ts):∃p cap,v=.slice p ts.length cap∧ts.length≤cap:=by
 obtain ⟨p,cap,e,hn,_⟩:=h;exact ⟨p,cap,e,hn⟩
theorem b7.nil (S:Nat→Prop) (w:World):b7 S w (.slice none 0 0) []:=⟨none,0,rfl,Nat.le_refl _,.inl rfl⟩
theorem kE {S:Nat→Prop} {w:World} {p:Option Addr} {n cap:Nat} {ts:List aD} (h:b7 S w (.slice p n cap) ts) {k:Nat} (hk:k<ts.length) :
  ∃b off pp pc np nc,p=some ⟨b,off,none⟩∧w.cell? ⟨b,off+k*2,none⟩=some (.slice pp (gt ts k).ps.length pc)∧w.cell? ⟨b,off+k*2+1,none⟩=some (.slice np (gt ts k).ns.length nc)∧au S w (.agg #[.slice pp (gt ts k).ps.length pc,.slice np (gt ts k).ns.length nc]) (gt ts k):=by
 obtain ⟨q,c,e,_,h⟩:=h;injection e with e1;subst e1;rcases h with h | ⟨b,off,rfl,_,h⟩
 ·omega
 ·obtain ⟨P,N,h1,h2,h3⟩:=h k hk
  obtain ⟨P1,N1,e,hP,hN⟩:=h3;injection e with e;have e1:P=P1∧N=N1:=by simpa using e
  obtain ⟨rfl,rfl⟩:=e1;obtain ⟨pp,pc,rfl,_,_⟩:=aC.open hP;obtain ⟨np,nc,rfl,_,_⟩:=aC.open hN;exact ⟨b,off,pp,pc,np,nc,rfl,h1,h2,_,_,rfl,hP,hN⟩
abbrev kF:=(Value×Value)×aD
def uU (x:kF):List Value:=[x.1.1,x.1.2]
def kG (es:List kF):List Value:=es.flatMap uU
def vS (es:List kF) (k:Nat):kF:=es.getD k ((undef,undef),⟨[],[]⟩)
theorem Hz (es:List kF) (x:kF):kG (es++[x])=kG es++uU x:=by unfold kG;rw [List.flatMap_append];simp
theorem DC:∀(es:List kF) (k:Nat),k<es.length→(kG es)[k*2]? = some (vS es k).1.1∧(kG es)[k*2+1]? = some (vS es k).1.2
 | [],k,h=>absurd h (Nat.not_lt_zero _)
 | x::es,0,_=>by simp [kG,uU,vS]
 | x::es,k+1,h=>by
  have ih:=DC es k (by simpa using h)
  have e:(k+1)*2=k*2+1+1:=by omega
  have e2:vS (x::es) (k+1)=vS es k:=by simp [vS]
  have e3:kG (x::es)=x.1.1::x.1.2::kG es:=by simp [kG,uU]
  rw [e2,e3,e]
  simp only [List.getElem?_cons_succ]
  exact ih
def gN (base:Nat) (w:World) (v:Value) (es:List kF):Prop :=
 w.ownsRow base 39 2 v es.length (kG es)∧∀x∈es,au (fun b=>some b≠v.ownBlock) w (.agg #[x.1.1,x.1.2]) x.2
theorem gN.nil (base:Nat) (w:World):gN base w (.slice none 0 0) []:=⟨World.ownsRow_nil _ _ _ _,fun _ h=>by cases h⟩
theorem gN.up {base:Nat} {w w':World} {v:Value} {es:List kF} (h:gN base w v es) (hu:Up w w'):gN base w' v es :=
 ⟨DA h.1 fun b hb=>Below.block hu b (World.ownsRow.lt h.1 b hb).2,fun x hx=>(h.2 x hx).keep (hu.kept _)⟩
theorem gN.form {base:Nat} {w:World} {v:Value} {es:List kF} (h:gN base w v es):∃p c,v=.slice p es.length c:=by
 rcases h.1.2 with ⟨e,h0⟩ | ⟨g,cap,cur,e,_⟩
 ·exact ⟨none,0,by rw [e,h0]⟩
 ·exact ⟨_,_,e⟩
theorem Tp {es:List kF} {k:Nat} (h:k<es.length):vS es k∈es:=by simp [vS,h]
theorem gN.trees {base:Nat} {w:World} {v:Value} {es:List kF} (h:gN base w v es):b7 Any w v (es.map (·.2)):=by
 obtain ⟨ho,hT⟩:=h;have hgt:∀k,k<es.length→gt (es.map (·.2)) k=(vS es k).2:=fun k hk=>by simp [gt,vS,hk]
 rcases ho.2 with ⟨e,h0⟩ | ⟨g,cap,cur,e,hg,hc,hn,hcm,hcs,ht⟩
 ·have Eg:es.length=0:=h0
  have:es=[]:=List.eq_nil_of_length_eq_zero Eg;subst this;subst e;exact b7.nil _ _
 ·subst e
  refine ⟨_,cap,by rw [List.length_map],by rw [List.length_map];exact hn,.inr ⟨g,0,rfl,trivial,fun k hk=>?_⟩⟩;rw [List.length_map] at hk;rw [hgt k hk];obtain ⟨c0,c1⟩:=DC es k hk;refine ⟨(vS es k).1.1,(vS es k).1.2,?_,?_,(hT _ (Tp hk)).sub fun _ _ _=>trivial⟩
  ·rw [Nat.zero_add,ho.cellAt (k*2) (by omega)];exact c0
  ·rw [Nat.zero_add,ho.cellAt (k*2+1) (by omega)];exact c1
section
variable {P:Program} {ops:Array Oper} {rest:List Oper} {o:Oper} {a:Act} {Q:Exit→Act→World→Prop}
theorem kH (W:World) (hgd:o.guard=none) (s x:Operand) (t:TypeId) (ho:o.op=.call { callee:=.builtin .append,args:=#[s,x],argTypes:=#[t,t] })
  (base:Nat) (z:Value) (bytes:Nat) (ht:P.underlying t=some (.slice 39)) (hinfo:(P.info? 39).map (fun i=>(i.zero,i.size,i.bytes))=some (some z,2,bytes))
  (hz1:z.cells.size=2) (k8:bytes≤64) {v:Value} {es:List kF} (hown:gN base W v es) (hs:a.eval s=v) (G:kF)
  (hx:a.eval x=.slice (some ⟨W.heap.size,0,none⟩) 1 1) (hu:au (fun b=>some b≠v.ownBlock) W (.agg #[G.1.1,G.1.2]) G.2) (n:Nat) (mE:es.length=n) (hn:n≤1000000) (hbase:base≤W.heap.size)
  (h:∀g cap w',gN base w' (.slice (some ⟨g,0,none⟩) (n+1) cap) (es++[G])→W.grownBy w' v.ownBlock→Below base W w'→wpList P ops Q rest (a.put o.dst (.slice (some ⟨g,0,none⟩) (n+1) cap)) w') :
  wpList P ops Q (o::rest) a (W.alloc (.cells #[G.1.1,G.1.2] 39)):=by
 subst mE;obtain ⟨i,hi,hzz⟩:=Option.map_eq_some_iff.1 hinfo;simp only [Prod.mk.injEq] at hzz;obtain ⟨hz,hs1,hb⟩:=hzz;obtain ⟨hown,hrows⟩:=hown;have h1:G.1.1.oneCell'=true∧G.1.2.oneCell'=true:=by
  obtain ⟨P1,N1,e,hP,hN⟩:=hu;injection e with e;have e1:G.1.1=P1∧G.1.2=N1:=by simpa using e
  obtain ⟨p,c,e2,_⟩:=aC.open hP;obtain ⟨q,d,e3,_⟩:=aC.open hN;rw [e1.1,e1.2,e2,e3];exact ⟨rfl,rfl⟩
 refine wpList_append_lies _ hgd s x t ho base 39 i z 2 bytes ht hi hz hs1 hb hz1 (by omega) v es.length (kG es) hs (hown.alloc _) ⟨W.heap.size,0,none⟩ 1 1 (uU G) hx rfl ?_ (fun q hq=>by
  unfold uU at hq;rcases List.mem_cons.1 hq with e | hq
  ·subst e;exact h1.1
  ·rw [List.mem_singleton.1 hq];exact h1.2) (by omega)
  (by unfold maxLen;omega) ?_ (by simp;omega) _ rfl fun g cap w' h2 h3 h4 _=>?_
 ·intro j u' hj
  match j with
  | 0 =>
   (obtain rfl:G.1.1=u':=by simpa [uU] using hj);exact aK W _ _ 0
  | 1 =>
   (obtain rfl:G.1.2=u':=by simpa [uU] using hj);exact aK W _ _ 1
  | j+2=>simp [uU] at hj
 ·have:(es.length+1)*bytes≤(es.length+1)*64:=Nat.mul_le_mul_left _ k8
  omega
 ·have hg:=gm h3
  have zb:∀b:Nat,some b≠v.ownBlock→b<W.heap.size→some b≠(Value.slice (some ⟨g,0,none⟩) (es.length+1) cap).ownBlock:=fun b hb hlt e=>by
   simp only [Value.ownBlock,Option.some.injEq] at e;rcases h4 with h4 | h4
   ·exact hb (by rw [h4,e])
   ·rw [World.size_alloc] at h4;omega
  have hkeep:∀ {u':Value} {y':aD},au (fun b=>some b≠v.ownBlock) W u' y'→au (fun b=>some b≠(Value.slice (some ⟨g,0,none⟩) (es.length+1) cap).ownBlock) w' u' y':=fun hi'=>by obtain ⟨P1,N1,e,hP,hN⟩:=hi';have k:Kept (fun b=>some b≠v.ownBlock∧b<W.heap.size) W w':=fun b hb hlt=>hg.block b hlt hb.1;exact ⟨P1,N1,e,(aj.keep (hP.sub fun b hb hlt=>⟨hb,hlt⟩) k).sub fun b hb _=>zb b hb.1 hb.2,(ah.keep (hN.sub fun b hb hlt=>⟨hb,hlt⟩) k).sub fun b hb _=>zb b hb.1 hb.2⟩
  refine h g cap w' ⟨by rw [List.length_append,Hz];exact h2,fun x hx=>?_⟩ hg (Below.grown (Below.refl _ _) hg hbase fun k hk=>(World.ownsRow.lt hown k hk).1);rcases List.mem_append.1 hx with hx | hx
  ·exact hkeep (hrows x hx)
  ·rw [List.mem_singleton.1 hx];exact hkeep hu
end
theorem Tryz.infoTree:(Tryz.prog.info? 39).map (fun i=>(i.zero,i.size,i.bytes))=some (some (.agg #[.slice none 0 0,.slice none 0 0]),2,48):=by kernel_rfl
end
section
open Go.ChangeShapes Go.WideShapes Go.ChangeAt Go.RowKit Go.Deep
def KP (l:List aD):Prop:=l.length≤9223372036854775807∧∀k,(gt l k).ps.length≤9223372036854775807∧(gt l k).ns.length≤9223372036854775807∧∀j,(gs (gt l k).ns j).size≤9223372036854775807
instance:Inhabited aD:=⟨⟨[],[]⟩⟩
section
variable {H:Type} {enc:TypeId×Value→H} {W:World}
theorem H7 {fuel:Nat} {v:Value} {x:DataW H×List MemPlace} (h:DataW.trod enc Tryz.prog W 0 (fun _=>true) true fuel 33 [v]=some x):∃l:List aD,b7 Any W v l∧KP l:=by
 rcases open_slice Tryz.underlying33 h with ⟨hcs,_⟩ | ⟨a,l,c,m,n,D,Pl,hcs,_,hl,hm,hmm,_,hx⟩
 ·obtain rfl:v=.slice none 0 0:=by simpa using hcs
  exact ⟨[],b7.nil _ _,by simp,fun k=>by simp [gt,gs]⟩
 ·obtain rfl:v=.slice (some a) l c:=by simpa using hcs
  simp only [if_true] at hmm;have hC:Tryz.prog.cellsOf 39=2:=by kernel_rfl
  have hCI:Tryz.prog.cellsOf 26=1:=by kernel_rfl
  have hCS:Tryz.prog.cellsOf 22=1:=by kernel_rfl
  rw [hC] at hx;have hone:∀i,i<l→∃t:aD,(∃P N,W.cell? (a.add (i*2))=some P∧W.cell? (a.add (i*2+1))=some N∧au Any W (.agg #[P,N]) t)∧t.ps.length≤9223372036854775807∧t.ns.length≤9223372036854775807∧∀j,(gs t.ns j).size≤9223372036854775807:=fun i hi=>by
   obtain ⟨cs',h1,h2⟩:=hx i (by omega);obtain ⟨_,hlen,hcell⟩:=World.cells?_some h1
   match cs',hlen with
   | [c0,c1],_ =>
    obtain ⟨y0,y1,n',_,_,t0,t1⟩:=trod_struct2 Tryz.underlying39 h2;(have t0':DataW.trod enc Tryz.prog W 0 (fun _=>true) true n' 26 [c0]=some y0:=by simpa [hCI] using t0);(have t1':DataW.trod enc Tryz.prog W 0 (fun _=>true) true n' 22 [c1]=some y1:=by simpa [hCS] using t1);obtain ⟨ps,hp,hpl⟩:=JR t0';obtain ⟨ns,hn,hnl,vg⟩:=Ab t1';have k0:=hcell 0 (by omega);have k1:=hcell 1 (by omega);rw [add_add] at k0 k1;exact ⟨⟨ps,ns⟩,⟨c0,c1,by simpa using k0,by simpa using k1,c0,c1,rfl,hp,hn⟩,hpl,hnl,vg⟩
  obtain ⟨f,hf⟩:=choose_lt hone;have hlen:((List.range l).map f).length=l:=by simp
  have ZF:∀k,k<l→gt ((List.range l).map f) k=f k:=fun k hk=>by simp [gt,hk]
  refine ⟨(List.range l).map f,⟨some a,c,by rw [hlen],by rw [hlen];exact hl,?_⟩,by rw [hlen];exact qj (Nat.le_trans hl hm),fun k=>?_⟩
  ·by_cases h0:l=0
   ·exact .inl (by rw [hlen];exact h0)
   ·obtain ⟨b,off,spot⟩:=a
    (have hspot:spot=none:=by obtain ⟨P,N,h1,_⟩:=(hf 0 (by omega)).1;have:=World.cell?_spot h1;simpa [Addr.add] using this);subst hspot;refine .inr ⟨b,off,rfl,trivial,fun k hk=>?_⟩;rw [hlen] at hk;rw [ZF k hk];obtain ⟨⟨P,N,h1,h2,h3⟩,_⟩:=hf k hk;simp only [add_plain] at h1 h2;exact ⟨P,N,h1,by rw [Nat.add_assoc];exact h2,h3⟩
  ·by_cases hk:k<l
   ·rw [ZF k hk];exact (hf k hk).2
   ·have:gt ((List.range l).map f) k=⟨[],[]⟩:=by simp [gt,hk]
    rw [this];simp [gs]
structure tZ (W:World) (v:Value) (names:List ByteArray) (states:List (List Int)) (ts:List aD) (sc:Int):Prop where
 ex:∃V0 V1 V2,v=.agg #[V0,V1,V2,.int .i64 sc]∧ah Any W V0 names∧aQ Any W V1 states∧b7 Any W V2 ts
 n:names.length≤9223372036854775807∧∀k,(gs names k).size≤9223372036854775807
 s:states.length≤9223372036854775807∧∀k,(gl states k).length≤9223372036854775807
 t:KP ts
 sc:-9223372036854775808≤sc∧sc≤9223372036854775807
theorem ND {v:Value} {d:DataW H} {p:List MemPlace} {base:Nat} (hv:Value.okWide Tryz.prog W .any base 69 v) (h:DataW.Trod enc Tryz.prog W 0 (fun _=>true) true 69 v d p) :
  ∃names states ts sc,tZ W v names states ts sc:=by
 obtain ⟨c0,c1,c2,c3,y0,y1,y2,y3,m,rfl,_,_,h0,h1,h2,h3⟩:=Joins.open_agg4 Tryz.underlying69 (by kernel_rfl) (by kernel_rfl) hv h;obtain ⟨ns,hn,hnl,vg⟩:=Ab h0;obtain ⟨xs,hx,hxl,hxs⟩:=JS h1;obtain ⟨ts,ht,hts⟩:=H7 h2;obtain ⟨n3,e3,_,w3⟩:=DataW.trod_int Tryz.underlying3 h3;obtain rfl:c3=.int .i64 n3:=by simpa using e3
 exact ⟨ns,xs,ts,n3,⟨⟨c0,c1,c2,rfl,hn,hx,ht⟩,⟨hnl,vg⟩,⟨hxl,hxs⟩,hts,bounds_i64 w3⟩⟩
end
end
end Go.Proofs.YthgabkgmkolobaaGreat
