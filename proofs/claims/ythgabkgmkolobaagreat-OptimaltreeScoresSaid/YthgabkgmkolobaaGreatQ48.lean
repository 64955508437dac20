/- Plain and map help for optimaltree.Best. Reference 34: score, Score. -/
import Derived.Test.YthgabkgmkolobaaGreatQ47
set_option maxRecDepth 100000
namespace Go.Proofs.YthgabkgmkolobaaGreat
section
open Go.RowKit Go.Deep
def gR (names:List ByteArray) (k:Nat):RT:=(bG names).getD k (.node ByteArray.empty [])
theorem BZ {names:List ByteArray} {k:Nat} (h:k<(bG names).length):gt (allT names) k=flat (gR names k):=by
 unfold allT gR gt;simp [h]
theorem GP {names:List ByteArray} {k:Nat} (h:k<(bG names).length):gR names k∈bG names:=by simp [gR,h]
theorem QF {names:List ByteArray} (hn:gY names) {j k:Nat} (hj:j<(bG names).length) (hk:k<(bG names).length) (e:aV (gR names j)=aV (gR names k)):gR names j=gR names k:=by
 have e1:bT (gR names j)=bT (gR names k):=by have:=congrArg (fun b:ByteArray=>b.data.toList) e;simpa [aV] using this
 exact MS (fB hn (GP hj)).1.good.jg (fB hn (GP hk)).1.good.jg (List.append_cancel_right e1)
def fH (names:List ByteArray) (states:List (List Int)) (k:Nat):Int:=bZ (gt (allT names) k) names states
def scK (names:List ByteArray) (states:List (List Int)):Nat→List (ByteArray×Value)
 | 0=>[]
 | n+1=>qQ (scK names states n) (aV (gR names n)) (.int .i64 (fH names states n))
theorem GQ (names:List ByteArray) (states:List (List Int)):∀n,uq (scK names states n)
 | 0=>by unfold uq scK;simp
 | n+1=>LX (GQ names states n) _ _
theorem GR {names:List ByteArray} (hn:gY names) (states:List (List Int)) {k:Nat} (hk:k<(bG names).length):∀ {n:Nat},n≤(bG names).length→k<n→(scK names states n).lookup (aV (gR names k))=some (.int .i64 (fH names states k))
 | 0,_,h=>absurd h (Nat.not_lt_zero _)
 | n+1,hle,h=>by
  rw [scK,Ho]
  split
  ·rename_i e
   have e2:=QF hn hk (show n<_ by omega) e
   unfold fH
   rw [BZ hk,BZ (show n<_ by omega),e2]
  ·rename_i e
   have:k≠n:=fun e3=>e (by rw [e3])
   exact GR hn states hk (by omega) (by omega)
def pg (names:List ByteArray) (states:List (List Int)) (n:Nat):List aD:=((allT names).take n).filter fun t=>decide (bZ t names states=gL names states)
theorem NR {names:List ByteArray} (states:List (List Int)) {n:Nat} (h:n<(allT names).length):pg names states (n+1)=pg names states n++if fH names states n=gL names states then [gt (allT names) n] else []:=by
 unfold pg fH;rw [yg h,List.filter_append];congr 1;by_cases e:bZ (gt (allT names) n) names states=gL names states
 ·rw [if_pos e];simp [e]
 ·rw [if_neg e];simp [e]
theorem QG (names:List ByteArray) (states:List (List Int)):pg names states (allT names).length=ox names states:=by
 unfold pg ox;rw [List.take_length]
theorem Bb {names:List ByteArray} {states:List (List Int)} (hc:mZ names states) {n:Nat} (h:n<(allT names).length):0≤fH names states n∧fH names states n≤409600000:=by
 have ho:=(yc hc.nm (AX h)).1;have h1:=tU (f:=fun p=>bu (gt (allT names) n) (dO (gt (allT names) n) names states p) (aS 16)) (n:=(gl states 0).length) fun p hp=>⟨qz (r8 hc ho hp),wu (r8 hc ho hp)⟩;have h2:=(A5 hc.ag).2;unfold fH bZ;omega
def eX (names:List ByteArray) (states:List (List Int)) (n:Nat):Int:=mnK (fH names states) n
theorem Bc {names:List ByteArray} {states:List (List Int)} (hc:mZ names states):∀ {n:Nat},n≤(allT names).length → -1≤eX names states n∧eX names states n≤409600000
 | 0,_=>by unfold eX mnK;omega
 | n+1,h=>by
  have h1:=Bc hc (n:=n) (by omega)
  have h2:=Bb hc (n:=n) h
  unfold eX at h1 ⊢
  rw [Qd]
  split<;>omega
theorem uW (names:List ByteArray) (states:List (List Int)) (n:Nat):eX names states (n+1)=if eX names states n<0∨fH names states n<eX names states n then fH names states n else eX names states n:=rfl
theorem Tt (names:List ByteArray) (states:List (List Int)):eX names states (allT names).length=gL names states:=rfl
end
section
open Go.RowKit Go.Deep
set_option maxHeartbeats 8000000 in
theorem Bd (S:Nat→Prop) (w:World) (v vn vs:Value) (t:aD) (names:List ByteArray) (states:List (List Int)) (hT:au S w v t) (ho:zI t names) (hz:∀k,(gs t.ns k).size≤70000) (h:ah S w vn names) (hS:aQ S w vs states) (hc:mZ names states) :
  Calls Tryz.prog 104 #[v,vn,vs] w fun e w'=>e=.returned (.int .i64 (bZ t names states))∧Up w w':=by
 have ht:=ho.te;obtain ⟨hp1,xh,hnl,hok,-⟩:=aJ ht;have hlv:=jH t.ns;obtain ⟨P,N,rfl,hP,hN⟩:=hT;obtain ⟨np,nc,rfl,-,-⟩:=aC.open hN;have hN:ah S w (.slice np t.ns.length nc) t.ns:=hN;obtain ⟨pp,pc,rfl,-,-⟩:=aC.open hP;have hP:aj S w (.slice pp t.ps.length pc) t.ps:=hP;obtain ⟨mp,mc,rfl,-,-⟩:=aC.open h;have h:ah S w (.slice mp names.length mc) names:=h;obtain ⟨sp,sc,rfl,-,-⟩:=bS hS;obtain ⟨Nl,Nn⟩:=DX hc.ag;obtain ⟨Gx,Np⟩:=A5 hc.ag;have aO:Up w (w.alloc (.cells #[.slice pp t.ps.length pc,.slice np t.ns.length nc] 39)):=Up.alloc _ _
 obtain ⟨q0,q1,-,-⟩:=boxed (ek (w:=w) (P:=.slice pp t.ps.length pc) (N:=.slice np t.ns.length nc) (T:=39));have dw:au S (w.alloc (.cells #[.slice pp t.ps.length pc,.slice np t.ns.length nc] 39)) (.agg #[.slice pp t.ps.length pc,.slice np t.ns.length nc]) t:=⟨_,_,rfl,aj.keep hP (aO.kept S),ah.keep hN (aO.kept S)⟩;have oI:=aa (yP S _ _ t dw (by omega) (by omega) hz);have xx:=aa dw;have Dw:=aa (ah.keep hN (aO.kept S));have Da:=aa (ah.keep h (aO.kept S));have jW:=aa (aQ.keep hS (aO.kept S));have bH:=aa aO
 have si:Hid (∀W v u st,au S W v t→aj Any W u st→st.length≤64→Calls Tryz.prog 144 #[v,u] W (Aj W t st)):=fun W v u st h1 h2 h3=>Pd Any W v u t st (h1.sub fun _ _ _=>trivial) h2 (by omega) (by omega) hz (by omega);have rG:=aa Nn;have tR:=aa (And.intro Nl (And.intro Gx Np));have dm:Hid ((aq t.ns).length≤64∧t.ns.length≤64):=by unfold Hid;omega
 have Dy:=aa hc.len;have Nq:Hid (∀p,p<(gl states 0).length→bu t (dO t names states p) (aS 16)≤100000∧0≤bu t (dO t names states p) (aS 16)∧cE t (dO t names states p) (aS 16)=0):=fun p hp=>by have hv:=r8 hc ho hp;exact ⟨wu hv,qz hv,hv.par⟩
 have R7:Hid (∀j,j<(aq t.ns).length→∃n b:Nat,gi (aq t.ns) j=(n:Int)∧n<t.ns.length∧fh names (gs t.ns n)=(b:Int)∧b<names.length):=fun j hj=>by obtain ⟨v,hv,vp,hv0⟩:=lN hj;obtain ⟨b,hb,_,e⟩:=Ge ho (show v<t.ps.length by omega) hv0;exact ⟨v,b,hv,vp,e,hb⟩
 have vH:=aa ht;have lD:Hid (names.length≤1000000):=by have:=hc.nm.hi;unfold Hid;omega
 clear hP hN h hS aO hz dw hc ht Nn Nl Gx Np hok hp1 xh hnl hlv ho
 go_enter Tryz.func104,Tryz.ntmps104
 go_wp2_with fail;generalize w.alloc (.cells #[.slice pp t.ps.length pc,.slice np t.ns.length nc] 39)=w1 at *;refine oI.out.mono ?_;rintro e w2 ⟨hb,⟨h0,-⟩ | ⟨-,lv,rfl,hl⟩⟩
 ·exact absurd vH.out h0
 obtain ⟨lp,lc,rfl,-,-⟩:=aC.open hl;have hl:aj _ w2 (.slice lp (aq t.ns).length lc) (aq t.ns):=hl;have aG:Up w1 w2:=hb;have HL:=aa hl;have aP:=aa (bH.out.trans aG);have iu:=aa (xx.out.keep (aG.kept S));have jP:=aa (ah.keep Dw.out (aG.kept S));have yL:=aa (ah.keep Da.out (aG.kept S));have dP:=aa (jW.out.keep (aG.kept S));have HQ:=aa (And.intro (aG.cell q0) (aG.cell q1));obtain ⟨sb,so,s0,s1,rfl,hc0,gP⟩:=eM dP.out tR.out.1;rw [Nat.add_zero] at hc0;have eN:=aa hc0
 have i1:(0:Int)<(states.length:Int):=by have:=tR.out.1;omega
 clear hl hb aG oI xx Dw Da jW q0 q1 gP bH vH;have vQ:Hid (∀n:Nat,n≤(gl states 0).length→0≤bD (fun p=>bu t (dO t names states p) (aS 16)) n∧bD (fun p=>bu t (dO t names states p) (aS 16)) n≤100000*n):=fun n hn=>tU fun p hp=>by obtain ⟨h1,h2,_⟩:=Nq.out p (by omega);exact ⟨h2,h1⟩
 have nu:Hid (∀n:Nat,bD (fun p=>bu t (dO t names states p) (aS 16)) (n+1)=bD (fun p=>bu t (dO t names states p) (aS 16)) n+bu t (dO t names states n) (aS 16)):=fun n=>rfl;have Gy:Hid (bZ t names states=bD (fun p=>bu t (dO t names states p) (aS 16)) (gl states 0).length):=rfl;generalize hF:(fun n=>bD (fun p=>bu t (dO t names states p) (aS 16)) n)=F at *;have tV:∀n,bD (fun p=>bu t (dO t names states p) (aS 16)) n=F n:=fun n=>by rw [← hF]
 have Wv:Hid (F 0=0):=by unfold Hid;rw [← tV];rfl
 have vQ:Hid (∀n:Nat,n≤(gl states 0).length→0≤F n∧F n≤100000*n):=fun n hn=>by rw [← tV];exact vQ.out n hn
 have nu:Hid (∀n:Nat,F (n+1)=F n+bu t (dO t names states n) (aS 16)):=fun n=>by rw [← tV,← tV];exact nu.out n
 have Gy:Hid (bZ t names states=F (gl states 0).length):=by unfold Hid;rw [← tV];exact Gy.out
 clear hF tV;go_wp2_with fail;clear hc0
 go_loopw [9,10,11,12,13,14] (fun s i _ _ _ _ wr=>∃n:Nat,n≤(gl states 0).length∧i=.int .i64 n∧s=.int .i64 (F n)∧Hid (Up w2 wr)) (fun _ i _ _ _ _ _=>(gl states 0).length - (intOf i).toNat)
 case atStart=>exact ⟨0,Nat.zero_le _,rfl,by rw [Wv.out],Up.refl _⟩
 case round =>
  obtain ⟨n,hn,rfl,rfl,hU⟩:=hrel;obtain ⟨wo,rfl⟩:∃wo:World,wo=wr:=⟨_,rfl⟩;have hc0:=hU.out.cell eN.out;by_cases hlt:n<(gl states 0).length
  ·have i2:(n:Int)<((gl states 0).length:Int):=by omega
   (have i3:(n:Int)<4096:=by have:=tR.out.2.2;omega);(have i4:(0:Int)≤(n:Int):=by omega);have nw:=vQ.out n hn;have hf2:=vQ.out (n+1) hlt;rw [nu.out n] at hf2;obtain ⟨Gz,hv2,hv3⟩:=Nq.out n hlt;have HV:=aa (And.intro nw (And.intro hf2 (And.intro Gz (And.intro hv2 hv3))));have ud:=Up.alloc wo (.cells #[] 3);have tW:Hid (aF wo.heap.size 3 (wo.alloc (.cells #[] 3)) (.slice (some ⟨wo.heap.size,0,none⟩) 0 0) ((jf t names (cB states n) 0).map (Value.int .i64))∧Up wo (wo.alloc (.cells #[] 3))):=⟨aF.made wo 3,ud⟩;clear nw hf2 Gz hv2 hv3 ud;go_wp2_with fail;clear hc0
   go_loopw [11,12] (fun o i wr=>∃j:Nat,j≤(aq t.ns).length∧i=.int .i64 j∧Hid (aF wo.heap.size 3 wr o ((jf t names (cB states n) j).map (Value.int .i64))∧Up wo wr)) (fun _ i _=>(aq t.ns).length - (intOf i).toNat)
   case atStart=>exact ⟨0,Nat.zero_le _,rfl,tW.out⟩
   case round =>
    obtain ⟨j,hj,rfl,hI⟩:=hrel;obtain ⟨wi,rfl⟩:∃wi:World,wi=wr:=⟨_,rfl⟩;obtain ⟨hA,dK⟩:=hI.out;have yX:=hU.out.trans dK;by_cases hlj:j<(aq t.ns).length
    ·obtain ⟨m,b,hb1,hb0,hb2,hb3⟩:=R7.out j hlj
     obtain ⟨xb,xo,rfl,kR⟩:=bQ (aj.keep HL.out (yX.kept _)) hlj;rw [hb1] at kR;obtain ⟨tb,to',rfl,hcs⟩:=bI (ah.keep jP.out (yX.kept S)) hb0;(have lq:b<states.length:=by rw [Dy.out];exact hb3);obtain ⟨rb,ro,r0,r1,er,rS,hir⟩:=eM (aQ.keep dP.out (yX.kept S)) lq;injection er with er;injection er with Nr Ns;subst Nr;subst Ns;rw [(rG.out b lq).1] at rS;obtain ⟨yb,yo,rfl,Ww⟩:=bQ hir (k:=n) (by rw [(rG.out b lq).1];exact hlt)
     (have fN:Hid ((jf t names (cB states n) (j+1)).map (Value.int .i64)=(jf t names (cB states n) j).map (Value.int .i64)++[.int .i64 (gi (gl states b) n)]):=by unfold Hid;rw [Dr,List.map_append,hb1,Int.toNat_natCast,hb2,Int.toNat_natCast,AW _ _ lq];rfl);have s5:Hid (∀W,Up wi W→Calls Tryz.prog 143 #[.slice mp names.length mc,.string (gs t.ns m)] W fun e w''=>e=.returned (.int .i64 (b:Int))∧W=w''):=fun W hW=>by have h:=uS S W (.slice mp names.length mc) names (gs t.ns m) (ah.keep yL.out ((yX.trans hW).kept S)) lD.out;rw [hb2] at h;exact h
     (have eO:Hid (((jf t names (cB states n) j).map (Value.int .i64)).length=j):=by unfold Hid;rw [List.length_map,kC]);have hq1:=yX.cell HQ.out.2;obtain ⟨V,hV⟩:∃V,(jf t names (cB states n) j).map (Value.int .i64)=V:=⟨_,rfl⟩;rw [hV] at hA fN eO;clear hV;have HA:=aa hA;have Jo:=aa dK;have vL:=aa hlj;have hsz:=dK.size;(have k1:(0:Int)≤(j:Int):=by omega);(have k2:(j:Int)<((aq t.ns).length:Int):=by omega);(have k3:(j:Int)<64:=by have:=dm.out;omega);(have k4:(0:Int)≤(b:Int):=by omega);have k5:(b:Int)<(states.length:Int):=by omega
     (have k6:(0:Int)≤(m:Int):=by omega);(have k7:(m:Int)<(t.ns.length:Int):=by omega);have n1:j<(aq t.ns).length:=hlj;have n2:b<states.length:=lq;have n3:m<t.ns.length:=hb0;have n4:n<(gl states 0).length:=hlt;generalize gi (gl states b) n=y at *;generalize gs t.ns m=nm at *;clear hI hA dK hir hb1 hb2
     have hall:∀W,Up wi W→W.cell? ⟨w.heap.size,1,none⟩=some (.slice (some ⟨tb,to',none⟩) t.ns.length nc)∧W.cell? ⟨xb,xo+j,none⟩=some (.int .i64 (m:Int))∧W.cell? ⟨tb,to'+m,none⟩=some (.string nm)∧W.cell? ⟨sb,so+b,none⟩=some (.slice (some ⟨yb,yo,none⟩) (gl states 0).length r1)∧W.cell? ⟨yb,yo+n,none⟩=some (.int .i64 y):=fun W hW=>⟨hW.cell hq1,hW.cell kR,hW.cell hcs,hW.cell rS,hW.cell Ww⟩;have za:=aa hall;clear hall;go_wp2_with fail
     refine dG (by kernel_rfl) 19 (fun W=>W.cell? ⟨w.heap.size,1,none⟩=some (.slice (some ⟨tb,to',none⟩) t.ns.length nc)∧W.cell? ⟨xb,xo+j,none⟩=some (.int .i64 (m:Int))∧W.cell? ⟨tb,to'+m,none⟩=some (.string nm)∧W.cell? ⟨sb,so+b,none⟩=some (.slice (some ⟨yb,yo,none⟩) (gl states 0).length r1)∧W.cell? ⟨yb,yo+n,none⟩=some (.int .i64 y)) (za.out _ (Up.drewN wi 1)) (fun hS=>?_);simp only [List.size_toArray,List.length_cons,List.length_nil,Nat.reduceAdd,Array.replicate_succ,Array.replicate_zero,List.push_toArray,List.nil_append,List.cons_append];refine af.tk 0 hS ?_
     (try simp only [Act.put,ay,az,aA]);refine af.tk 1 hS ?_;(try simp only [Act.put,ay,az,aA]);refine af.tk 2 hS ?_;(try simp only [Act.put,ay,az,aA]);refine af.tk 3 hS ?_;(try simp only [Act.put,ay,az,aA]);refine af.tk 4 hS ?_;(try simp only [Act.put,ay,az,aA]);refine af.tk 5 hS ?_
     (try simp only [Act.put,ay,az,aA]);refine af.tk 6 hS ?_;(try simp only [Act.put,ay,az,aA]);refine af.tk 7 hS ?_;(try simp only [Act.put,ay,az,aA]);refine af.tk 8 hS ?_;(try simp only [Act.put,ay,az,aA]);refine af.tk 9 hS ?_;(try simp only [Act.put,ay,az,aA]);refine af.tk 10 hS ?_
     (try simp only [Act.put,ay,az,aA]);refine af.tk 14 hS ?_;(try simp only [Act.put,ay,az,aA]);refine af.step (i:=11) rfl (by kernel_rfl) (fun K' hK=>?_);go_simp;refine (s5.out _ (Up.drewN wi 1)).mono ?_;rintro e w3 ⟨rfl,rfl⟩;refine hK.out _ _ (fun _=>za.out _ (Up.drewN wi 1)) (fun hS=>?_);replace hS:=hS ⟨12,by decide,rfl⟩;(try simp only [ay,az,aA]);refine af.tk 12 hS ?_
     (try simp only [Act.put,ay,az,aA]);refine af.tk 13 hS ?_;(try simp only [Act.put,ay,az,aA]);refine af.tk 15 hS ?_;(try simp only [Act.put,ay,az,aA]);refine af.tk 16 hS ?_;(try simp only [Act.put,ay,az,aA]);refine af.step (i:=17) rfl (by kernel_rfl) (fun K' hK=>?_);go_simp;have aY:=(Up.drewN wi 1).trans (Up.alloc (wi.drewN 1) (.cells #[.int .i64 y] 3))
     have ZX:=aa (SQ HA.out aY);have HC9:Hid (((wi.drewN 1).alloc (.cells #[.int .i64 y] 3)).cell? ⟨wi.heap.size,0,none⟩=some (.int .i64 y)):=aK (wi.drewN 1) #[.int .i64 y] 3 0;have ZY:Hid (wo.heap.size≤((wi.drewN 1).alloc (.cells #[.int .i64 y] 3)).heap.size):=Nat.le_trans hsz aY.size;have ZZ:=aa aY;clear aY;refine hK.out _ _ (fun _=>za.out _ ZZ.out) (fun hS=>?_);(try simp only [ay,az,aA]);refine af.step (i:=18) rfl (by kernel_rfl) (fun K' hK=>?_)
     refine eV (by rfl) _ _ _ (by rfl) wo.heap.size 3 _ 8 Tryz.underlying26 Tryz.fI (by rfl) (by decide) (by rfl) ZX.out (.int .i64 y) wi.heap.size (by rfl) HC9.out (by rfl) (by rw [eO.out];omega) ZY.out ?_;intro g8 gZ w8 bJ cD fS hbe8;have tY:=aa bJ;have gT:Hid (Up wo w8):=Below.grown (Jo.out.trans ZZ.out) cD ZY.out fun k hk=>(aI ZX.out hk).1;clear bJ cD fS hbe8;refine hK.out _ _ (aM (by kernel_rfl)) (fun hS=>?_);try simp only [Act.put,ay,az,aA]
     refine af.step (i:=19) rfl (by kernel_rfl) (fun K' hK=>?_);go_simp;refine hK.out _ _ (aM (by kernel_rfl)) (fun hS=>?_);refine af.done (by kernel_rfl) ?_;go_wp2_with fail
     go_roundw
     case rel=>exact ⟨j+1,vL.out,by go_num,by rw [fN.out];exact tY.out,gT.out⟩
     case measure=>have:=vL.out;simp [intOf];omega
    ·obtain rfl:j=(aq t.ns).length:=by omega
     obtain ⟨op,oc,rfl,-⟩:=hA.form (n:=(aq t.ns).length) (by rw [List.length_map,kC]);have Nt:=aa (si.out wi _ (.slice op (aq t.ns).length oc) (dO t names states n) (iu.out.keep (yX.kept S)) (hA.ints.sub fun _ _ _=>trivial) (by unfold dO;rw [kC];exact dm.out.1));have q0:=yX.cell HQ.out.1;have q1:=yX.cell HQ.out.2;have Nu:=aa yX;have wI:=aa (nu.out n);clear hI hA dK hlj hj yX;obtain ⟨nw,hf2,Gz,hv2,hv3⟩:=HV.out;have Wx:=aa hv3;clear hv3;generalize F n=fn at *;go_wp2_with fail;refine Nt.out.mono ?_;rintro e w9 ⟨oT,rfl⟩
     have Cz:=aa (Nu.out.trans oT);rw [Wx.out];clear oT Nt;generalize bu t (dO t names states n) (aS 16)=z at *;(have R8:fn+z≤409600000∧0≤fn+z:=by constructor<;>omega);go_wp2_with fail
     go_roundw
     case rel=>exact ⟨n+1,by omega,by go_num,by rw [wI.out],Cz.out⟩
     case measure=>simp [intOf];omega
  ·obtain rfl:n=(gl states 0).length:=by omega
   have dF:Hid (Ending.returned (.int .i64 (F (gl states 0).length))=Ending.returned (.int .i64 (bZ t names states))∧Up w wo):=⟨by rw [Gy.out],aP.out.trans hU.out⟩;clear hlt;go_wp2_with fail;go_ret;exact dF.out
set_option maxHeartbeats 2000000 in
theorem Ih (S:Nat→Prop) (w:World) (v vn vs:Value) (t:aD) (names:List ByteArray) (states:List (List Int)) (hT:au S w v t) (hp:t.ps.length≤1000000) (hnt:t.ns.length≤1000000) (hz:∀k,(gs t.ns k).size≤70000) (h:ah S w vn names) (hn:names.length≤1000000) (I7:∀k,(gs names k).size≤70000) (hS:aQ S w vs states) (jA:states.length≤1000000) (hr:∀k,(gl states k).length≤1000000) (h5:names.length≤5∨7<names.length) :
  Calls Tryz.prog 42 #[v,vn,vs] w (fG w t names states):=by
 have HZ:=aa hz;obtain ⟨P,N,rfl,hP,hN⟩:=hT;obtain ⟨np,nc,rfl,-,-⟩:=aC.open hN;have hN:ah S w (.slice np t.ns.length nc) t.ns:=hN;obtain ⟨pp,pc,rfl,-,-⟩:=aC.open hP;have hP:aj S w (.slice pp t.ps.length pc) t.ps:=hP;obtain ⟨mp,mc,rfl,-,-⟩:=aC.open h;have h:ah S w (.slice mp names.length mc) names:=h;obtain ⟨sp,sc,rfl,-,-⟩:=bS hS;have kT:Up w (w.alloc (.cells #[.slice pp t.ps.length pc,.slice np t.ns.length nc] 39)):=Up.alloc _ _;obtain ⟨q0,q1,-,-⟩:=boxed (ek (w:=w) (P:=.slice pp t.ps.length pc) (N:=.slice np t.ns.length nc) (T:=39))
 have HT:Hid (au S (w.alloc (.cells #[.slice pp t.ps.length pc,.slice np t.ns.length nc] 39)) (.agg #[.slice pp t.ps.length pc,.slice np t.ns.length nc]) t):=⟨_,_,rfl,aj.keep hP (kT.kept S),ah.keep hN (kT.kept S)⟩;have HN:=aa (ah.keep h (kT.kept S));have HS:=aa (aQ.keep hS (kT.kept S));have dr:=aa (A6 S _ _ _ names states HN.out hn I7 HS.out jA hr);have yB:=aa kT;have HE:Hid (fF t names states=if aZ names states≠0 then aZ names states else nX t names):=rfl
 have HR:Hid (rE t names states=if fF t names states=0 then bZ t names states else 0):=rfl;have pI:Hid (aZ names states=0→mZ names states):=nh h5;clear hP hN h hS hz I7 hr h5 kT
 go_enter Tryz.func42,Tryz.ntmps42
 go_wp2_with fail;generalize w.alloc (.cells #[.slice pp t.ps.length pc,.slice np t.ns.length nc] 39)=w0 at *;refine dr.out.mono ?_;rintro e w1 ⟨rfl,aO⟩;have uT:=yB.out.trans aO;replace q0:=aO.cell q0;replace q1:=aO.cell q1;by_cases c1:aZ names states=0
 ·have HC:=aa (pI.out c1)
  have xC:=aa (Nk S S w1 _ _ t names (HT.out.keep (aO.kept S)) hp hnt HZ.out (ah.keep HN.out (aO.kept S)) hn);have r9:Hid (fF t names states=nX t names):=by unfold Hid;rw [HE.out,if_neg (by omega)]
  have WW:Hid (nX t names=0→zI t names):=fun e=>by
   unfold nX at e;split at e
   ·cases e
   ·rename_i h2
    have h2:=Classical.not_not.1 h2;split at e
    ·rename_i h3;exact (AV HC.out.nm h2).1 h3
    ·cases e
  have bH:=aa aO;have Qq:=aa uT;rw [c1];clear aO uT c1 HE dr pI;go_wp2_with fail;refine xC.out.mono ?_;rintro e w2 ⟨rfl,aG⟩;replace q0:=aG.cell q0;replace q1:=aG.cell q1;have GD:=aa (Qq.out.trans aG);by_cases c2:nX t names=0
  ·have aP:=aa (bH.out.trans aG)
   have mI:=aa (Bd S w2 _ _ _ t names states (HT.out.keep (aP.out.kept S)) (WW.out c2) HZ.out (ah.keep HN.out (aP.out.kept S)) (aQ.keep HS.out (aP.out.kept S)) HC.out)
   have dF:Hid (∀W,Up w W→fG w t names states (.returned (.tuple #[.int .i64 (bZ t names states),.int .i64 0])) W):=fun W hW=>⟨hW,by
    have e1:fF t names states=0:=by rw [r9.out];exact c2
    rw [HR.out,e1];rfl⟩
   rw [c2];clear aG c2 xC WW;generalize bZ t names states=a at *;go_wp2_with fail;refine mI.out.mono ?_;rintro e w3 ⟨rfl,bz⟩;have bW:=aa (dF.out _ (GD.out.trans bz));clear bz mI;go_wp2_with fail;go_ret2;exact bW.out
  ·have dF:Hid (fG w t names states (.returned (.tuple #[.int .i64 0,.int .i64 (nX t names)])) w2):=by
    refine ⟨GD.out,?_⟩
    rw [HR.out,r9.out,if_neg c2]
   generalize nX t names=a at *
   clear aG xC WW
   go_wp2_with fail
   go_ret2
   exact dF.out
 ·have dF:Hid (fG w t names states (.returned (.tuple #[.int .i64 0,.int .i64 (aZ names states)])) w1):=by
   refine ⟨uT,?_⟩
   have e1:fF t names states=aZ names states:=by rw [HE.out,if_pos c1]
   rw [HR.out,e1,if_neg c1]
  generalize aZ names states=a at *
  clear aO uT dr
  go_wp2_with fail
  go_ret2
  exact dF.out
end
end Go.Proofs.YthgabkgmkolobaaGreat
