/- The contract of reference 30's Same; reference 34's has, fits. Reference 34: checkNames. .. -/
import Derived.Test.YthgabkgmkolobaaGreatQ41
import Derived.Test.YthgabkgmkolobaaGreatQ20
set_option maxRecDepth 100000
namespace Go.Proofs.YthgabkgmkolobaaGreat
section
open Go.RowKit Go.Deep
def nX (t:aD) (names:List ByteArray):Int:=if aB t≠0 then 1 else if iJ t names then 0 else 9
set_option maxHeartbeats 2000000 in
theorem Nk (S T:Nat→Prop) (w:World) (v vn:Value) (t:aD) (names:List ByteArray) (hT:au S w v t) (hp:t.ps.length≤1000000) (hn:t.ns.length≤1000000) (hz:∀k,(gs t.ns k).size≤70000) (h:ah T w vn names) (hnn:names.length≤1000000) :
  Calls Tryz.prog 103 #[v,vn] w fun e w'=>e=.returned (.int .i64 (nX t names))∧Up w w':=by
 obtain ⟨P,N,rfl,hP,hN⟩:=hT;obtain ⟨np,nc,rfl,-,-⟩:=aC.open hN;have hN:ah S w (.slice np t.ns.length nc) t.ns:=hN;obtain ⟨pp,pc,rfl,-,-⟩:=aC.open hP;have hP:aj S w (.slice pp t.ps.length pc) t.ps:=hP;obtain ⟨mp,mc,rfl,-,-⟩:=aC.open h;have h:ah T w (.slice mp names.length mc) names:=h;have aO:Up w (w.alloc (.cells #[.slice pp t.ps.length pc,.slice np t.ns.length nc] 39)):=Up.alloc _ _;obtain ⟨q0,q1,-,-⟩:=boxed (ek (w:=w) (P:=.slice pp t.ps.length pc) (N:=.slice np t.ns.length nc) (T:=39))
 have dw:au S (w.alloc (.cells #[.slice pp t.ps.length pc,.slice np t.ns.length nc] 39)) (.agg #[.slice pp t.ps.length pc,.slice np t.ns.length nc]) t:=⟨_,_,rfl,aj.keep hP (aO.kept S),ah.keep hN (aO.kept S)⟩;have oI:=aa (yP S _ _ t dw hp hn hz);have Dw:=aa (ah.keep hN (aO.kept S));have Da:=aa (ah.keep h (aO.kept T));have bH:=aa aO;have HF:Hid (nX t names=if aB t≠0 then 1 else if iJ t names then 0 else 9):=rfl;have R4:Hid (iJ t names=(decide ((aq t.ns).length=names.length)&&!o8 t names)):=rfl
 have R2:Hid (o8 t names=(List.range (aq t.ns).length).any fun j=>decide (fh names (gs t.ns (gi (aq t.ns) j).toNat)<0)):=rfl;have dm:Hid ((aq t.ns).length≤1000000):=Nat.le_trans (jH t.ns) hn;have yy:=aa hnn;clear hP hN h dw aO hz
 go_enter Tryz.func103,Tryz.ntmps103
 go_wp2_with fail;generalize w.alloc (.cells #[.slice pp t.ps.length pc,.slice np t.ns.length nc] 39)=w1 at *;refine oI.out.mono ?_;rintro e w2 ⟨hb,⟨h0,rfl⟩ | ⟨h0,lv,rfl,hl⟩⟩
 ·have dF:Hid (nX t names=1):=by unfold Hid;rw [HF.out,if_pos h0]
  have aP:=aa (bH.out.trans hb);clear hb h0 oI;go_wp2_with fail;go_ret;exact ⟨aH dF.out.symm,aP.out⟩
 ·obtain ⟨lp,lc,rfl,-,-⟩:=aC.open hl
  have hl:aj _ w2 (.slice lp (aq t.ns).length lc) (aq t.ns):=hl;have HL:=aa hl;have vD:Hid (nX t names=if iJ t names then 0 else 9):=by unfold Hid;rw [HF.out,if_neg (by omega)]
  have aG:Up w1 w2:=hb;have HQ:=aa (aG.cell q1);have aP:=aa (bH.out.trans aG);have jP:=aa (ah.keep Dw.out (aG.kept S));have yL:=aa (ah.keep Da.out (aG.kept T));clear hl hb aG h0 oI q0 q1 HF Dw Da bH;by_cases hlen:(aq t.ns).length=names.length
  ·have d1:(((aq t.ns).length:Int) != names.length)=false:=by simp [hlen]
   (have R5:Hid (nX t names=if o8 t names then 9 else 0):=by unfold Hid;rw [vD.out,R4.out,decide_eq_true hlen];cases o8 t names<;>rfl);clear hlen R4 vD;go_wp2_with fail;clear d1
   go_loopw [7] (fun i wr=>∃k:Nat,k≤(aq t.ns).length∧i=.int .i64 k∧Hid (QD w2 wr)∧Hid (∀j,j<k→decide (fh names (gs t.ns (gi (aq t.ns) j).toNat)<0)=false)) (fun i _=>(aq t.ns).length - (intOf i).toNat)
   case atStart=>exact ⟨0,Nat.zero_le _,rfl,QD.refl _,fun j hj=>absurd hj (Nat.not_lt_zero _)⟩
   case round =>
    obtain ⟨k,hk,rfl,hQ,hd⟩:=hrel;obtain ⟨wo,rfl⟩:∃wo:World,wo=wr:=⟨_,rfl⟩;by_cases hlt:k<(aq t.ns).length
    ·obtain ⟨n,wP,hn2,hn0⟩:=lN hlt
     obtain ⟨xb,xo,rfl,kR⟩:=bQ HL.out hlt;obtain ⟨sb,so,rfl,hcs⟩:=bI jP.out hn2;have hq:=hQ.out.up.cell HQ.out;replace kR:=hQ.out.up.cell kR;replace hcs:=hQ.out.up.cell hcs;rw [wP] at kR;have s5:Hid (∀m,Calls Tryz.prog 143 #[.slice mp names.length mc,.string (gs t.ns n)] (wo.drewN m) fun e w''=>e=.returned (.int .i64 (fh names (gs t.ns n)))∧∃m',w''=wo.drewN m'):=fun m =>
      (uS T (wo.drewN m) _ names (gs t.ns n) (ah.keep yL.out ((hQ.out.up.trans (Up.drewN _ m)).kept T)) yy.out).mono fun e w' ⟨h4,h5⟩=>⟨h4,m,h5.symm⟩
     (have nC:Hid (fh names (gs t.ns n)<0→o8 t names=true):=fun h=>by rw [R2.out];exact ij hlt (by rw [wP];exact decide_eq_true h));(have mz:Hid (¬fh names (gs t.ns n)<0→∀j,j<k+1→decide (fh names (gs t.ns (gi (aq t.ns) j).toNat)<0)=false):=fun h j hj=>if e:j=k then by subst e;rw [wP];exact decide_eq_false h else hd.out j (by omega));(have i1:(0:Int)≤(k:Int):=by omega);(have i2:(k:Int)<((aq t.ns).length:Int):=by omega);(have i3:(0:Int)≤(n:Int):=by omega);(have i4:(n:Int)<(t.ns.length:Int):=by omega);(have i5:(k:Int)<1000000:=by have:=dm.out;omega);have aW:=aa hlt
     clear hd wP hn2 hn0 hlt hk;generalize fh names (gs t.ns n)=f at *;by_cases hf:f<0
     ·have d2:decide (f<0)=true:=decide_eq_true hf
      have HX:=aa (nC.out hf);clear nC mz hf;go_wp2_with fail;(go_quiet (with_reducible exact s5.out _));go_wp2_with fail;go_ret;exact ⟨aH (by rw [R5.out,HX.out];rfl),aP.out.trans (hQ.out.drewN _).up⟩
     ·have d2:decide (f<0)=false:=decide_eq_false hf
      have HX:=aa (mz.out hf);clear nC mz hf;go_wp2_with fail;(go_quiet (with_reducible exact s5.out _));go_wp2_with fail
      go_roundw
      case rel=>exact ⟨k+1,aW.out,by go_num,hQ.out.drewN _,HX.out⟩
      case measure=>have:=aW.out;simp [intOf];omega
    ·obtain rfl:k=(aq t.ns).length:=by omega
     (have HX:Hid (o8 t names=false):=by unfold Hid;rw [R2.out];exact any_none hd.out);clear hd hlt;go_wp2_with fail;go_ret;exact ⟨aH (by rw [R5.out,HX.out];rfl),aP.out.trans hQ.out.up⟩
  ·have d1:(((aq t.ns).length:Int) != names.length)=true:=by simp;omega
   (have R5:Hid (nX t names=9):=by unfold Hid;rw [vD.out,R4.out,decide_eq_false hlen];rfl);clear hlen R4 vD;go_wp2_with fail;go_ret;exact ⟨aH R5.out.symm,aP.out⟩
end
section
open Go.RowKit Go.Deep
def R6 (names:List ByteArray) (k:Nat):Int:=fh (names.take k) (gs names k)
theorem Tf (names:List ByteArray) {k:Nat} (hk:k<names.length):dg names k=decide (0≤R6 names k):=by
 unfold R6;have h1:0≤fh (names.take k) (gs names k)↔∃j,j<(names.take k).length∧gs (names.take k) j=gs names k:=DW;have h2:dg names k=true↔∃j,j<k∧gs names j=gs names k:=by
  unfold dg;rw [List.any_eq_true];constructor
  ·rintro ⟨j,hj,h⟩;exact ⟨j,List.mem_range.1 hj,of_decide_eq_true h⟩
  ·rintro ⟨j,hj,h⟩;exact ⟨j,List.mem_range.2 hj,decide_eq_true h⟩
 have h3:(∃j,j<(names.take k).length∧gs (names.take k) j=gs names k)↔∃j,j<k∧gs names j=gs names k:=by
  have hl:(names.take k).length=k:=by rw [List.length_take];omega
  rw [hl];constructor
  ·rintro ⟨j,hj,h⟩;exact ⟨j,hj,by rw [← h];simp [gs,hj]⟩
  ·rintro ⟨j,hj,h⟩;exact ⟨j,hj,by rw [← h];simp [gs,hj]⟩
 by_cases e:dg names k=true
 ·rw [e,decide_eq_true (h1.2 (h3.2 (h2.1 e)))]
 ·rw [Bool.not_eq_true] at e
  rw [e,decide_eq_false fun h=>by rw [h2.2 (h3.1 (h1.1 h))] at e;cases e]
set_option maxHeartbeats 2000000 in
theorem A4 (S:Nat→Prop) (w:World) (v:Value) (names:List ByteArray) (h:ah S w v names) (hn:names.length≤1000000) (hz:∀k,(gs names k).size≤70000) :
  Calls Tryz.prog 112 #[v] w fun e w'=>e=.returned (.int .i64 (ep names))∧Up w w':=by
 obtain ⟨p,cap,rfl,hcap,_⟩:=aC.open h;have h:ah S w (.slice p names.length cap) names:=h;have HC:Hid (ep names=if names.length<2∨7<names.length then 4 else firstNZ (dJ names) names.length):=rfl;have HN:=aa h;have HZ:=aa hz;clear h hz;by_cases h1:names.length<2
 ·go_enter Tryz.func112,Tryz.ntmps112
  go_wp2_with fail;go_ret;exact ⟨aH (by rw [HC.out,if_pos (.inl h1)]),Up.refl _⟩
 by_cases h2:7<names.length
 ·go_enter Tryz.func112,Tryz.ntmps112
  go_wp2_with fail;go_ret;exact ⟨aH (by rw [HC.out,if_pos (.inr h2)]),Up.refl _⟩
 have HF:Hid (ep names=firstNZ (dJ names) names.length):=by unfold Hid;rw [HC.out,if_neg (by omega)]
 clear HC;have qT:Hid (∀k,k<names.length→(∀j,j<k→dJ names j=0)→dJ names k≠0→ep names=dJ names k):=fun k hk hj h0=>by rw [HF.out,fk hk hj h0]
 go_enter Tryz.func112,Tryz.ntmps112
 go_wp2_with fail
 go_loopw [3] (fun i wr=>∃k:Nat,k≤names.length∧i=.int .i64 k∧Hid (Up w wr∧∀j,j<k→dJ names j=0)) (fun i _=>names.length - (intOf i).toNat)
 case atStart=>exact ⟨0,Nat.zero_le _,rfl,Up.refl _,fun j hj=>absurd hj (Nat.not_lt_zero _)⟩
 case round =>
  obtain ⟨k,hk,rfl,hd⟩:=hrel;obtain ⟨wo,rfl⟩:∃wo:World,wo=wr:=⟨_,rfl⟩;by_cases hlt:k<names.length
  ·have Gp:=ah.keep HN.out (hd.out.1.kept S)
   obtain ⟨RZ,no,rfl,hc⟩:=bI Gp hlt;have jM:=aa (Nh (gs names k) (HZ.out k) wo);have Iu:Hid (∀W,Up wo W→∀m,Calls Tryz.prog 143 #[.slice (some ⟨RZ,no,none⟩) k cap,.string (gs names k)] (W.drewN m) fun e w''=>e=.returned (.int .i64 (R6 names k))∧∃m',w''=W.drewN m'):=fun W hW m=>by
    have h1:=CM (ah.keep Gp ((hW.trans (Up.drewN _ m)).kept S)) hk;(have h2:ah S (W.drewN m) (.slice (some ⟨RZ,no,none⟩) k cap) (names.take k):=by (have hl:(names.take k).length=k:=by rw [List.length_take];omega);(have h3:=h1.congr (g:=fun j=>.string (gs (names.take k) j)) fun j hj=>by simp [gs,hj]);unfold ah;rw [hl];exact h3);exact (uS S (W.drewN m) _ (names.take k) (gs names k) h2 (by rw [List.length_take];omega)).mono fun e w' ⟨h4,h5⟩=>⟨h4,m,h5.symm⟩
   have s5:=aa (Tf names hlt);have Gq:=aa (qT.out k hlt hd.out.2);have Gr:Hid (dJ names k=if aX (gs names k).data.toList then (if dg names k then 7 else 0) else 14):=rfl;generalize R6 names k=ix at *;generalize gs names k=nm at *;generalize dg names k=bs at *;generalize aX nm.data.toList=bn at *;clear Gp;cases bn
   ·have HE:Hid (dJ names k=14):=Gr.out
    go_wp2_with fail;refine jM.out.mono ?_;rintro e w1 ⟨rfl,aO⟩;have bH:=aa (hd.out.1.trans aO);clear aO;go_wp2_with fail;go_ret;exact ⟨aH ((Gq.out (by rw [HE.out];decide)).trans HE.out).symm,bH.out⟩
   ·cases bs
    ·have HE:Hid (dJ names k=0):=Gr.out
     go_wp2_with fail;refine jM.out.mono ?_;rintro e w1 ⟨rfl,aO⟩;have bH:=aa (hd.out.1.trans aO);have zK:=aa (Iu.out w1 aO);have hc1:=(show Up wo w1 from aO).cell hc;(have d9:decide (0≤ix)=false:=by have:=s5.out;simp at this;simp;omega);clear aO;go_wp2_with fail;(go_quiet (with_reducible exact zK.out _));go_wp2_with fail
     go_roundw
     case rel=>exact ⟨k+1,by omega,by go_num,bH.out.trans (Up.drewN _ _),fun j hj=>if e:j=k then by subst e;exact HE.out else hd.out.2 j (by omega)⟩
     case measure=>simp [intOf];omega
    ·have HE:Hid (dJ names k=7):=Gr.out
     go_wp2_with fail;refine jM.out.mono ?_;rintro e w1 ⟨rfl,aO⟩;have bH:=aa (hd.out.1.trans aO);have zK:=aa (Iu.out w1 aO);have hc1:=(show Up wo w1 from aO).cell hc;(have d9:decide (0≤ix)=true:=by have:=s5.out;simp at this;simp;omega);clear aO;go_wp2_with fail;(go_quiet (with_reducible exact zK.out _));go_wp2_with fail;go_ret;exact ⟨aH ((Gq.out (by rw [HE.out];decide)).trans HE.out).symm,bH.out.trans (Up.drewN _ _)⟩
  ·obtain rfl:k=names.length:=by omega
   (have pH:Hid (ep names=0):=by unfold Hid;rw [HF.out,dW hd.out.2]);go_wp2_with fail;go_ret;exact ⟨aH pH.out.symm,hd.out.1⟩
end
section
open Go.RowKit Go.Deep
def oy (t:aD) (names:List ByteArray) (states:List (List Int)):Value:=.tuple #[.int .i64 (if iJ t names then bZ t names states else 0),.int .i64 (if iJ t names then 0 else 9)]
theorem tU {f:Nat→Int}:∀ {n:Nat},(∀p,p<n→0≤f p∧f p≤100000)→0≤bD f n∧bD f n≤100000*n
 | 0,_=>⟨Int.le_refl _,Int.le_refl _⟩
 | n+1,h=>by
  have h1:=tU (f:=f) (n:=n) fun p hp=>h p (by omega)
  have h2:=h n (by omega)
  rw [eT]
  omega
theorem A5 {states:List (List Int)} (h:cw states=0):states.length≤32∧(gl states 0).length≤4096:=by
 unfold cw at h;split at h
 ·cases h
 ·split at h
  ·cases h
  ·rename_i h1;omega
set_option maxHeartbeats 800000 in
theorem Dx (S:Nat→Prop) (w:World) (v vn vs:Value) (t:aD) (names:List ByteArray) (states:List (List Int)) (hT:au S w v t) (ht:aB t=0) (hz:∀k,(gs t.ns k).size≤70000) (h:ah S w vn names) (hS:aQ S w vs states) (hc:mZ names states) :
  Calls Tryz.prog 69 #[v,vn,vs] w fun e w'=>e=.returned (oy t names states)∧Up w w':=by
 obtain ⟨hp1,xh,hnl,hok,-⟩:=aJ ht;have hlv:=jH t.ns;obtain ⟨P,N,rfl,hP,hN⟩:=hT;obtain ⟨np,nc,rfl,-,-⟩:=aC.open hN;have hN:ah S w (.slice np t.ns.length nc) t.ns:=hN;obtain ⟨pp,pc,rfl,-,-⟩:=aC.open hP;have hP:aj S w (.slice pp t.ps.length pc) t.ps:=hP;obtain ⟨mp,mc,rfl,-,-⟩:=aC.open h;have h:ah S w (.slice mp names.length mc) names:=h;obtain ⟨sp,sc,rfl,-,-⟩:=bS hS;obtain ⟨Nl,Nn⟩:=DX hc.ag;obtain ⟨Gx,Np⟩:=A5 hc.ag;have aO:Up w (w.alloc (.cells #[.slice pp t.ps.length pc,.slice np t.ns.length nc] 39)):=Up.alloc _ _
 have hrb:=ek (w:=w) (P:=.slice pp t.ps.length pc) (N:=.slice np t.ns.length nc) (T:=39);obtain ⟨q0,q1,-,-⟩:=boxed hrb;have dw:au S (w.alloc (.cells #[.slice pp t.ps.length pc,.slice np t.ns.length nc] 39)) (.agg #[.slice pp t.ps.length pc,.slice np t.ns.length nc]) t:=⟨_,_,rfl,aj.keep hP (aO.kept S),ah.keep hN (aO.kept S)⟩;have mh:=aa (Qn S (w.alloc (.cells #[.slice pp t.ps.length pc,.slice np t.ns.length nc] 39)) _ _ t names dw (by omega) (by omega) hz (ah.keep h (aO.kept S)) (by have:=hc.nm.hi;omega));have xx:=aa dw
 have jW:=aa (aQ.keep hS (aO.kept S));have bH:=aa aO;have HB:Hid (vP t names=iJ t names):=by unfold Hid vP;rw [decide_eq_true ht];rfl
 have si:Hid (∀W v u st,au S W v t→aj Any W u st→st.length≤64→Calls Tryz.prog 124 #[v,u] W (Aj W t st)):=fun W v u st h1 h2 h3=>SJ Any W v u t st (h1.sub fun _ _ _=>trivial) h2 (by omega) (by omega) hz (by omega);have rG:=aa Nn;have tR:=aa (And.intro Nl (And.intro Gx Np));have oI:Hid ((aq t.ns).length≤64):=by unfold Hid;omega
 have Dy:=aa hc.len;have HST:Hid (oy t names states=.tuple #[.int .i64 (if iJ t names then bZ t names states else 0),.int .i64 (if iJ t names then 0 else 9)]):=rfl;have Nq:Hid (iJ t names=true→∀p,p<(gl states 0).length→bu t (dO t names states p) (aS 16)≤100000∧0≤bu t (dO t names states p) (aS 16)∧cE t (dO t names states p) (aS 16)=0):=fun hf p hp=>by have hv:=r8 hc ((AV hc.nm ht).1 hf) hp;exact ⟨wu hv,qz hv,hv.par⟩
 have R7:Hid (iJ t names=true→∀j,j<(aq t.ns).length→∃b:Nat,gi (sg t names (aq t.ns).length) j=b∧b<names.length):=fun hf j hj=>by have ho:=(AV hc.nm ht).1 hf;obtain ⟨v,hv,vp,hv0⟩:=lN hj;obtain ⟨b,hb,_,e⟩:=Ge ho (show v<t.ps.length by omega) hv0;exact ⟨b,by rw [Ni hj,hv,Int.toNat_natCast,e],hb⟩
 clear hP hN h hS aO hrb hz dw hc ht Nn Nl Gx Np hok hp1 xh hnl hlv
 go_enter Tryz.func69,Tryz.ntmps69
 go_wp2_with fail;generalize w.alloc (.cells #[.slice pp t.ps.length pc,.slice np t.ns.length nc] 39)=w1 at *;refine mh.out.mono ?_;rintro e w2 ⟨aG,pv,rfl,hpv⟩;rw [HB.out] at hpv ⊢;cases hfit:iJ t names
 ·have AY:Hid (oy t names states=.tuple #[.int .i64 0,.int .i64 9]):=by unfold Hid;rw [HST.out,hfit];rfl
  have dF:Hid (Ending.returned (.tuple #[.int .i64 0,.int .i64 9])=Ending.returned (oy t names states)∧Up w w2):=⟨by rw [AY.out],bH.out.trans aG⟩;clear hpv aG mh;go_wp2_with fail;go_ret2;exact dF.out
 ·have hpi:=hpv hfit
  obtain ⟨rp,rc,rfl,-,-⟩:=aC.open hpi;rw [tS] at hpi;rw [tS];have TX:=aa hpi;have AY:Hid (oy t names states=.tuple #[.int .i64 (bZ t names states),.int .i64 0]):=by unfold Hid;rw [HST.out,hfit];rfl
  have Wu:=aa (Nq.out hfit);have HFD2:=aa (R7.out hfit);have aP:=aa (bH.out.trans aG);have iu:=aa (xx.out.keep (aG.kept S));have dP:=aa (jW.out.keep (aG.kept S));have HQ:=aa (And.intro (aG.cell q0) (aG.cell q1));obtain ⟨sb,so,s0,s1,rfl,hc0,gP⟩:=eM dP.out tR.out.1;rw [Nat.add_zero] at hc0;have i1:(0:Int)<(states.length:Int):=by have:=tR.out.1;omega
  clear hpv hpi aG mh xx jW HST Nq R7 q0 q1 gP bH;go_wp2_with fail;have vQ:Hid (∀n:Nat,n≤(gl states 0).length→0≤bD (fun p=>bu t (dO t names states p) (aS 16)) n∧bD (fun p=>bu t (dO t names states p) (aS 16)) n≤100000*n):=fun n hn=>tU fun p hp=>by obtain ⟨h1,h2,_⟩:=Wu.out p (by omega);exact ⟨h2,h1⟩
  have nu:Hid (∀n:Nat,bD (fun p=>bu t (dO t names states p) (aS 16)) (n+1)=bD (fun p=>bu t (dO t names states p) (aS 16)) n+bu t (dO t names states n) (aS 16)):=fun n=>rfl;have Gy:Hid (bZ t names states=bD (fun p=>bu t (dO t names states p) (aS 16)) (gl states 0).length):=rfl;generalize hF:(fun n=>bD (fun p=>bu t (dO t names states p) (aS 16)) n)=F at *;have tV:∀n,bD (fun p=>bu t (dO t names states p) (aS 16)) n=F n:=fun n=>by rw [← hF]
  have Wv:Hid (F 0=0):=by unfold Hid;rw [← tV];rfl
  have vQ:Hid (∀n:Nat,n≤(gl states 0).length→0≤F n∧F n≤100000*n):=fun n hn=>by rw [← tV];exact vQ.out n hn
  have nu:Hid (∀n:Nat,F (n+1)=F n+bu t (dO t names states n) (aS 16)):=fun n=>by rw [← tV,← tV];exact nu.out n
  have Gy:Hid (bZ t names states=F (gl states 0).length):=by unfold Hid;rw [← tV];exact Gy.out
  clear hF tV
  go_loopw [10,11,12,14,15,16,29] (fun s _ _ _ _ _ i wr=>∃n:Nat,n≤(gl states 0).length∧i=.int .i64 n∧s=.int .i64 (F n)∧Hid (Up w2 wr)) (fun _ _ _ _ _ _ i _=>(gl states 0).length - (intOf i).toNat)
  case atStart=>exact ⟨0,Nat.zero_le _,rfl,by rw [Wv.out],Up.refl _⟩
  case round =>
   obtain ⟨n,hn,rfl,rfl,hU⟩:=hrel;obtain ⟨wo,rfl⟩:∃wo:World,wo=wr:=⟨_,rfl⟩;by_cases hlt:n<(gl states 0).length
   ·have i2:(n:Int)<((gl states 0).length:Int):=by omega
    (have i3:(n:Int)<4096:=by have:=tR.out.2.2;omega);(have i4:(0:Int)≤(n:Int):=by omega);have nw:=vQ.out n hn;have hf2:=vQ.out (n+1) hlt;rw [nu.out n] at hf2;obtain ⟨Gz,hv2,hv3⟩:=Wu.out n hlt;have HV:=aa (And.intro nw (And.intro hf2 (And.intro Gz (And.intro hv2 hv3))));have tW:Hid (aF wo.heap.size 3 wo (.slice none 0 0) ((jf t names (cB states n) 0).map (Value.int .i64))∧Up wo wo):=⟨aF.nil _ _ _,Up.refl _⟩;clear nw hf2 Gz hv2 hv3;go_wp2_with fail
    go_loopw [12,14,34] (fun o _ i wr=>∃j:Nat,j≤(aq t.ns).length∧i=.int .i64 j∧Hid (aF wo.heap.size 3 wr o ((jf t names (cB states n) j).map (Value.int .i64))∧Up wo wr)) (fun _ _ i _=>(aq t.ns).length - (intOf i).toNat)
    case atStart=>exact ⟨0,Nat.zero_le _,rfl,tW.out⟩
    case round =>
     obtain ⟨j,hj,rfl,hI⟩:=hrel;obtain ⟨wi,rfl⟩:∃wi:World,wi=wr:=⟨_,rfl⟩;obtain ⟨hA,dK⟩:=hI.out;by_cases hlj:j<(aq t.ns).length
     ·obtain ⟨b,hb1,hb2⟩:=HFD2.out j hlj
      obtain ⟨xb,xo,rfl,kR⟩:=bQ (aj.keep TX.out ((hU.out.trans dK).kept _)) (k:=j) (by rw [tS];exact hlj);rw [hb1] at kR;(have lq:b<states.length:=by rw [Dy.out];exact hb2);obtain ⟨rb,ro,r0,r1,er,rS,hir⟩:=eM (aQ.keep dP.out ((hU.out.trans dK).kept S)) lq;injection er with er;injection er with Nr Ns;subst Nr;subst Ns;rw [(rG.out b lq).1] at rS;obtain ⟨yb,yo,rfl,Ww⟩:=bQ hir (k:=n) (by rw [(rG.out b lq).1];exact hlt)
      (have fN:Hid ((jf t names (cB states n) (j+1)).map (Value.int .i64)=(jf t names (cB states n) j).map (Value.int .i64)++[.int .i64 (gi (gl states b) n)]):=by unfold Hid;(have e2:fh names (gs t.ns (gi (aq t.ns) j).toNat)=b:=by rw [← Ni hlj];exact hb1);rw [Dr,List.map_append,e2,Int.toNat_natCast,AW _ _ lq];rfl);(have eO:Hid (((jf t names (cB states n) j).map (Value.int .i64)).length=j):=by unfold Hid;rw [List.length_map,kC]);have HA:=aa hA;have Jo:=aa dK;have hsz:=dK.size;have k1:(0:Int)≤(j:Int):=by omega
      (have k2:(j:Int)<((aq t.ns).length:Int):=by omega);(have k3:(j:Int)<64:=by have:=oI.out;omega);(have k4:(0:Int)≤(b:Int):=by omega);(have k5:(b:Int)<(states.length:Int):=by omega);generalize gi (gl states b) n=y at *;clear hI hA dK hlj hir hb1 hb2 lq;go_wp2_with (at_builtin;refine lu wi rfl _ _ 26 rfl wo.heap.size 3 _ 8 Tryz.underlying26 Tryz.fI rfl (by decide) HA.out rfl _ rfl rfl j eO.out (by omega) hsz ?_;intro g cap w8 hown1 hg1 gH)
      (have td:Hid (aF wo.heap.size 3 w8 (.slice (some ⟨g,0,none⟩) (j+1) cap) ((jf t names (cB states n) (j+1)).map (Value.int .i64))):=by unfold Hid;rw [fN.out];exact hown1);have gT:Hid (Up wo w8):=Below.trans Jo.out gH;clear hown1 hg1 gH
      go_roundw
      case rel=>exact ⟨j+1,by omega,by go_num,td.out,gT.out⟩
      case measure=>simp [intOf];omega
     ·obtain rfl:j=(aq t.ns).length:=by omega
      obtain ⟨op,oc,rfl,-⟩:=hA.form (n:=(aq t.ns).length) (by rw [List.length_map,kC]);have Nt:=aa (si.out wi _ (.slice op (aq t.ns).length oc) (dO t names states n) (iu.out.keep ((hU.out.trans dK).kept S)) (hA.ints.sub fun _ _ _=>trivial) (by unfold dO;rw [kC];exact oI.out));have q0:=(hU.out.trans dK).cell HQ.out.1;have q1:=(hU.out.trans dK).cell HQ.out.2;have Nu:=aa (hU.out.trans dK);have wI:=aa (nu.out n);clear hI hA dK hlj hj;obtain ⟨nw,hf2,Gz,hv2,hv3⟩:=HV.out;have Wx:=aa hv3;clear hv3;generalize F n=fn at *;go_wp2_with fail
      refine Nt.out.mono ?_;rintro e w9 ⟨oT,rfl⟩;have Cz:=aa (Nu.out.trans oT);rw [Wx.out];clear oT Nt;generalize bu t (dO t names states n) (aS 16)=z at *;(have R8:fn+z≤409600000∧0≤fn+z:=by constructor<;>omega);go_wp2_with fail
      go_roundw
      case rel=>exact ⟨n+1,by omega,by go_num,by rw [wI.out],Cz.out⟩
      case measure=>simp [intOf];omega
   ·obtain rfl:n=(gl states 0).length:=by omega
    have dF:Hid (Ending.returned (.tuple #[.int .i64 (F (gl states 0).length),.int .i64 0])=Ending.returned (oy t names states)∧Up w wo):=⟨by rw [AY.out,Gy.out],aP.out.trans hU.out⟩;clear hlt;go_wp2_with fail;go_ret2;exact dF.out
end
section
open Go.RowKit Go.Deep
theorem tX {s:ByteArray} (h:aX s.data.toList=true):s.size≤20:=by
 have hl:s.data.toList.length=s.size:=size_data s;unfold aX dL at h;split at h
 ·simp only [Bool.and_eq_true,decide_eq_true_eq] at h;omega
 ·simp only [Bool.and_eq_true,decide_eq_true_eq] at h;omega
theorem Dz {S:Nat→Prop} {w:World} {b o n cap:Nat} {xs:List ByteArray} (h:ah S w (.slice (some ⟨b,o,none⟩) n cap) xs) (hn:2≤xs.length):ah S w (.slice (some ⟨b,o+1,none⟩) (xs.length - 1) (cap - 1)) xs.tail:=by
 obtain ⟨p,c,e,hc,h⟩:=h;injection e with e1 e2 e3;subst e1;subst e3;refine ⟨_,_,by rw [List.length_tail],by rw [List.length_tail];omega,?_⟩;rcases h with h | ⟨b',o',e4,hS,h⟩
 ·omega
 ·injection e4 with e4
  injection e4 with e5 e6;subst e5;subst e6;refine .inr ⟨b,o+1,rfl,hS,fun k hk=>?_⟩;rw [List.length_tail] at hk;have:=h (k+1) (by omega);rw [show o+1+k=o+(k+1) by omega,this];show some (Value.string (gs xs (k+1)))=some (Value.string (gs xs.tail k));have:gs xs.tail k=gs xs (k+1):=by
   unfold gs;cases xs with
   | nil=>simp at hn
   | cons a l=>rfl
  rw [this]
def mA (names:List ByteArray) (s:ByteArray):ByteArray:=⟨#[40]⟩++gs names 0++⟨#[44]⟩++s++⟨#[41,59]⟩
structure EnF (names:List ByteArray) (r:BT ByteArray):Prop where
 KJ:iL (mA names (iM r)).data.toList=some (btR (uB names r))
 Wy:(mA names (iM r)).size≤1000
 te:aB (flat (btR (uB names r)))=0
 can:o5 (flat (btR (uB names r)))=flat (uR names r)
 Zu:aB (flat (uR names r))=0
 tx:r5 (flat (uR names r))=bT (uR names r)
 len:aL (btR (uB names r))≤9∧aL (uR names r)≤9
 sz:∀k,(gs (flat (btR (uB names r))).ns k).size≤70000
 Zv:∀k,(gs (flat (uR names r)).ns k).size≤70000
theorem sQ {r:RT} (h:jR r) (k:Nat):(gs (flat r).ns k).size≤70000:=by
 refine jd (M:=70000) (fun x hx=>?_) k;have hx:x∈cF r:=hx;rw [mq] at hx;obtain ⟨s,hs,rfl⟩:=List.mem_map.1 hx;by_cases e:s.kids=[]
 ·exact Nat.le_trans (tX (h.lf s hs e)) (by decide)
 ·rw [h.CP s hs e];exact Nat.zero_le _
theorem Zw {names:List ByteArray} (h:gY names) {r:BT ByteArray} (hr:r∈jF names.tail):EnF names r:=by
 have hp:r.fZ.Perm names.tail:=vX _ _ _ hr;have ho:=RO h hp;have hg:=ho.RM.good;have hhi:=h.hi;have hlo:=h.lo;have hl:=(tO h hp).length_eq;have hs:=x9 (uB names r);have hz:∀x∈names,x.size≤20:=fun x hx=>tX (h.nm x hx);have ht:=xq hg (by omega);have yJ:r∈rt names.length names.tail:=by have:rt names.length names.tail=jF names.tail:=nV _ _ _ (by simp) (Nat.le_refl _);rw [this];exact hr
 obtain ⟨_,_,q3,_,q5,_⟩:=fB h (FZ.2 ⟨r,yJ,rfl⟩);refine ⟨?_,?_,ht,by rw [xm ht,uw];rfl,q5,by rw [VG q5,uw];rfl,by omega,sQ hg,sQ (r:=uR names r) hg.sort⟩
 ·have e:(mA names (iM r)).data.toList=txR (btR (uB names r))++[59]:=by
   unfold mA iM uB
   rw [RN,btR,uH]
   simp
  rw [e];exact tJ hg.jg
 ·have h1:=uO r fun x hx=>hz x (List.mem_of_mem_tail (hp.mem_iff.1 hx))
  have h2:=hp.length_eq;have h3:=jd hz 0;rw [List.length_tail] at h2;unfold mA;simp only [ByteArray.size_append];show 1+(gs names 0).size+1+(iM r).size+2≤1000;omega
def Nw (w:World) (names:List ByteArray) (e:Ending) (w':World):Prop:=Up w w'∧∃v,e=.returned (.tuple #[v,.int .i64 0])∧tT w' v (bG names)
theorem DA {base n size:Nat} {e:TypeId} {w w':World} {v:Value} {vs:List Value} (h:w.ownsRow base e size v n vs) (k:∀b,v.ownBlock=some b→w'.heap[b]? = w.heap[b]?):w'.ownsRow base e size v n vs:=by
 refine ⟨h.1,?_⟩;rcases h.2 with h2 | ⟨g,cap,cur,hv,hg,hc,h3⟩
 ·exact .inl h2
 ·exact .inr ⟨g,cap,cur,hv,hg,(k g (by rw [hv];rfl)).trans hc,h3⟩
theorem iB.up {base:Nat} {w w':World} {v:Value} {es:List lG} (h:iB base w v es) (hu:Up w w'):iB base w' v es :=
 ⟨DA h.1 fun b hb=>Below.block hu b (World.ownsRow.lt h.1 b hb).2,fun x hx=>(h.2 x hx).keep (hu.kept _)⟩
def gB (R:List (BT ByteArray)) (n:Nat):BT ByteArray:=R.getD n (.leaf ByteArray.empty)
theorem Wz {L:List ByteArray} {n:Nat} (h:n<(jF L).length):gs (bB L) n=iM (gB (jF L) n)∧gB (jF L) n∈jF L:=by
 unfold gs gB bB;constructor
 ·simp [h]
 ·simp [h]
end
end Go.Proofs.YthgabkgmkolobaaGreat
