/- Reference 34: check. optimaltree.Bound. optimaltree.Score. Plain: the texts of the rooted .. -/
import Derived.Test.YthgabkgmkolobaaGreatQ42
set_option maxRecDepth 100000
namespace Go.Proofs.YthgabkgmkolobaaGreat
section
open Go.RowKit Go.Deep
set_option maxHeartbeats 2000000 in
theorem A6 (S:Nat→Prop) (w:World) (v vs:Value) (names:List ByteArray) (states:List (List Int)) (h:ah S w v names) (hn:names.length≤1000000) (hz:∀k,(gs names k).size≤70000) (hS:aQ S w vs states) (jA:states.length≤1000000) (hr:∀k,(gl states k).length≤1000000) :
  Calls Tryz.prog 102 #[v,vs] w fun e w'=>e=.returned (.int .i64 (aZ names states))∧Up w w':=by
 have HC:Hid (aZ names states=if ep names≠0 then ep names else if cw states≠0 then 1 else if states.length≠names.length then 9 else 0):=rfl;have jM:=aa (A4 S w v names h hn hz);obtain ⟨p,cap,rfl,hcap,_⟩:=aC.open h;obtain ⟨q,d,rfl,hd,_⟩:=bS hS;have rG:Hid (∀W,Up w W→Calls Tryz.prog 60 #[.slice q states.length d] W fun e w'=>e=.returned (.int .i64 (cw states))∧QD W w'):=fun W hW=>JW S W _ states (aQ.keep hS (hW.kept S)) jA hr;clear h hS hz hr
 go_enter Tryz.func102,Tryz.ntmps102
 go_wp2_with fail;refine jM.out.mono ?_;rintro e w1 ⟨rfl,aO⟩;have bH:=aa aO;have Qi:=aa (rG.out w1 aO);clear aO;by_cases c1:ep names=0
 ·have iK:Hid (aZ names states=if cw states≠0 then 1 else if states.length≠names.length then 9 else 0):=by unfold Hid;rw [HC.out,if_neg (by omega)]
  rw [c1];clear HC c1 jM rG;go_wp2_with fail;refine Qi.out.mono ?_;rintro e w' ⟨rfl,hq⟩;replace bH:=aa (bH.out.trans hq.up);clear hq;generalize cw states=a at *;by_cases c2:a=0
  ·subst c2
   by_cases c3:states.length=names.length
   ·have d3:(states.length:Int)=(names.length:Int):=by omega
    go_wp2_with fail;go_ret;exact ⟨aH (by rw [iK.out,if_neg (by omega),if_neg (by omega)]),bH.out⟩
   ·have d3:¬(states.length:Int)=(names.length:Int):=by omega
    go_wp2_with fail;go_ret;exact ⟨aH (by rw [iK.out,if_neg (by omega),if_pos c3]),bH.out⟩
  ·go_wp2_with fail
   go_ret;exact ⟨aH (by rw [iK.out,if_pos c2]),bH.out⟩
 ·generalize ep names=a at *
  go_wp2_with fail;go_ret;exact ⟨aH (by rw [HC.out,if_pos c1]),bH.out⟩
end
section
open Go.RowKit Go.Deep
theorem KL (xs:List Int):(Lib.compact (iP xs)).length≤xs.length:=by
 rw [Cq];exact (qA xs).length_le_of_subset fun x hx=>sW.1 hx
def GA (w:World) (states:List (List Int)) (e:Ending) (w':World):Prop:=e=.returned (.tuple #[.int .i64 (KE states),.int .i64 (KD states)])∧Up w w'
set_option maxHeartbeats 4000000 in
theorem Nx (S:Nat→Prop) (w:World) (vs:Value) (states:List (List Int)) (hS:aQ S w vs states) (jA:states.length≤1000000) (hr:∀k,(gl states k).length≤1000000) :
  Calls Tryz.prog 18 #[vs] w (GA w states):=by
 have rG:=aa (Cm S w vs states hS jA hr);obtain ⟨sp,sc,rfl,-,-⟩:=bS hS;have HS:=aa hS;have HE:Hid (KD states=if cw states=0 then 0 else 1):=rfl;have HR:Hid (KE states=if cw states=0 then Gh states else 0):=rfl;have Zx:Hid (cw states=0→0<states.length∧states.length≤32∧(gl states 0).length≤4096∧∀k,k<states.length→(gl states k).length=(gl states 0).length):=fun h=>by obtain ⟨a1,a2⟩:=DX h;obtain ⟨a3,a4⟩:=A5 h;exact ⟨a1,a3,a4,fun k hk=>(a2 k hk).1⟩
 clear hS jA hr
 go_enter Tryz.func18,Tryz.ntmps18
 go_wp2_with fail;refine rG.out.mono ?_;rintro e w1 ⟨rfl,hq⟩;have bH:Hid (Up w w1):=hq ▸ Up.refl _;by_cases c1:cw states=0
 ·obtain ⟨a0,a1,a2,a3⟩:=Zx.out c1
  have HA:=aa (And.intro a0 (And.intro a1 (And.intro a2 a3)));have dF:Hid (∀W,Up w W→GA w states (.returned (.tuple #[.int .i64 (Gh states),.int .i64 0])) W):=fun W hW=>⟨by rw [HE.out,HR.out,if_pos c1,if_pos c1],hW⟩;have jW:=aa (aQ.keep HS.out (bH.out.kept S));obtain ⟨sb,so,s0,s1,rfl,hc0,gP⟩:=eM jW.out a0;rw [Nat.add_zero] at hc0;have i1:(0:Int)<(states.length:Int):=by omega
  rw [c1];clear rG HE HR Zx hq c1 a0 a1 a2 a3 gP;have HBK:Hid (∀n,0≤bD (ng states) n∧bD (ng states) n≤100000*n):=fun n=>tU fun p _=>by have h1:=Jk states p;have:=HA.out.2.1;omega
  have cR:Hid (∀n,bD (ng states) (n+1)=bD (ng states) n+ng states n):=fun n=>rfl;have kU:Hid (Gh states=bD (ng states) (gl states 0).length):=rfl;go_wp2_with fail
  go_loopw [4,5,6,8,16,21] (fun s _ _ _ i _ wr=>∃n:Nat,n≤(gl states 0).length∧i=.int .i64 n∧s=.int .i64 (bD (ng states) n)∧Hid (Up w1 wr)) (fun _ _ _ _ i _ _=>(gl states 0).length - (intOf i).toNat)
  case atStart=>exact ⟨0,Nat.zero_le _,rfl,rfl,Up.refl _⟩
  case round =>
   obtain ⟨n,hn,rfl,rfl,hU⟩:=hrel;obtain ⟨wo,rfl⟩:∃wo:World,wo=wr:=⟨_,rfl⟩;by_cases hlt:n<(gl states 0).length
   ·have i2:(n:Int)<((gl states 0).length:Int):=by omega
    (have i3:(n:Int)<4096:=by have:=HA.out.2.2.1;omega);(have i4:(0:Int)≤(n:Int):=by omega);have aW:=aa hlt;have GC:=aa (And.intro (HBK.out n) (Jk states n));have sj:=aa hU.out;generalize jA:bD (ng states) n=fn at *;have wI:=aa jA;clear hlt hU jA;go_wp2_with fail
    go_loopw [6,8,21] (fun l _ k wr=>∃j:Nat,j≤states.length∧k=.int .i64 j∧Hid (aF wo.heap.size 3 wr l ((cQ ((cB states n).take j)).map (Value.int .i64)))∧Hid (Up wo wr)) (fun _ _ k _=>states.length - (intOf k).toNat)
    case atStart=>exact ⟨0,Nat.zero_le _,rfl,aF.nil _ _ _,Up.refl _⟩
    case round =>
     obtain ⟨j,hj,rfl,hA,dK⟩:=hrel;obtain ⟨wi,rfl⟩:∃wi:World,wi=wr:=⟨_,rfl⟩;by_cases hlj:j<states.length
     ·obtain ⟨rb,ro,r0,r1,er,rS,hir⟩:=eM (aQ.keep jW.out ((sj.out.trans dK.out).kept S)) hlj
      injection er with er;injection er with Nr Ns;subst Nr;subst Ns;rw [HA.out.2.2.2 j hlj] at rS;obtain ⟨yb,yo,rfl,Ww⟩:=bQ hir (k:=n) (by rw [HA.out.2.2.2 j hlj];exact aW.out);have fN:=aa (He (st:=cB states n) (k:=j) (by rw [uQ];exact hlj));rw [AW _ _ hlj] at fN;have fK:=LL (cB states n) j;have hsz:=dK.out.size;have vL:=aa hlj;(have k1:(0:Int)≤(j:Int):=by omega);(have k2:(j:Int)<(states.length:Int):=by omega);(have k3:(j:Int)<64:=by have:=HA.out.2.1;omega);generalize gi (gl states j) n=y at *;clear hir hlj;by_cases h0:0≤y
      ·have eO:Hid (((cQ ((cB states n).take j)).map (Value.int .i64)).length=(cQ ((cB states n).take j)).length):=by unfold Hid;rw [List.length_map]
       (have td:Hid (cQ ((cB states n).take (j+1))=cQ ((cB states n).take j)++[y]):=by unfold Hid;rw [fN.out,if_pos h0]);(have d0:decide (0≤y)=true:=by simp [h0]);generalize hm:(cQ ((cB states n).take j)).length=m at *;go_wp2_with (at_builtin;refine lu wi rfl _ _ 26 rfl wo.heap.size 3 _ 8 Tryz.underlying26 Tryz.fI rfl (by decide) hA.out rfl _ rfl rfl m eO.out (by omega) hsz ?_;intro g cap w8 hown1 hg1 gH)
       (have HO2:Hid (aF wo.heap.size 3 w8 (.slice (some ⟨g,0,none⟩) (m+1) cap) ((cQ ((cB states n).take (j+1))).map (Value.int .i64))):=by unfold Hid;rw [td.out,List.map_append];exact hown1);have gT:Hid (Up wo w8):=Below.trans dK.out gH;clear hown1 hg1 gH
       go_roundw
       case rel=>exact ⟨j+1,vL.out,by go_num,HO2,gT⟩
       case measure=>have:=vL.out;simp [intOf];omega
      ·have d0:decide (0≤y)=false:=by simp;omega
       (have td:Hid (cQ ((cB states n).take (j+1))=cQ ((cB states n).take j)):=by unfold Hid;rw [fN.out,if_neg h0,List.append_nil]);clear h0;go_wp2_with fail
       go_roundw
       case rel=>exact ⟨j+1,vL.out,by go_num,by rw [td.out];exact hA,dK⟩
       case measure=>have:=vL.out;simp [intOf];omega
     ·obtain rfl:j=states.length:=by omega
      (have Zy:(cB states n).take states.length=cB states n:=by rw [← uQ states n,List.take_length]);rw [Zy] at hA;obtain ⟨kp,kc,rfl,_⟩:=hA.out.form (n:=(cQ (cB states n)).length) (by rw [List.length_map]);(have fK:(cQ (cB states n)).length≤states.length:=by rw [← uQ states n];exact List.length_filter_le _ _);have iw:Hid ((cQ (cB states n)).length≤32):=Nat.le_trans fK HA.out.2.1;have xk:=aa (Us wo wi _ (cQ (cB states n)) dK.out hA.out (by have:=iw.out;omega))
      have yU:Hid (ng states n=if (dd (cQ (cB states n))).length=0 then 0 else ((dd (cQ (cB states n))).length:Int) - 1):=rfl;rw [← Cq] at yU;clear Zy hA dK fK hj;go_wp2_with fail;refine xk.out.mono ?_;rintro e w7 ⟨rfl,Jp,Zz⟩;have pI:=aa (LJ wo w7 _ (iP (cQ (cB states n))) Jp Zz (by rw [wU];have:=iw.out;omega));have Dy:Hid ((Lib.compact (iP (cQ (cB states n)))).length≤32):=Nat.le_trans (KL _) iw.out;clear Jp Zz xk;go_wp2_with fail;refine pI.out.mono ?_;rintro e w8 ⟨⟨p8,c8,rfl⟩,mg⟩
      have gT:=aa (sj.out.trans mg);have AZ:=aa (cR.out n);rw [wI.out,yU.out] at AZ;have CS:=GC.out;have Yx:=Dy.out;clear mg pI yU Dy;generalize ng states n=bk at *;generalize (Lib.compact (iP (cQ (cB states n)))).length=D at *;(have i6:fn≤409600000∧0≤fn:=by constructor<;>omega);obtain ⟨i7,i8⟩:=i6;clear CS;go_wp2_with fail
      go_roundw
      case rel=>exact ⟨n+1,aW.out,by go_num,by rw [AZ.out];congr 1;omega,gT.out⟩
      case measure=>have:=aW.out;simp [intOf];omega
   ·obtain rfl:n=(gl states 0).length:=by omega
    have si:=aa (dF.out wo (bH.out.trans hU.out));rw [kU.out] at si;clear hlt;go_wp2_with fail;go_ret2;exact si.out
 ·have dF:Hid (GA w states (.returned (.tuple #[.int .i64 0,.int .i64 1])) w1):=⟨by rw [HE.out,HR.out,if_neg c1,if_neg c1],bH.out⟩
  generalize cw states=a at *;clear hq rG;go_wp2_with fail;go_ret2;exact dF.out
end
section
open Go.RowKit Go.Deep
theorem Tg {names:List ByteArray} (h5:names.length≤5∨7<names.length) (h0:ep names=0):names.length≤5:=by
 rcases h5 with h5 | h5
 ·exact h5
 ·unfold ep at h0;rw [if_pos (.inr h5)] at h0;cases h0
theorem nh {names:List ByteArray} {states:List (List Int)} (h5:names.length≤5∨7<names.length) (h0:aZ names states=0):mZ names states:=by
 have h1:ep names=0:=by
  unfold aZ at h0;split at h0
  ·rename_i h;exact absurd h0 h
  ·rename_i h;omega
 exact (Qe (Tg h5 h1)).1 h0
def fG (w:World) (t:aD) (names:List ByteArray) (states:List (List Int)) (e:Ending) (w':World):Prop:=Up w w'∧e=.returned (.tuple #[.int .i64 (rE t names states),.int .i64 (fF t names states)])
set_option maxHeartbeats 2000000 in
theorem KM (S:Nat→Prop) (w:World) (v vn vs:Value) (t:aD) (names:List ByteArray) (states:List (List Int)) (hT:au S w v t) (hp:t.ps.length≤1000000) (hnt:t.ns.length≤1000000) (hz:∀k,(gs t.ns k).size≤70000) (h:ah S w vn names) (hn:names.length≤1000000) (I7:∀k,(gs names k).size≤70000) (hS:aQ S w vs states) (jA:states.length≤1000000) (hr:∀k,(gl states k).length≤1000000) (h5:names.length≤5∨7<names.length) :
  Calls Tryz.prog 21 #[v,vn,vs] w (fG w t names states):=by
 have HZ:=aa hz;obtain ⟨P,N,rfl,hP,hN⟩:=hT;obtain ⟨np,nc,rfl,-,-⟩:=aC.open hN;have hN:ah S w (.slice np t.ns.length nc) t.ns:=hN;obtain ⟨pp,pc,rfl,-,-⟩:=aC.open hP;have hP:aj S w (.slice pp t.ps.length pc) t.ps:=hP;obtain ⟨mp,mc,rfl,-,-⟩:=aC.open h;have h:ah S w (.slice mp names.length mc) names:=h;obtain ⟨sp,sc,rfl,-,-⟩:=bS hS;have kT:Up w (w.alloc (.cells #[.slice pp t.ps.length pc,.slice np t.ns.length nc] 39)):=Up.alloc _ _;have hrb:=ek (w:=w) (P:=.slice pp t.ps.length pc) (N:=.slice np t.ns.length nc) (T:=39);obtain ⟨q0,q1,-,-⟩:=boxed hrb
 have HT:Hid (au S (w.alloc (.cells #[.slice pp t.ps.length pc,.slice np t.ns.length nc] 39)) (.agg #[.slice pp t.ps.length pc,.slice np t.ns.length nc]) t):=⟨_,_,rfl,aj.keep hP (kT.kept S),ah.keep hN (kT.kept S)⟩;have HN:=aa (ah.keep h (kT.kept S));have HS:=aa (aQ.keep hS (kT.kept S));have dr:=aa (Ds S _ _ _ names states HN.out hn I7 HS.out jA hr);have yB:=aa kT;have HE:Hid (fF t names states=if aZ names states≠0 then aZ names states else if aB t≠0 then 1 else if iJ t names then 0 else 9):=rfl
 have HR:Hid (rE t names states=if fF t names states=0 then bZ t names states else 0):=rfl;have pI:Hid (aZ names states=0→mZ names states):=nh h5;clear hP hN h hS hz I7 hr h5 hrb kT
 go_enter Tryz.func21,Tryz.ntmps21
 go_wp2_with fail;generalize w.alloc (.cells #[.slice pp t.ps.length pc,.slice np t.ns.length nc] 39)=w0 at *;refine dr.out.mono ?_;rintro e w1 ⟨rfl,aO⟩;have uT:=yB.out.trans aO;replace q0:=aO.cell q0;replace q1:=aO.cell q1;by_cases c1:aZ names states=0
 ·have HC:=aa (pI.out c1)
  have xC:=aa (qi S w1 _ t (HT.out.keep (aO.kept S)) hp hnt HZ.out);have r9:Hid (fF t names states=if aB t≠0 then 1 else if iJ t names then 0 else 9):=by unfold Hid;rw [HE.out,if_neg (by omega)]
  have bH:=aa aO;have Qq:=aa uT;rw [c1];clear aO uT c1 HE dr pI;go_wp2_with fail;refine xC.out.mono ?_;rintro e w2 ⟨rfl,hb⟩;have aG:Up w1 w2:=hb;replace q0:=aG.cell q0;replace q1:=aG.cell q1;have GD:=aa (Qq.out.trans aG);by_cases c2:aB t=0
  ·have aP:=aa (bH.out.trans aG)
   have mI:=aa (Dx S w2 _ _ _ t names states (HT.out.keep (aP.out.kept S)) c2 HZ.out (ah.keep HN.out (aP.out.kept S)) (aQ.keep HS.out (aP.out.kept S)) HC.out);have HX:Hid (oy t names states=.tuple #[.int .i64 (rE t names states),.int .i64 (fF t names states)]):=by unfold Hid oy;(have e9:fF t names states=if iJ t names then 0 else 9:=by rw [r9.out,if_neg fun e:aB t≠0=>e c2]);rw [HR.out,e9];cases iJ t names<;>simp
   have dF:Hid (∀W,Up w W→fG w t names states (.returned (.tuple #[.int .i64 (rE t names states),.int .i64 (fF t names states)])) W):=fun W hW=>⟨hW,rfl⟩;rw [c2];clear hb aG c2 xC;rw [HX.out] at mI;generalize rE t names states=a at *;generalize fF t names states=c at *;go_wp2_with fail;refine mI.out.mono ?_;rintro e w3 ⟨rfl,bz⟩;have bW:=aa (dF.out _ (GD.out.trans bz));clear bz mI;go_wp2_with fail;go_ret2;exact bW.out
  ·have dF:Hid (fG w t names states (.returned (.tuple #[.int .i64 0,.int .i64 1])) w2):=by
    refine ⟨GD.out,?_⟩
    have e1:fF t names states=1:=by rw [r9.out,if_pos c2]
    rw [HR.out,e1];rfl
   generalize aB t=a at *
   clear hb aG xC
   go_wp2_with fail
   go_ret2
   exact dF.out
 ·have dF:Hid (fG w t names states (.returned (.tuple #[.int .i64 0,.int .i64 (aZ names states)])) w1):=by
   refine ⟨uT,?_⟩
   have e1:fF t names states=aZ names states:=by rw [HE.out,if_pos c1]
   rw [HR.out,e1,if_neg c1]
  generalize aZ names states=a at *
  clear aO uT dr
  go_wp2_with fail
  go_ret2
  exact dF.out
end
section
def kW (L:List ByteArray):List (BT ByteArray):=rf L.length L
def bA (L:List ByteArray):List ByteArray:=(kW L).map iM
def eA (L:List ByteArray) (bits:Nat):List ByteArray:=gs L 0::bh (fun i=>bits.testBit i) L.tail (L.length - 1)
def eB (L:List ByteArray) (bits:Nat):List ByteArray:=bh (fun i=>!bits.testBit i) L.tail (L.length - 1)
def A7 (L:List ByteArray) (bits:Nat):List ByteArray:=(bA (eA L bits)).flatMap fun s=>(bA (eB L bits)).map fun t=>pairT s t
theorem zL (L:List ByteArray):(jF L).Perm (kW L):=Jy _ _
theorem GF (L:List ByteArray):(bB L).Perm (bA L):=(zL L).map iM
theorem Ny (L:List ByteArray) {bits:Nat} (h:bits<2 ^ (L.length - 1) - 1):eA L bits=dA L (2 ^ (L.length - 1) - 1 - bits)∧eB L bits=dB L (2 ^ (L.length - 1) - 1 - bits):=by
 have e1:∀i,i<L.length - 1→(2 ^ (L.length - 1) - 1 - bits).testBit i=!bits.testBit i:=fun i hi=>by have:=Nat.testBit_two_pow_sub_succ (x:=bits) (n:=L.length - 1) (by omega) i;rw [show 2 ^ (L.length - 1) - 1 - bits=2 ^ (L.length - 1) - (bits+1) by omega,this];simp [hi]
 unfold eA eB dA dB;rw [nZ (p:=fun i=>!(2 ^ (L.length - 1) - 1 - bits).testBit i) (q:=fun i=>bits.testBit i) fun i hi=>by rw [e1 i hi,Bool.not_not],nZ (p:=fun i=>(2 ^ (L.length - 1) - 1 - bits).testBit i) (q:=fun i=>!bits.testBit i) e1];exact ⟨rfl,rfl⟩
theorem e_len {L:List ByteArray} (h:2≤L.length) {bits:Nat} (h2:bits<2 ^ (L.length - 1) - 1):(eA L bits).length<L.length∧1≤(eA L bits).length∧(eB L bits).length<L.length∧1≤(eB L bits).length:=by
 obtain ⟨e1,e2⟩:=Ny L h2;rw [e1,e2];exact Kv h (by omega) (by omega)
theorem XS {L:List ByteArray} {bits:Nat} (h:1≤L.length) (h2:bits<2 ^ (L.length - 1) - 1):(∀x∈eA L bits,x∈L)∧∀x∈eB L bits,x∈L:=by
 obtain ⟨e1,e2⟩:=Ny L h2;rw [e1,e2];exact Kw h
theorem ye:∀(d e:Nat) (L:List ByteArray),L.length≤d→L.length≤e→rf d L=rf e L
 | 0,e,L,h,_=>by
  have:L=[]:=List.eq_nil_of_length_eq_zero (by omega)
  subst this
  cases e<;>rfl
 | d+1,0,L,_,h=>by
  have:L=[]:=List.eq_nil_of_length_eq_zero (by omega)
  subst this;rfl
 | _+1,_+1,[],_,_=>rfl
 | _+1,_+1,[x],_,_=>rfl
 | d+1,e+1,x::y::L,h1,h2=>by
  rw [rf,rf]
  refine iI fun bits hb=>?_
  have hb:=List.mem_range.1 hb
  have hd:=e_len (L:=x::y::L) (by simp) (bits:=bits) (by have:(x::y::L).length - 1=(y::L).length:=rfl;rw [this];omega)
  have ea:eA (x::y::L) bits=x::bh (fun i=>bits.testBit i) (y::L) (y::L).length:=rfl
  have eb:eB (x::y::L) bits=bh (fun i=>!bits.testBit i) (y::L) (y::L).length:=rfl
  rw [← ea,← eb]
  simp only [List.length_cons] at hd h1 h2
  rw [ye d e (eA _ _) (by omega) (by omega),ye d e (eB _ _) (by omega) (by omega)]
theorem Th (x:ByteArray):bA [x]=[x]:=by
 unfold bA kW;rw [List.length_singleton,rf,List.map_singleton,zC]
theorem WA {L:List ByteArray} (h:2≤L.length):bA L=(List.range (2 ^ (L.length - 1) - 1)).flatMap (A7 L):=by
 obtain ⟨x,y,L,rfl⟩:∃x y L',L=x::y::L':=by
  cases L with
  | nil=>simp at h
  | cons x L =>
   cases L with
   | nil=>simp at h
   | cons y L=>exact ⟨x,y,L,rfl⟩
 unfold bA kW;have e1:(x::y::L).length=(y::L).length+1:=rfl;rw [e1,rf,List.map_flatMap,Nat.add_sub_cancel];refine iI fun bits hb=>?_;have hb:=List.mem_range.1 hb;have hd:=e_len (L:=x::y::L) h (bits:=bits) (by have:(x::y::L).length - 1=(y::L).length:=rfl;rw [this];omega);unfold A7 bA;rw [List.map_flatMap,List.flatMap_map];have ea:eA (x::y::L) bits=x::bh (fun i=>bits.testBit i) (y::L) (y::L).length:=rfl;have eb:eB (x::y::L) bits=bh (fun i=>!bits.testBit i) (y::L) (y::L).length:=rfl;rw [← ea,← eb]
 have f1:rf (y::L).length (eA (x::y::L) bits)=kW (eA (x::y::L) bits):=ye _ _ _ (by simp only [List.length_cons] at hd ⊢;omega) (Nat.le_refl _);have f2:rf (y::L).length (eB (x::y::L) bits)=kW (eB (x::y::L) bits):=ye _ _ _ (by simp only [List.length_cons] at hd ⊢;omega) (Nat.le_refl _);rw [f1,f2];refine iI fun a _=>?_;rw [List.map_map,List.map_map];refine List.map_congr_left fun b _=>?_;exact zD a b
theorem nY {L:List ByteArray} (h:L.length≤4):(bA L).length≤15:=by
 rw [← (GF L).length_eq];exact qu h
theorem zM {L:List ByteArray} (h:L.length≤4) (hz:∀x∈L,x.size≤20) {s:ByteArray} (hs:s∈bA L):s.size≤100:=uP h hz ((GF L).mem_iff.2 hs)
def oU (L:List ByteArray) (n:Nat):List ByteArray:=(List.range n).flatMap (A7 L)
theorem Qr (L:List ByteArray) (n:Nat):oU L (n+1)=oU L n++A7 L n:=by
 unfold oU;rw [List.range_succ,List.flatMap_append];simp
theorem Ti {L:List ByteArray} {bits:Nat} (ha:(eA L bits).length≤4) (hb:(eB L bits).length≤4):(A7 L bits).length≤225:=by
 unfold A7;have h1:=nY ha;have h2:=nY hb;have h3:=lY (f:=fun s=>(bA (eB L bits)).map fun t=>pairT s t) (K:=15) (bA (eA L bits)) fun s _=>by rw [List.length_map];exact h2
 have h4:(bA (eA L bits)).length*15≤15*15:=Nat.mul_le_mul_right _ h1;omega
theorem Tj {L:List ByteArray} (h2:2≤L.length) (h:L.length≤4) {n:Nat} (hn:n≤2 ^ (L.length - 1) - 1):(oU L n).length≤n*225:=by
 unfold oU;have h1:=lY (f:=A7 L) (K:=225) (List.range n) fun b hb=>by have hb:=List.mem_range.1 hb;have he:=e_len h2 (bits:=b) (by omega);exact Ti (by omega) (by omega)
 rw [List.length_range] at h1;exact h1
def pU (L:List ByteArray) (bits n:Nat):List ByteArray:=((bA (eA L bits)).take n).flatMap fun s=>(bA (eB L bits)).map fun t=>pairT s t
theorem Qs (L:List ByteArray) (bits:Nat) {n:Nat} (h:n<(bA (eA L bits)).length):pU L bits (n+1)=pU L bits n++(bA (eB L bits)).map fun t=>pairT (gs (bA (eA L bits)) n) t:=by
 have hg:gs (bA (eA L bits)) n=(bA (eA L bits))[n]:=by simp [gs,h]
 unfold pU;rw [List.take_succ_eq_append_getElem h,List.flatMap_append,hg];simp
theorem Tk (L:List ByteArray) (bits:Nat):pU L bits (bA (eA L bits)).length=A7 L bits:=by unfold pU A7;rw [List.take_length]
theorem Tl {L:List ByteArray} {bits n:Nat} (ha:(eA L bits).length≤4) (hb:(eB L bits).length≤4):(pU L bits n).length≤225:=by
 unfold pU;have h1:=nY ha;have h2:=nY hb;have h3:=lY (f:=fun s=>(bA (eB L bits)).map fun t=>pairT s t) (K:=15) ((bA (eA L bits)).take n) fun s _=>by rw [List.length_map];exact h2
 rw [List.length_take] at h3;have h4:(min n (bA (eA L bits)).length)*15≤15*15:=Nat.mul_le_mul_right _ (by omega);omega
def xP (L:List ByteArray) (bits n:Nat):List ByteArray:=gs L 0::bh (fun i=>bits.testBit i) L.tail n
def xQ (L:List ByteArray) (bits n:Nat):List ByteArray:=bh (fun i=>!bits.testBit i) L.tail n
theorem Qt (L:List ByteArray) (bits n:Nat) (h:n+1<L.length):xP L bits (n+1)=xP L bits n++(if bits.testBit n then [gs L (n+1)] else [])∧xQ L bits (n+1)=xQ L bits n++(if bits.testBit n then [] else [gs L (n+1)]):=by
 have hg:L.tail.getD n default=gs L (n+1):=by
  unfold gs;cases L with
  | nil=>simp at h
  | cons a l =>
   (have hl:n<l.length:=by simpa using h);simp [hl]
 unfold xP xQ;rw [ig,ig,hg];cases bits.testBit n<;>simp
theorem Jq (L:List ByteArray) (bits:Nat):xP L bits (L.length - 1)=eA L bits∧xQ L bits (L.length - 1)=eB L bits:=⟨rfl,rfl⟩
theorem WB {q:RT} {xs:List RT} (hs:xs.Pairwise eW) {k:Nat} (hk:k≤xs.length) (hhi:∀j,k≤j→j<xs.length→¬eW (xs.getD j (.node ByteArray.empty [])) q) (hlo:k=0∨eW (xs.getD (k - 1) (.node ByteArray.empty [])) q):(xs.take k++q::xs.drop k).Perm (q::xs)∧(xs.take k++q::xs.drop k).Pairwise eW:=by
 constructor
 ·refine List.perm_middle.trans ?_
  rw [List.take_append_drop]
 ·have hs2:=hs
  rw [← List.take_append_drop k xs,List.pairwise_append] at hs2;obtain ⟨h1,h2,h3⟩:=hs2;rw [List.pairwise_append,List.pairwise_cons];have hd:∀b∈xs.drop k,eW q b:=fun b hb=>by obtain ⟨j,hj,e⟩:=List.mem_iff_getElem.1 hb;rw [List.length_drop] at hj;rw [List.getElem_drop] at e;have:=hhi (k+j) (by omega) (by omega);rw [List.getD_eq_getElem?_getD,List.getElem?_eq_getElem (by omega),Option.getD_some,e] at this;exact eW.total this
  have ht:∀a∈xs.take k,eW a q:=fun a ha=>by
   rcases hlo with e | h
   ·subst e;simp at ha
   ·obtain ⟨j,hj,e⟩:=List.mem_iff_getElem.1 ha
    rw [List.length_take] at hj;rw [List.getElem_take] at e;rw [List.getD_eq_getElem?_getD,List.getElem?_eq_getElem (by omega),Option.getD_some] at h;by_cases ej:j=k - 1
    ·subst ej;rw [← e];exact h
    ·have:=List.pairwise_iff_getElem.1 hs j (k - 1) (by omega) (by omega) (by omega)
     rw [e] at this;exact this.trans h
  exact ⟨h1,⟨hd,h2⟩,fun a ha b hb=>by
   rcases List.mem_cons.1 hb with rfl | hb
   ·exact ht a ha
   ·exact (ht a ha).trans (hd b hb)⟩
theorem KO {names:List ByteArray} (hn:gY names) {q:RT} (hq:q∈bG names):(aV q).size≤1000∧r6 (aV q)=0∧pM (aV q)=flat q:=by
 obtain ⟨h1,h2,h3,h4,h5,h6⟩:=fB hn hq;have hg:=h1.good;have hp:iL (aV q).data.toList=some q:=by
  have e:(aV q).data.toList=txR q++[59]:=by unfold aV bT;simp
  rw [e];exact tJ hg.jg
 refine ⟨?_,by unfold r6;rw [hp];exact h5,by unfold pM;rw [hp];simp [h5]⟩;have hl:=x6 (M:=20) q fun s hs=>by
  rw [mq] at hs;obtain ⟨u,hu,rfl⟩:=List.mem_map.1 hs;by_cases e:u.kids=[]
  ·exact tX (hg.lf u hu e)
  ·rw [hg.CP u hu e];exact Nat.zero_le _
 have hs:(aV q).size=(bT q).length:=by unfold aV;rw [← size_data]
 have hk:(bT q).length=(txR q).length+1:=by unfold bT;simp
 have:=hn.hi;have h9:aL q*(20+3)≤9*23:=Nat.mul_le_mul_right _ (by omega);omega
theorem WC {names:List ByteArray} (hn:gY names) {qs:List RT} (hp:qs.Perm ((kW names.tail).map (uR names))) (hs:qs.Pairwise eW):qs=bG names:=by
 have h1:((kW names.tail).map (uR names)).Perm ((rt names.length names.tail).map (uR names)):=by have:rt names.length names.tail=jF names.tail:=nV _ _ _ (by simp) (Nat.le_refl _);rw [this];exact ((zL _).symm).map _
 refine uM (hp.trans (h1.trans (kB _).symm)) hs (sO _) fun r hr=>?_;have hr2:r∈bG names:=(kB _).mem_iff.2 (h1.mem_iff.1 (hp.mem_iff.1 hr));exact (fB hn hr2).1.good.jg
end
end Go.Proofs.YthgabkgmkolobaaGreat
