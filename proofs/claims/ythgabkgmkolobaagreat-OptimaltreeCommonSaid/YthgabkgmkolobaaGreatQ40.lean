/- slices.IndexFunc, slices.DeleteFunc at rows, with a function that grows the heap. The .. -/
import Derived.Test.YthgabkgmkolobaaGreatQ24
set_option maxRecDepth 100000
set_option maxHeartbeats 8000000
namespace Go.Proofs.YthgabkgmkolobaaGreat
section
open Go.RowKit Go.Deep
theorem yu {base:Nat} {e:TypeId} {w w':World} {v:Value} {vs:List Value} (h:ax base e w v vs) (k:Up w w'):ax base e w' v vs:=by
 refine h.fM fun b hb=>?_;obtain ⟨_,h2⟩:=h;rcases h2 with ⟨e1,_⟩ | ⟨g,cap,cur,e1,hg,hc,_⟩
 ·subst e1;cases hb
 ·subst e1
  injection hb with hb;subst hb
  exact bI k _ (by
   rcases Nat.lt_or_ge g w.heap.size with h | h
   ·exact h
   ·rw [S8 h] at hc;cases hc)
theorem Wy (S T:Nat->Prop) (w:World) (v u:Value) (t:az) (h:aI S w v t) (h2:aI T w u t) (hp:t.ps.length<=1000000) (hn:t.ns.length<=1000000) :
  Calls Tryz.prog 37 #[v,u] w fun e w'=>e=.returned (.bool true)/\Up w w':=by
 obtain ⟨P,N,rfl,hP,hN⟩:=h;obtain ⟨P2,N2,rfl,lD,mD⟩:=h2;obtain ⟨pp,pc,rfl,_,_⟩:=ay.open hP;obtain ⟨np,nc,rfl,_,_⟩:=ay.open hN;obtain ⟨z7,z8,rfl,_,_⟩:=ay.open lD;obtain ⟨Cx,Cy,rfl,_,_⟩:=ay.open mD;have hP:ah S w (.slice pp t.ps.length pc) t.ps:=hP;have hN:au S w (.slice np t.ns.length nc) t.ns:=hN;have lD:ah T w (.slice z7 t.ps.length z8) t.ps:=lD;have mD:au T w (.slice Cx t.ns.length Cy) t.ns:=mD;have bA:=Up.alloc w (.cells #[.slice pp t.ps.length pc,.slice np t.ns.length nc] 39)
 have aK:=Up.alloc (w.alloc (.cells #[.slice pp t.ps.length pc,.slice np t.ns.length nc] 39)) (.cells #[.slice z7 t.ps.length z8,.slice Cx t.ns.length Cy] 39);have hu:=bA.trans aK;have a0:=aK.cell (iU w (.slice pp t.ps.length pc) (.slice np t.ns.length nc) 39);have a1:=aK.cell (iV w (.slice pp t.ps.length pc) (.slice np t.ns.length nc) 39);have b0:=iU (w.alloc (.cells #[.slice pp t.ps.length pc,.slice np t.ns.length nc] 39)) (.slice z7 t.ps.length z8) (.slice Cx t.ns.length Cy) 39
 have b1:=iV (w.alloc (.cells #[.slice pp t.ps.length pc,.slice np t.ns.length nc] 39)) (.slice z7 t.ps.length z8) (.slice Cx t.ns.length Cy) 39;rw [aQ] at b0 b1;have HP:=aa (ah.keep hP (hu.kept S));have HN:=aa (au.keep hN (hu.kept S));have HP2:=aa (ah.keep lD (hu.kept T));have wC:=aa (au.keep mD (hu.kept T));have HU:=aa hu;have A0:=aa a0;have A1:=aa a1;have B0':=aa b0;have B1':=aa b1;have d0:((t.ps.length:Int) != (t.ps.length:Int))=false:=by simp
 have d1:((t.ns.length:Int) != (t.ns.length:Int))=false:=by simp
 clear hP hN lD mD hu bA aK
 go_enter Tryz.func37,Tryz.ntmps37
 go_wp2_with fail;clear a0 a1 b0 b1;generalize (w.alloc (.cells #[.slice pp t.ps.length pc,.slice np t.ns.length nc] 39)).alloc (.cells #[.slice z7 t.ps.length z8,.slice Cx t.ns.length Cy] 39)=w1 at *
 go_loopw [5] (fun i wr=>∃k:Nat,k<=t.ps.length/\i=.int .i64 k/\Hid (QD w1 wr)) (fun i _=>t.ps.length - (intOf i).toNat)
 case atStart=>exact ⟨0,aL _,rfl,QD.refl _⟩
 case round =>
  obtain ⟨k,hk,rfl,hQ⟩:=hrel;have a0:=hQ.out.up.cell A0.out;have b0:=hQ.out.up.cell B0'.out;by_cases hlt:k<t.ps.length
  ·obtain ⟨b,off,rfl,hc⟩:=dG (ah.keep HP.out (hQ.out.kept S)) hlt
   obtain ⟨b2,off2,rfl,hc2⟩:=dG (ah.keep HP2.out (hQ.out.kept T)) hlt;(have i1:(0:Int)<=(k:Int):=by omega);(have i2:(k:Int)<(t.ps.length:Int):=by omega);generalize gi t.ps k=x at *;(have j1:(x != x)=false:=by simp);go_wp2_with fail;(go_quiet (fail));go_wp2_with fail
   go_roundw
   case rel=>exact ⟨k+1,by omega,by go_num,hQ.out.drewN nq⟩
   case measure=>simp [intOf];omega
  ·obtain rfl:k=t.ps.length:=by omega
   have HQ0:=aa hQ.out;clear hlt hk;go_wp2_with fail
   go_loopw [6] (fun i wr=>∃k:Nat,k<=t.ns.length/\i=.int .i64 k/\Hid (QD w1 wr)) (fun i _=>t.ns.length - (intOf i).toNat)
   case atStart=>exact ⟨0,aL _,rfl,HQ0.out⟩
   case round =>
    obtain ⟨k,hk,rfl,hQ⟩:=hrel;have a1:=hQ.out.up.cell A1.out;have b1:=hQ.out.up.cell B1'.out;by_cases hlt:k<t.ns.length
    ·obtain ⟨b,off,rfl,hc⟩:=dr (au.keep HN.out (hQ.out.kept S)) hlt
     obtain ⟨b2,off2,rfl,hc2⟩:=dr (au.keep wC.out (hQ.out.kept T)) hlt;(have i1:(0:Int)<=(k:Int):=by omega);(have i2:(k:Int)<(t.ns.length:Int):=by omega);generalize gs t.ns k=x at *;(have j1:(x.toList==x.toList)=true:=by simp);go_wp2_with fail;(go_quiet (fail));go_wp2_with fail
     go_roundw
     case rel=>exact ⟨k+1,by omega,by go_num,hQ.out.drewN nq⟩
     case measure=>simp [intOf];omega
    ·obtain rfl:k=t.ns.length:=by omega
     clear hlt hk;go_wp2_with fail;go_ret;exact ⟨rfl,HU.out.trans hQ.out.up⟩
theorem fQ.keep {S:Nat->Prop} {w w':World} {v:Value} {ts:List az} (h:fQ S w v ts) (k:Kept S w w'):fQ S w' v ts:=by
 obtain ⟨p,cap,rfl,hn,h⟩:=h;refine ⟨p,cap,rfl,hn,?_⟩;rcases h with h | ⟨b,off,rfl,hS,h⟩
 ·exact .inl h
 ·refine .inr ⟨b,off,rfl,hS,fun i hi=>?_⟩
  obtain ⟨P,N,h1,h2,h3⟩:=h i hi;have hlt:b<w.heap.size:=eG w _ h1;have hc:∀o,w'.cell? ⟨b,o,none⟩=w.cell? ⟨b,o,none⟩:=fun o=>eX (a:=⟨b,o,none⟩) (k b hS hlt);exact ⟨P,N,(hc _).trans h1,(hc _).trans h2,h3.keep k⟩
theorem qd {S:Nat->Prop} {w:World} {p:Option Addr} {n cap:Nat} {ts:List az} (h:fQ S w (.slice p n cap) ts) {k:Nat} (hk:k<ts.length) :
  ∃b off pp pc np nc,p=some ⟨b,off,none⟩/\w.cell? ⟨b,off+k*2,none⟩=some (.slice pp (gt ts k).ps.length pc)/\w.cell? ⟨b,off+k*2+1,none⟩=some (.slice np (gt ts k).ns.length nc)/\aI S w (.agg #[.slice pp (gt ts k).ps.length pc,.slice np (gt ts k).ns.length nc]) (gt ts k):=by
 obtain ⟨q,c,e,_,h⟩:=h;injection e with e1;subst e1;rcases h with h | ⟨b,off,rfl,_,h⟩
 ·omega
 ·obtain ⟨P,N,h1,h2,h3⟩:=h k hk
  obtain ⟨P1,N1,e,hP,hN⟩:=h3;injection e with e;have e1:P=P1/\N=N1:=by simpa using e
  obtain ⟨rfl,rfl⟩:=e1;obtain ⟨pp,pc,rfl,_,_⟩:=ay.open hP;obtain ⟨np,nc,rfl,_,_⟩:=ay.open hN;exact ⟨b,off,pp,pc,np,nc,rfl,h1,h2,_,_,rfl,hP,hN⟩
theorem gi_extL {a b:List Int} (hl:a.length=b.length) (h:∀k,k<a.length->gi a k=gi b k):a=b:=by
 refine wM hl fun k h1 h2=>?_;have:=h k h1;simpa [gi,h1,h2] using this
theorem gs_extL {a b:List ByteArray} (hl:a.length=b.length) (h:∀k,k<a.length->gs a k=gs b k):a=b:=by
 refine wM hl fun k h1 h2=>?_;have:=h k h1;simpa [gs,h1,h2] using this
theorem tre_ext {t u:az} (h1:t.ps=u.ps) (h2:t.ns=u.ns):t=u:=by
 cases t;cases u;simp only at h1 h2;rw [h1,h2]
theorem X8 (S T:Nat->Prop) (w:World) (v u:Value) (t q:az) (h:aI S w v t) (h2:aI T w u q) (hp:t.ps.length<=1000000) (hn:t.ns.length<=1000000) (hne:t≠q) :
  Calls Tryz.prog 37 #[v,u] w fun e w'=>e=.returned (.bool false)/\Up w w':=by
 obtain ⟨P,N,rfl,hP,hN⟩:=h;obtain ⟨P2,N2,rfl,lD,mD⟩:=h2;obtain ⟨pp,pc,rfl,_,_⟩:=ay.open hP;obtain ⟨np,nc,rfl,_,_⟩:=ay.open hN;obtain ⟨z7,z8,rfl,_,_⟩:=ay.open lD;obtain ⟨Cx,Cy,rfl,_,_⟩:=ay.open mD;have hP:ah S w (.slice pp t.ps.length pc) t.ps:=hP;have hN:au S w (.slice np t.ns.length nc) t.ns:=hN;have lD:ah T w (.slice z7 q.ps.length z8) q.ps:=lD;have mD:au T w (.slice Cx q.ns.length Cy) q.ns:=mD;have bA:=Up.alloc w (.cells #[.slice pp t.ps.length pc,.slice np t.ns.length nc] 39)
 have aK:=Up.alloc (w.alloc (.cells #[.slice pp t.ps.length pc,.slice np t.ns.length nc] 39)) (.cells #[.slice z7 q.ps.length z8,.slice Cx q.ns.length Cy] 39);have hu:=bA.trans aK;have a0:=aK.cell (iU w (.slice pp t.ps.length pc) (.slice np t.ns.length nc) 39);have a1:=aK.cell (iV w (.slice pp t.ps.length pc) (.slice np t.ns.length nc) 39);have b0:=iU (w.alloc (.cells #[.slice pp t.ps.length pc,.slice np t.ns.length nc] 39)) (.slice z7 q.ps.length z8) (.slice Cx q.ns.length Cy) 39
 have b1:=iV (w.alloc (.cells #[.slice pp t.ps.length pc,.slice np t.ns.length nc] 39)) (.slice z7 q.ps.length z8) (.slice Cx q.ns.length Cy) 39;rw [aQ] at b0 b1;have HP:=aa (ah.keep hP (hu.kept S));have HN:=aa (au.keep hN (hu.kept S));have HP2:=aa (ah.keep lD (hu.kept T));have wC:=aa (au.keep mD (hu.kept T));have HU:=aa hu;have A0:=aa a0;have A1:=aa a1;have B0':=aa b0;have B1':=aa b1;have Hf:=aa hne;have kP:=aa (And.intro hp hn);clear hP hN lD mD hu bA aK hne hp hn
 by_cases l0:t.ps.length=q.ps.length
 rotate_left
 ·have d0:((t.ps.length:Int) != (q.ps.length:Int))=true:=bne_iff_ne.2 (by omega)
  go_enter Tryz.func37,Tryz.ntmps37
  go_wp2_with fail;go_ret;exact ⟨rfl,HU.out⟩
 by_cases l1:t.ns.length=q.ns.length
 rotate_left
 ·have d0:((t.ps.length:Int) != (q.ps.length:Int))=false:=by rw [l0];simp
  have d1:((t.ns.length:Int) != (q.ns.length:Int))=true:=bne_iff_ne.2 (by omega);have L0:=aa l0;clear l0
  go_enter Tryz.func37,Tryz.ntmps37
  go_wp2_with fail;go_ret;exact ⟨rfl,HU.out⟩
 have d0:((t.ps.length:Int) != (q.ps.length:Int))=false:=by rw [l0];simp
 have d1:((t.ns.length:Int) != (q.ns.length:Int))=false:=by rw [l1];simp
 have L0:=aa l0;have L1:=aa l1;clear l0 l1
 go_enter Tryz.func37,Tryz.ntmps37
 go_wp2_with fail;clear a0 a1 b0 b1;clear d0 d1;generalize (w.alloc (.cells #[.slice pp t.ps.length pc,.slice np t.ns.length nc] 39)).alloc (.cells #[.slice z7 q.ps.length z8,.slice Cx q.ns.length Cy] 39)=w1 at *
 go_loopw [5] (fun i wr=>∃k:Nat,k<=t.ps.length/\i=.int .i64 k/\Hid (QD w1 wr)/\Hid (∀j,j<k->gi t.ps j=gi q.ps j)) (fun i _=>t.ps.length - (intOf i).toNat)
 case atStart=>exact ⟨0,aL _,rfl,QD.refl _,fun j hj=>by omega⟩
 case round =>
  obtain ⟨k,hk,rfl,hQ,hd⟩:=hrel;have HD:=aa hd.out;clear hd;have a0:=hQ.out.up.cell A0.out;have b0:=hQ.out.up.cell B0'.out;by_cases hlt:k<t.ps.length
  ·obtain ⟨b,off,rfl,hc⟩:=dG (ah.keep HP.out (hQ.out.kept S)) hlt
   obtain ⟨b2,off2,rfl,hc2⟩:=dG (ah.keep HP2.out (hQ.out.kept T)) (by rw [<- L0.out];exact hlt);(have i1:(0:Int)<=(k:Int):=by omega);(have i2:(k:Int)<(t.ps.length:Int):=by omega);(have i4:(k:Int)<(q.ps.length:Int):=by have:=L0.out;omega);(have i3:(k:Int)<1000000:=by have:=kP.out.1;omega);have bu:=aa hlt;by_cases e:gi t.ps k=gi q.ps k
   ·have j1:(gi t.ps k != gi q.ps k)=false:=by rw [e];simp
    have HD2:Hid (∀j,j<k+1->gi t.ps j=gi q.ps j):=fun j hj=>by
     by_cases x:j=k
     ·rw [x];exact e
     ·exact HD.out j (by omega)
    clear e hlt hk;generalize gi t.ps k=x at *;generalize gi q.ps k=y at *;go_wp2_with fail;(go_quiet (fail));go_wp2_with fail
    go_roundw
    case rel=>exact ⟨k+1,bu.out,by go_num,hQ.out.drewN nq,HD2.out⟩
    case measure=>have:=bu.out;simp [intOf];omega
   ·have j1:(gi t.ps k != gi q.ps k)=true:=bne_iff_ne.2 e
    clear hlt hk;generalize gi t.ps k=x at *;generalize gi q.ps k=y at *;go_wp2_with fail;(go_quiet (fail));go_wp2_with fail;go_ret;exact ⟨rfl,HU.out.trans (hQ.out.drewN nq).up⟩
  ·obtain rfl:k=t.ps.length:=by omega
   have HQ0:=aa hQ.out;have HPS:Hid (t.ps=q.ps):=gi_extL L0.out HD.out;(have m1:¬(t.ps.length:Int)<(t.ps.length:Int):=by omega);clear hlt hk;go_wp2_with fail
   go_loopw [6] (fun i wr=>∃k:Nat,k<=t.ns.length/\i=.int .i64 k/\Hid (QD w1 wr)/\Hid (∀j,j<k->gs t.ns j=gs q.ns j)) (fun i _=>t.ns.length - (intOf i).toNat)
   case atStart=>exact ⟨0,aL _,rfl,HQ0.out,fun j hj=>by omega⟩
   case round =>
    obtain ⟨k,hk,rfl,hQ,hd⟩:=hrel;have HD:=aa hd.out;clear hd;have a1:=hQ.out.up.cell A1.out;have b1:=hQ.out.up.cell B1'.out;by_cases hlt:k<t.ns.length
    ·obtain ⟨b,off,rfl,hc⟩:=dr (au.keep HN.out (hQ.out.kept S)) hlt
     obtain ⟨b2,off2,rfl,hc2⟩:=dr (au.keep wC.out (hQ.out.kept T)) (by rw [<- L1.out];exact hlt);(have i1:(0:Int)<=(k:Int):=by omega);(have i2:(k:Int)<(t.ns.length:Int):=by omega);(have i4:(k:Int)<(q.ns.length:Int):=by have:=L1.out;omega);(have i3:(k:Int)<1000000:=by have:=kP.out.2;omega);have bu:=aa hlt;by_cases e:gs t.ns k=gs q.ns k
     ·have j1:((gs t.ns k).toList==(gs q.ns k).toList)=true:=by rw [e];simp
      have HD2:Hid (∀j,j<k+1->gs t.ns j=gs q.ns j):=fun j hj=>by
       by_cases x:j=k
       ·rw [x];exact e
       ·exact HD.out j (by omega)
      clear e hlt hk;generalize gs t.ns k=x at *;generalize gs q.ns k=y at *;go_wp2_with fail;(go_quiet (fail));go_wp2_with fail
      go_roundw
      case rel=>exact ⟨k+1,bu.out,by go_num,hQ.out.drewN nq,HD2.out⟩
      case measure=>have:=bu.out;simp [intOf];omega
     ·have j1:((gs t.ns k).toList==(gs q.ns k).toList)=false:=by
       rw [beq_eq_false_iff_ne,toList_data,toList_data]
       exact fun h=>e (j9 h)
      clear hlt hk e
      generalize gs t.ns k=x at *
      generalize gs q.ns k=y at *
      go_wp2_with fail
      go_quiet (fail)
      go_wp2_with fail
      go_ret
      exact ⟨rfl,HU.out.trans (hQ.out.drewN nq).up⟩
    ·obtain rfl:k=t.ns.length:=by omega
     exact absurd (tre_ext HPS.out (gs_extL L1.out HD.out)) Hf.out
theorem AO (S T:Nat->Prop) (w:World) (v u:Value) (t q:az) (h:aI S w v t) (h2:aI T w u q) (hp:t.ps.length<=1000000) (hn:t.ns.length<=1000000) :
  Calls Tryz.prog 37 #[v,u] w fun e w'=>e=.returned (.bool (decide (t=q)))/\Up w w':=by
 by_cases e:t=q
 ·subst e
  rw [decide_eq_true rfl];exact Wy S T w v u t h h2 hp hn
 ·rw [decide_eq_false e]
  exact X8 S T w v u t q h h2 hp hn e
theorem PL (S:Nat->Prop) (w:World) (v:Value) (aac:List ByteArray) (h:au S w v aac) (hn:aac.length<=1000000) (hz:∀k,(gs aac k).size<=70000) (h5:aac.length<=5\/7<aac.length) :
  Calls Tryz.prog 27 #[v] w (tV w aac):=by
 have je:=aa (ye S w v aac h hn hz);obtain ⟨p,cap,rfl,hcap,-⟩:=ay.open h;have h:au S w (.slice p aac.length cap) aac:=h;have EU:Hid (∀W,Up w W->dm aac=0->Calls Tryz.prog 68 #[.slice p aac.length cap] W (U7 W aac)):=fun W hW h0=>by
  have h5':aac.length<=5:=by
   rcases h5 with h5 | h5
   ·exact h5
   ·unfold dm at h0;rw [if_pos (.inr h5)] at h0;cases h0
  exact Rx S W _ aac ((mQ h5').1 h0) (au.keep h (hW.kept S))
 have HAC:Hid (dm aac=0->(allT aac).length<=15):=fun h0=>by
  have h5':aac.length<=5:=by
   rcases h5 with h5 | h5
   ·exact h5
   ·unfold dm at h0;rw [if_pos (.inr h5)] at h0;cases h0
  unfold allT;rw [aG,rO ((mQ h5').1 h0)];split<;>(try split)<;>(try split)<;>omega
 clear h hz h5
 go_enter Tryz.func27,Tryz.ntmps27
 go_wp2_with fail;refine je.out.mono ?_;rintro e w1 ⟨rfl,bA⟩;have cA:=aa bA;have VK:=aa (EU.out w1 bA);clear bA je EU;by_cases c1:dm aac=0
 ·have VL:=aa (VK.out c1)
  have kM:=aa (HAC.out c1);have kA:Hid (∀W v,Up w W->fQ Any W v (allT aac)->tV w aac (.returned (.tuple #[v,.int .i64 0])) W):=fun W v hu ht=>⟨hu,v,by rw [c1],by rw [if_pos c1];exact ht⟩;rw [c1];clear c1 VK HAC;go_wp2_with fail;refine VL.out.mono ?_;rintro e w2 ⟨aK,ev,rfl,Vv⟩;obtain ⟨eg,ec,rfl⟩:=RF Vv;have qO:=aa Vv;have bD:=aa (cA.out.trans aK);have gI:Hid ((allT aac).length=(cI aac).length):=by unfold allT;rw [aG];exact rfl
  have qP:Hid (AlI w2 aac 0 (.slice none 0 0) w2):=⟨Up.refl _,[],nw.nil _ _,by simp⟩;clear Vv aK VL cA;go_wp2_with fail
  go_loopw [7,9,25] (fun out _ i wr=>∃n:Nat,n<=(cI aac).length/\i=.int .i64 n/\Hid (AlI w2 aac n out wr)) (fun _ _ i _=>(cI aac).length - (intOf i).toNat)
  case atStart=>exact ⟨0,aL _,rfl,qP.out⟩
  case round =>
   obtain ⟨n,hn,rfl,hI⟩:=hrel;obtain ⟨wo,rfl⟩:∃wo:World,wo=wr:=⟨_,rfl⟩;obtain ⟨mL,es,hes,hem⟩:=hI.out;by_cases hlt:n<(cI aac).length
   ·have hEo:=qO.out.keep mL
    obtain ⟨pp,pc,np,nc,c0,c1,c2,hT⟩:=LZ qO.out hlt;replace c0:=mL.cell c0;replace c1:=mL.cell c1;replace c2:=mL.cell c2;(have hlt2:n<(allT aac).length:=by rw [gI.out];exact hlt);(have jv:es.length=n:=by have:=congrArg List.length hem;rw [aG,gV] at this;omega);have oy:Hid ((allT aac).take (n+1)=es.map (·.2)++[gt (allT aac) n]):=by unfold Hid;rw [Pt hlt2,hem]
    replace hT:aI (fun b=>b<w2.heap.size) wo (.agg #[.slice pp (gt (allT aac) n).ps.length pc,.slice np (gt (allT aac) n).ns.length nc]) (gt (allT aac) n):=aI.keep (hT.sub fun b _ hb=>hb) (mL.kept _);replace c0:wo.cell? ⟨eg,n*3,none⟩=some (.slice pp (gt (allT aac) n).ps.length pc):=c0;replace c1:wo.cell? ⟨eg,n*3+1,none⟩=some (.slice np (gt (allT aac) n).ns.length nc):=c1;generalize gt (allT aac) n=q at *;generalize cz ((cI aac).getD n (.node ByteArray.empty []))=key at *;obtain ⟨op,oc,rfl⟩:=hes.form;rw [jv]
    have cE:=Up.alloc wo (.cells #[.slice pp q.ps.length pc,.slice np q.ns.length nc,.string key] 96);have Dj:Hid (nw w2.heap.size (wo.alloc (.cells #[.slice pp q.ps.length pc,.slice np q.ns.length nc,.string key] 96)) (.slice op n oc) es):=by have h:=hes.up cE;rw [jv] at h;exact h
    (have U9:Hid (aI (fun b=>some b≠(Value.slice op n oc).ownBlock) (wo.alloc (.cells #[.slice pp q.ps.length pc,.slice np q.ns.length nc,.string key] 96)) (.agg #[.slice pp q.ps.length pc,.slice np q.ns.length nc]) q):=by have h2:=hes.1;rw [jv] at h2;exact (hT.keep (cE.kept _)).sub fun b hb _ e=>by have:=(j8 h2 b e.symm).1;omega);have Ob:=aa (mL.trans cE);have bu:=aa hlt2;have HLN2:=aa jv;(have i4:(n:Int)<((cI aac).length:Int):=by omega);(have i5:(n:Int)<16:=by have:=kM.out;omega);clear hI mL hes hem hlt hlt2 hT cE jv
    go_wp2_with (at_builtin;go_loud (refine Ca _ rfl _ _ 33 rfl w2.heap.size _ 48 Tryz.underlying33 Tryz.infoTree rfl (by decide) Dj.out rfl ((.slice pp q.ps.length pc,.slice np q.ns.length nc),q) (by rw [aQ];rfl) U9.out n HLN2.out (by have:=bu.out;have:=kM.out;omega) Ob.out.size ?_);intro g8 oz w8 fH ic B6;have Va:=aa fH;have qQ:=aa B6;clear fH ic B6)
    go_roundw
    case rel=>exact ⟨n+1,by have:=bu.out;rw [gI.out] at this;omega,by go_num,iH (show Below w2.heap.size w2 _ from Ob.out) qQ.out,_,Va.out,by rw [oy.out,cg];rfl⟩
    case measure=>have:=bu.out;rw [gI.out] at this;simp [intOf];omega
   ·obtain rfl:n=(cI aac).length:=by omega
    (have B7:es.map (·.2)=allT aac:=by rw [hem,<- gI.out,gh]);have tC:=aa (kA.out wo _ (bD.out.trans mL) (B7 ▸ hes.trees));clear hI mL hes hem B7 hlt;go_wp2_with fail;go_ret2;exact tC.out
 ·have kA:Hid (tV w aac (.returned (.tuple #[.slice none 0 0,.int .i64 (dm aac)])) w1):=⟨cA.out,_,rfl,by rw [if_neg c1];exact fQ.nil _ _⟩
  generalize dm aac=a at *;go_wp2_with fail;go_ret2;exact kA.out
end
end Go.Proofs.YthgabkgmkolobaaGreat
