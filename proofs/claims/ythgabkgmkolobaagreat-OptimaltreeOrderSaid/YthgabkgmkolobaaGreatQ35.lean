/- The contracts of parsimony.unit and Unit. The contracts of parsimony.Fitch and of the .. -/
import Derived.Test.YthgabkgmkolobaaGreatQ34
set_option maxRecDepth 100000
set_option maxHeartbeats 2000000
namespace Go.Proofs.YthgabkgmkolobaaGreat
section
open Go.RowKit Go.Deep
def II (w wr:World) (g0 N k:Nat):Prop:=Up w wr/\∃f,wr.rowIs g0 26 N f/\∀i,i<k->ay (fun b=>b≠g0) wr (f i) (mG N i)
theorem IJ {N k j:Nat} (hj:j<N):(if j=k then Value.int .i64 0 else if j<N then .int .i64 1 else .int .i64 0)=.int .i64 (gi (mG N k) j):=by
 rw [Cx hj];unfold Ip;by_cases h:j=k
 ·rw [if_pos h,if_pos h.symm]
 ·rw [if_neg h,if_pos hj,if_neg (fun e=>h e.symm)]
theorem II.step {w wr w8:World} {g0 g N k:Nat} (h:II w wr g0 N k) (hk:k<N) (hu:Up wr w8) (hg:wr.heap.size<=g) (hr:w8.heap[g]? = some (.cells (fA N N).toArray 3 (0,0))) (hw0:w.heap.size<=g0) :
  II w ((w8.setCell ⟨g0,k,none⟩ (.slice (some ⟨g,0,none⟩) N N)).setCell ⟨g,k,none⟩ (.int .i64 0)) g0 N (k+1):=by
 obtain ⟨fL,f,hrow,hin⟩:=h;have hg0:=hrow.lt;have hne:g0≠g:=by omega
 have CD:w8.rowIs g0 26 N f:=hrow.of_block (bH hu g0 hg0);have Zs:=(CD.set k (.slice (some ⟨g,0,none⟩) N N)).setOther (a:=⟨g,k,none⟩) hne (.int .i64 0);have hwg:w.heap.size<=g:=aR fL.size hg;refine ⟨((fL.trans hu).setCell (p:=⟨g0,k,none⟩) hw0 _).setCell (p:=⟨g,k,none⟩) hwg _,_,Zs,fun i hi=>?_⟩;by_cases hik:i=k
 ·subst hik
  simp only [if_true];refine ⟨_,_,by rw [u7],by rw [u7];exact ah _,.inr ⟨g,0,rfl,fun e=>hne e.symm,fun j hj=>?_⟩⟩;rw [u7] at hj;show _=some (Value.int .i64 (gi (mG N i) j));rw [ij,<- IJ hj];have hb:(w8.setCell ⟨g0,i,none⟩ (.slice (some ⟨g,0,none⟩) N N)).cell? ⟨g,j,none⟩=some (if j<N then .int .i64 1 else .int .i64 0):=by rw [vA (by simpa using hne)];exact uE hr hj
  have hb2:(w8.setCell ⟨g0,i,none⟩ (.slice (some ⟨g,0,none⟩) N N)).cell? ⟨g,i,none⟩=some (if i<N then .int .i64 1 else .int .i64 0):=by rw [vA (by simpa using hne)];exact uE hr hk
  by_cases e:j=i
  ·subst e;rw [if_pos rfl];exact Fi ⟨_,hb⟩
  ·rw [if_neg e]
   exact (World.cell?_setCell_other _ ⟨g,i,none⟩ ⟨g,j,none⟩ _ (fun h=>e (by injection h with _ h2;exact h2.symm))).trans hb
 ·simp only [hik,if_false]
  refine ay.keep (hin i (by omega)) (w:=wr) fun b hb hl=>?_;have h1:w8.heap[b]? = wr.heap[b]?:=bH hu b hl;rw [<- h1];exact (blk_setCell_other _ _ _ _ (by simp;omega)).trans (blk_setCell_other _ _ _ _ (by simpa using hb))
theorem XF (w:World) (N:Nat) (J9:1<=N) (hN:N<=16):Calls Tryz.prog 171 #[.int .i64 N] w (BX w (cn N)):=by
 have hmk:=fun W=>run_make_row' (P:=Tryz.prog) 23 26 (.slice none 0 0) 24 Tryz.underlying23 Tryz.Na rfl .i64 .i64 N (by omega) (by omega) W;have HO:Hid (II w (w.alloc (.cells (madeCells #[.slice none 0 0] N) 26)) w.heap.size N 0):=⟨Up.alloc _ _,_,World.rowIs_made w (.slice none 0 0) N 26,fun _ hi=>absurd hi (bS _)⟩
 go_enter Tryz.func171,Tryz.ntmps171
 go_wp2_with fail;generalize w.alloc (.cells (madeCells #[.slice none 0 0] N) 26)=w1 at *
 go_loopw [9] (fun i wr=>∃k:Nat,k<=N/\i=.int .i64 k/\Hid (II w wr w.heap.size N k)) (fun i _=>N - (intOf i).toNat)
 case atStart=>exact ⟨0,aI _,rfl,HO⟩
 case round =>
  obtain ⟨k,hk,rfl,hO⟩:=hrel;obtain ⟨wo,rfl⟩:∃wo:World,wo=wr:=⟨_,rfl⟩;by_cases hlt:k<N
  ·obtain ⟨fL,f,hrow,_⟩:=hO.out
   have hg0:=hrow.lt;have Lt:=aa hrow;have HRP:=aa (IG (wo.alloc (.cells #[.int .i64 1] 3)) wo.heap.size 0 N J9 (by omega) (aH _ _ _ 0));clear fL hrow;go_wp2_with fail;refine HRP.out.mono ?_;rintro e w8 ⟨g,rfl,hg,hu,hr⟩;rw [aL] at hg;have qP:Up wo w8:=(Up.alloc _ _).trans hu;have hst:=hO.out.step hlt qP (by omega) hr (ah _);have CD:=Lt.out.of_block (bH qP _ hg0);have hcell:w8.cell? ⟨w.heap.size,k,none⟩=some (f k):=CD.cell hlt;have hfz:w8.frozen? ⟨w.heap.size,k,none⟩=false:=CD.frozen k
   (have hcg:w8.cell? ⟨g,k,none⟩=some (.int .i64 1):=by have h:=uE hr hlt;rw [if_pos hlt] at h;exact h);(have hfg:w8.frozen? ⟨g,k,none⟩=false:=by simp [World.frozen?,hr]);(have hne:w.heap.size≠g:=by omega);(have CR:g≠w.heap.size:=by omega);have HST:=aa hst;clear hst CD hr hu qP Lt HRP hO;go_wp2_with fail
   go_roundw
   case rel=>exact ⟨k+1,by omega,by go_num,HST⟩
   case measure=>simp [intOf];omega
  ·obtain rfl:k=N:=by omega
   go_wp2_with fail;go_ret;obtain ⟨fL,f,hrow,hin⟩:=hO.out;refine ⟨fL,.slice (some ⟨w.heap.size,0,none⟩) k k,rfl,f,⟨_,_,by rw [mg],by rw [mg];exact ah _,.inr ⟨_,0,rfl,trivial,fun i hi=>?_⟩⟩,fun i hi=>?_⟩
   ·rw [mg] at hi
    rw [ij];exact hrow.cell hi
   ·rw [mg] at hi
    rw [Iq hi];exact (hin i hi).sub fun _ _ _=>trivial
def O5 (w:World) (t:aF) (st:List Int) (e:Ending) (w':World):Prop :=
 Up w w'/\e=.returned (.tuple #[.int .i64 (cQ t st (cn 16)),.int .i64 (iN t st (cn 16))])
theorem Zt:oy (cn 16)=0:=by decide +kernel
theorem Fw:(cn 16).length=16:=mg 16
theorem Zu {t:aF} (h:aB t=0) (st:List Int):iN t st (cn 16)=nE st (az t.ns).length (-1) 16:=by
 unfold iN;rw [if_neg (fun e=>e h),if_neg (fun e=>e Zt),Fw];rfl
theorem KR {t:aF} {st:List Int} {cs:List (List Int)} (h:iN t st cs≠0):cQ t st cs=0:=by unfold cQ;rw [if_neg h]
theorem RQ (T:Nat->Prop) (w:World) (vr:Value) (row:List Int) (hR:ay T w vr row) (U9:row.length<=1000) :
  Calls Tryz.prog 169 #[vr] w fun e w'=>e=.returned (.tuple #[.int .i64 (bJ (fun _=>0) (gi row) row.length).1,.int .i64 (bJ (fun _=>0) (gi row) row.length).2])/\w=w':=TQ T w vr row hR U9
theorem Uq (S:Nat->Prop) (w:World) (v vs:Value) (t:aF) (st:List Int) (hT:aC S w v t) (hS:ay S w vs st) (hp:t.ps.length<=1000000) (hn:t.ns.length<=1000000) (hz:∀k,(gs t.ns k).size<=70000) (hst:st.length<=1000000) :
  Calls Tryz.prog 124 #[v,vs] w (O5 w t st):=by
 obtain ⟨P,N,rfl,hP,hN⟩:=hT;have hu:=Up.alloc w (.cells #[P,N] 39);have kY:aC S (w.alloc (.cells #[P,N] 39)) (.agg #[P,N]) t:=aC.keep ⟨P,N,rfl,hP,hN⟩ (hu.kept S);have HK:=aa (AP S _ _ t kY hp hn hz);have HU:=aa hu;have jK:=aa (fO w P N 39);have gT:=aa (fP w P N 39);have HT:=aa kY;have HS:=aa (ay.keep hS (hu.kept S));have VC:=aa hz;clear hu kY hS hP hN hz
 go_enter Tryz.func124,Tryz.ntmps124
 go_wp2_with fail;generalize w.alloc (.cells #[P,N] 39)=w1 at *;refine HK.out.mono ?_;rintro e w2 ⟨hb,⟨he,rfl⟩ | ⟨he,vl,rfl,hl⟩⟩
 ·have bY:=aa (HU.out.trans (show Up w1 w2 from hb))
  have HE:=aa he;clear hb he HK;go_wp2_with fail;go_ret2;have hpe:iN t st (cn 16)=1:=by unfold iN;rw [if_pos HE.out]
  exact ⟨bY.out,by rw [KR (by rw [hpe];decide),hpe];rfl⟩
 ·have aJ:Up w1 w2:=hb
  have hc0:=aJ.cell jK.out;have hc1:=aJ.cell gT.out;have bY:=aa (HU.out.trans aJ);have uk:=aa (HT.out.keep (aJ.kept S));have mM:=aa (ay.keep HS.out (aJ.kept S));obtain ⟨ql,acq,rfl,_,_⟩:=aA.open hl;have HE:=aa he;have HKN:=aa (TP S w2 vs st (az t.ns).length (-1) 16 mM.out hst);have y6:=aa (Zu he st);clear hb he HK aJ hl HU jK gT HT HS;go_wp2_with fail;refine HKN.out.mono ?_;rintro e w3 ⟨rfl,hb3⟩;have dg:Up w2 w3:=hb3;have hc0:=dg.cell hc0;have hc1:=dg.cell hc1;have ek:=aa (bY.out.trans dg)
  have XG:=aa (uk.out.keep (dg.kept S));have E2:=aa (ay.keep mM.out (dg.kept S));clear hb3 dg HKN;rw [<- y6.out];by_cases hpe:iN t st (cn 16)=0
  ·rw [hpe]
   have hv:=FD hpe;(have HF:Hid (cQ t st (cn 16)=(bJ (fun _=>0) (gi (aW t st (cn 16) 0)) (cn 16).length).1):=by unfold Hid cQ;rw [if_pos hpe]);have HP:=aa hpe;have BS:Hid (∀W vc,Up w3 W->bh Any W vc (cn 16)->Calls Tryz.prog 170 #[.agg #[P,N],vs,vc] W (KQ W t st (cn 16))):=fun W vc hW hR =>
    (TT Any W _ _ _ t st (cn 16) ((XG.out.keep (hW.kept _)).sub fun _ _ _=>trivial) (ay.sub (ay.keep E2.out (hW.kept _)) fun _ _ _=>trivial) hR VC.out hv).mono fun _ _ h=>tb1 hv h
   (have hml:(aW t st (cn 16) 0).length<=1000:=by rw [gD,Fw];omega);(have abR:(0:Int)<(t.ps.length:Int):=by have:=(aM HE.out).1;omega);have vM:=aa hml;have Z6:=aa (Up.refl w3);have fL:Hid (Up w3 (w3.drewN 1)):=Up.drewN w3 1;clear hpe hv hml;go_wp2_with fail
   go_region_with (first
    | (go_at_call 171;refine (XF _ 16 (by decide) (by decide)).mono ?_;rintro e w5 ⟨oD,vc,rfl,Ex⟩;have hR5:=aa Ex;have hc0:=(fL.out.trans (show Up _ w5 from oD)).cell hc0;have hc1:=(fL.out.trans (show Up _ w5 from oD)).cell hc1;have fL:Hid (Up w3 w5):=fL.out.trans (show Up _ w5 from oD);clear oD Ex)
    | (go_at_call 170;refine (BS.out _ _ fL.out hR5.out).mono ?_;rintro e w6 ⟨tb,XC,XD,rq,rc,rfl,hcell,hrow,XH⟩;have hR6:=aa hrow;have fL:Hid (Up w3 w6):=fL.out.trans XH;clear XH hrow)
    | (go_at_call 169;refine (RQ Any _ _ _ hR6.out vM.out).mono ?_;rintro e w7 ⟨rfl,rfl⟩))
   all_goals
    go_wp2_with fail;go_ret2;exact ⟨ek.out.trans fL.out,by rw [HF.out,HP.out,Fw,gD,Fw];rfl⟩
  ·have B5:(iN t st (cn 16) != 0)=true:=by simpa using hpe
   have HP:=aa hpe;clear hpe;have rG:Hid (cQ t st (cn 16)=0):=KR HP.out;go_wp2_with fail;go_ret2;exact ⟨ek.out,by rw [rG.out];rfl⟩
def uG (t:aF) (acw:List ByteArray) (acy:List (List Int)):Value:=.tuple #[.int .i64 (if ri t acw then cE t acw acy else 0),.int .i64 (if ri t acw then 0 else 9)]
theorem zU {f:Nat->Int}:∀ {n:Nat},(∀p,p<n->0<=f p/\f p<=100000)->0<=cz f n/\cz f n<=100000*n
 | 0,_=>⟨nw _,nw _⟩
 | n+1,h=>by
  have h1:=zU (f:=f) (n:=n) fun p hp=>h p (by omega)
  have h2:=h n (by omega)
  rw [fS]
  omega
theorem IK {acy:List (List Int)} (h:cB acy=0):acy.length<=32/\(gl acy 0).length<=4096:=by
 unfold cB at h;split at h
 ·cases h
 ·split at h
  ·cases h
  ·rename_i h1;omega
theorem O6 (S:Nat->Prop) (w:World) (v vn vs:Value) (t:aF) (acw:List ByteArray) (acy:List (List Int)) (hT:aC S w v t) (ht:aB t=0) (hz:∀k,(gs t.ns k).size<=70000) (h:av S w vn acw) (hS:bh S w vs acy) (hc:qc acw acy) :
  Calls Tryz.prog 69 #[v,vn,vs] w fun e w'=>e=.returned (uG t acw acy)/\Up w w':=by
 obtain ⟨hp1,C8,hnl,hok,-⟩:=aM ht;have hlv:=uP t.ns;obtain ⟨P,N,rfl,hP,hN⟩:=hT;obtain ⟨np,nc,rfl,-,-⟩:=aA.open hN;have hN:av S w (.slice np t.ns.length nc) t.ns:=hN;obtain ⟨pp,pc,rfl,-,-⟩:=aA.open hP;have hP:ay S w (.slice pp t.ps.length pc) t.ps:=hP;obtain ⟨mp,mc,rfl,-,-⟩:=aA.open h;have h:av S w (.slice mp acw.length mc) acw:=h;obtain ⟨sp,sc,rfl,-,-⟩:=gM hS;obtain ⟨ag0,agr⟩:=zT hc.ag;obtain ⟨XI,ag4⟩:=IK hc.ag;have bw:Up w (w.alloc (.cells #[.slice pp t.ps.length pc,.slice np t.ns.length nc] 39)):=Up.alloc _ _
 have hrb:=jv (w:=w) (P:=.slice pp t.ps.length pc) (N:=.slice np t.ns.length nc) (T:=39);obtain ⟨q0,q1,-,-⟩:=boxed hrb;have kY:aC S (w.alloc (.cells #[.slice pp t.ps.length pc,.slice np t.ns.length nc] 39)) (.agg #[.slice pp t.ps.length pc,.slice np t.ns.length nc]) t:=⟨_,_,rfl,ay.keep hP (bw.kept S),av.keep hN (bw.kept S)⟩;have nR:=aa (RN S (w.alloc (.cells #[.slice pp t.ps.length pc,.slice np t.ns.length nc] 39)) _ _ t acw kY (by omega) (by omega) hz (av.keep h (bw.kept S)) (by have:=hc.nm.hi;omega));have Es:=aa kY
 have ni:=aa (bh.keep hS (bw.kept S));have b9:=aa bw;have HB:Hid (xU t acw=ri t acw):=by unfold Hid xU;rw [decide_eq_true ht];rfl
 have rF:Hid (∀W v u st,aC S W v t->ay Any W u st->st.length<=64->Calls Tryz.prog 124 #[v,u] W (O5 W t st)):=fun W v u st h1 h2 h3=>Uq Any W v u t st (h1.sub fun _ _ _=>trivial) h2 (by omega) (by omega) hz (by omega);have vW:=aa agr;have CE:=aa (And.intro ag0 (And.intro XI ag4));have IE:Hid ((az t.ns).length<=64):=by unfold Hid;omega
 have KT:=aa hc.len;have HST:Hid (uG t acw acy=.tuple #[.int .i64 (if ri t acw then cE t acw acy else 0),.int .i64 (if ri t acw then 0 else 9)]):=rfl;have HVA:Hid (ri t acw=true->∀p,p<(gl acy 0).length->cQ t (jm t acw acy p) (cn 16)<=100000/\0<=cQ t (jm t acw acy p) (cn 16)/\iN t (jm t acw acy p) (cn 16)=0):=fun hf p hp=>by have hv:=nY hc ((Iw hc.nm ht).1 hf) hp;exact ⟨DL hv,su hv,hv.par⟩
 have HFD:Hid (ri t acw=true->∀j,j<(az t.ns).length->∃b:Nat,gi (uC t acw (az t.ns).length) j=b/\b<acw.length):=fun hf j hj=>by have ho:=(Iw hc.nm ht).1 hf;obtain ⟨v,hv,xI,hv0⟩:=wM hj;obtain ⟨b,hb,_,e⟩:=Ir ho (show v<t.ps.length by omega) hv0;exact ⟨b,by rw [O3 hj,hv,jd,e],hb⟩
 clear hP hN h hS bw hrb hz kY hc ht agr ag0 XI ag4 hok hp1 C8 hnl hlv
 go_enter Tryz.func69,Tryz.ntmps69
 go_wp2_with fail;generalize w.alloc (.cells #[.slice pp t.ps.length pc,.slice np t.ns.length nc] 39)=w1 at *;refine nR.out.mono ?_;rintro e w2 ⟨aJ,pv,rfl,hpv⟩;rw [HB.out] at hpv ⊢;cases hfit:ri t acw
 ·have CB:Hid (uG t acw acy=.tuple #[.int .i64 0,.int .i64 9]):=by unfold Hid;rw [HST.out,hfit];rfl
  have iZ:Hid (Ending.returned (.tuple #[.int .i64 0,.int .i64 9])=Ending.returned (uG t acw acy)/\Up w w2):=⟨by rw [CB.out],b9.out.trans aJ⟩;clear hpv aJ nR;go_wp2_with fail;go_ret2;exact iZ.out
 ·have hpi:=hpv hfit
  obtain ⟨rp,rc,rfl,-,-⟩:=aA.open hpi;rw [vX] at hpi;rw [vX];have Vg:=aa hpi;have CB:Hid (uG t acw acy=.tuple #[.int .i64 (cE t acw acy),.int .i64 0]):=by unfold Hid;rw [HST.out,hfit];rfl
  have XJ:=aa (HVA.out hfit);have aaR:=aa (HFD.out hfit);have bY:=aa (b9.out.trans aJ);have uk:=aa (Es.out.keep (aJ.kept S));have mM:=aa (ni.out.keep (aJ.kept S));have HQ:=aa (And.intro (aJ.cell q0) (aJ.cell q1));obtain ⟨sb,so,s0,s1,rfl,hc0,jL⟩:=iP mM.out CE.out.1;rw [nA] at hc0;have i1:(0:Int)<(acy.length:Int):=by have:=CE.out.1;omega
  clear hpv hpi aJ nR Es ni HST HVA HFD q0 q1 jL b9;go_wp2_with fail;have IL:Hid (∀n:Nat,n<=(gl acy 0).length->0<=cz (fun p=>cQ t (jm t acw acy p) (cn 16)) n/\cz (fun p=>cQ t (jm t acw acy p) (cn 16)) n<=100000*n):=fun n hn=>zU fun p hp=>by obtain ⟨h1,h2,_⟩:=XJ.out p (by omega);exact ⟨h2,h1⟩
  have vw:Hid (∀n:Nat,cz (fun p=>cQ t (jm t acw acy p) (cn 16)) (n+1)=cz (fun p=>cQ t (jm t acw acy p) (cn 16)) n+cQ t (jm t acw acy n) (cn 16)):=fun n=>rfl;have XK:Hid (cE t acw acy=cz (fun p=>cQ t (jm t acw acy p) (cn 16)) (gl acy 0).length):=rfl;generalize hF:(fun n=>cz (fun p=>cQ t (jm t acw acy p) (cn 16)) n)=F at *;have KU:∀n,cz (fun p=>cQ t (jm t acw acy p) (cn 16)) n=F n:=fun n=>by rw [<- hF]
  have HF0:Hid (F 0=0):=by unfold Hid;rw [<- KU];rfl
  have IL:Hid (∀n:Nat,n<=(gl acy 0).length->0<=F n/\F n<=100000*n):=fun n hn=>by rw [<- KU];exact IL.out n hn
  have vw:Hid (∀n:Nat,F (n+1)=F n+cQ t (jm t acw acy n) (cn 16)):=fun n=>by rw [<- KU,<- KU];exact vw.out n
  have XK:Hid (cE t acw acy=F (gl acy 0).length):=by unfold Hid;rw [<- KU];exact XK.out
  clear hF KU
  go_loopw [10,11,12,14,15,16,29] (fun s _ _ _ _ _ i wr=>∃n:Nat,n<=(gl acy 0).length/\i=.int .i64 n/\s=.int .i64 (F n)/\Hid (Up w2 wr)) (fun _ _ _ _ _ _ i _=>(gl acy 0).length - (intOf i).toNat)
  case atStart=>exact ⟨0,aI _,rfl,by rw [HF0.out],Up.refl _⟩
  case round =>
   obtain ⟨n,hn,rfl,rfl,hU⟩:=hrel;obtain ⟨wo,rfl⟩:∃wo:World,wo=wr:=⟨_,rfl⟩;by_cases hlt:n<(gl acy 0).length
   ·have i2:(n:Int)<((gl acy 0).length:Int):=by omega
    (have i3:(n:Int)<4096:=by have:=CE.out.2.2;omega);(have i4:(0:Int)<=(n:Int):=by omega);have vG:=IL.out n hn;have hf2:=IL.out (n+1) hlt;rw [vw.out n] at hf2;obtain ⟨XL,hv2,hv3⟩:=XJ.out n hlt;have HV:=aa (And.intro vG (And.intro hf2 (And.intro XL (And.intro hv2 hv3))));have CF:Hid (ax wo.heap.size 3 wo (.slice none 0 0) ((o5 t acw (cI acy n) 0).map (Value.int .i64))/\Up wo wo):=⟨ax.nil _ _ _,Up.refl _⟩;clear vG hf2 XL hv2 hv3;go_wp2_with fail
    go_loopw [12,14,34] (fun o _ i wr=>∃j:Nat,j<=(az t.ns).length/\i=.int .i64 j/\Hid (ax wo.heap.size 3 wr o ((o5 t acw (cI acy n) j).map (Value.int .i64))/\Up wo wr)) (fun _ _ i _=>(az t.ns).length - (intOf i).toNat)
    case atStart=>exact ⟨0,aI _,rfl,CF.out⟩
    case round =>
     obtain ⟨j,hj,rfl,hI⟩:=hrel;obtain ⟨wi,rfl⟩:∃wi:World,wi=wr:=⟨_,rfl⟩;obtain ⟨hA,gu⟩:=hI.out;by_cases hlj:j<(az t.ns).length
     ·obtain ⟨b,hb1,hb2⟩:=aaR.out j hlj
      obtain ⟨xb,xo,rfl,sA⟩:=gp (ay.keep Vg.out ((hU.out.trans gu).kept _)) (k:=j) (by rw [vX];exact hlj);rw [hb1] at sA;(have sH:b<acy.length:=by rw [KT.out];exact hb2);obtain ⟨rb,ro,r0,r1,er,XM,hir⟩:=iP (bh.keep mM.out ((hU.out.trans gu).kept S)) sH;injection er with er;injection er with XN XO;subst XN;subst XO;rw [(vW.out b sH).1] at XM;obtain ⟨yb,yo,rfl,hcy⟩:=gp hir (k:=n) (by rw [(vW.out b sH).1];exact hlt)
      (have lK:Hid ((o5 t acw (cI acy n) (j+1)).map (Value.int .i64)=(o5 t acw (cI acy n) j).map (Value.int .i64)++[.int .i64 (gi (gl acy b) n)]):=by unfold Hid;(have e2:iW acw (gs t.ns (gi (az t.ns) j).toNat)=b:=by rw [<- O3 hlj];exact hb1);rw [OU,cm,e2,jd,ze _ _ sH];rfl);(have iu:Hid (((o5 t acw (cI acy n) j).map (Value.int .i64)).length=j):=by unfold Hid;rw [aD,tE]);have HA:=aa hA;have Tk:=aa gu;have hsz:=gu.size;have k1:(0:Int)<=(j:Int):=by omega
      (have k2:(j:Int)<((az t.ns).length:Int):=by omega);(have k3:(j:Int)<64:=by have:=IE.out;omega);(have k4:(0:Int)<=(b:Int):=by omega);(have k5:(b:Int)<(acy.length:Int):=by omega);generalize gi (gl acy b) n=y at *;clear hI hA gu hlj hir hb1 hb2 sH;go_wp2_with (at_builtin;refine uS wi rfl _ _ 26 rfl wo.heap.size 3 _ 8 Tryz.underlying26 Tryz.mA rfl (by decide) HA.out rfl _ rfl rfl j iu.out (by omega) hsz ?_;intro g cap w8 hown1 hg1 oK)
      (have y8:Hid (ax wo.heap.size 3 w8 (.slice (some ⟨g,0,none⟩) (j+1) cap) ((o5 t acw (cI acy n) (j+1)).map (Value.int .i64))):=by unfold Hid;rw [lK.out];exact hown1);have nj:Hid (Up wo w8):=fc Tk.out oK;clear hown1 hg1 oK
      go_roundw
      case rel=>exact ⟨j+1,by omega,by go_num,y8.out,nj.out⟩
      case measure=>simp [intOf];omega
     ·obtain rfl:j=(az t.ns).length:=by omega
      obtain ⟨op,oc,rfl,-⟩:=hA.form (n:=(az t.ns).length) (by rw [aD,tE]);have HFT:=aa (rF.out wi _ (.slice op (az t.ns).length oc) (jm t acw acy n) (uk.out.keep ((hU.out.trans gu).kept S)) (hA.ints.sub fun _ _ _=>trivial) (by unfold jm;rw [tE];exact IE.out));have q0:=(hU.out.trans gu).cell HQ.out.1;have q1:=(hU.out.trans gu).cell HQ.out.2;have XP:=aa (hU.out.trans gu);have B2:=aa (vw.out n);clear hI hA gu hlj hj;obtain ⟨vG,hf2,XL,hv2,hv3⟩:=HV.out;have HV3:=aa hv3;clear hv3;generalize F n=fn at *;go_wp2_with fail
      refine HFT.out.mono ?_;rintro e w9 ⟨uH,rfl⟩;have Tm:=aa (XP.out.trans uH);rw [HV3.out];clear uH HFT;generalize cQ t (jm t acw acy n) (cn 16)=z at *;(have hb9:fn+z<=409600000/\0<=fn+z:=by constructor<;>omega);go_wp2_with fail
      go_roundw
      case rel=>exact ⟨n+1,by omega,by go_num,by rw [B2.out],Tm.out⟩
      case measure=>simp [intOf];omega
   ·obtain rfl:n=(gl acy 0).length:=by omega
    have iZ:Hid (Ending.returned (.tuple #[.int .i64 (F (gl acy 0).length),.int .i64 0])=Ending.returned (uG t acw acy)/\Up w wo):=⟨by rw [CB.out,XK.out],bY.out.trans hU.out⟩;clear hlt;go_wp2_with fail;go_ret2;exact iZ.out
theorem Ur {acw:List ByteArray} (h5:acw.length<=5\/7<acw.length) (h0:dK acw=0):acw.length<=5:=by
 rcases h5 with h5 | h5
 ·exact h5
 ·unfold dK at h0;rw [if_pos (.inr h5)] at h0;cases h0
theorem Mu {acw:List ByteArray} {acy:List (List Int)} (h5:acw.length<=5\/7<acw.length) (h0:iY acw acy=0):qc acw acy:=by
 have h1:dK acw=0:=by
  unfold iY at h0;split at h0
  ·rename_i h;exact absurd h0 h
  ·rename_i h;omega
 exact (Bo (Ur h5 h1)).1 h0
end
section
theorem jJ {α β:Type} {f g:α->List β}:∀ {l:List α},(∀a∈l,f a=g a)->l.flatMap f=l.flatMap g
 | [],_=>rfl
 | a::l,h=>by
  rw [fZ,fZ,h a (by simp),jJ fun b hb=>h b (by simp [hb])]
theorem E3 {α:Type} [Inhabited α] (L:List α) {bits:Nat} (h1:1<=bits) (h2:bits<2 ^ L.length):1<=(aZ (fun i=>bits.testBit i) L L.length).length/\(aZ (fun i=>bits.testBit i) L L.length).length+(aZ (fun i=>!bits.testBit i) L L.length).length=L.length:=by
 have h3:=(k8 (fun i=>bits.testBit i) L (n:=L.length) (ah _)).length_eq;rw [bg,dD] at h3;refine ⟨?_,by omega⟩;rcases zG (aZ (fun i=>bits.testBit i) L L.length).length with e | e
 ·exfalso
  have h5:aZ (fun i=>bits.testBit i) L L.length=[]:=lu e;have hz:bits=0:=Nat.eq_of_testBit_eq fun i=>by
   rw [Nat.zero_testBit];by_cases hi:i<L.length
   ·cases hb:bits.testBit i
    ·rfl
    ·have:L.getD i default∈aZ (fun i=>bits.testBit i) L L.length:=gO.2 ⟨i,hi,hb,rfl⟩
     rw [h5] at this;cases this
   ·exact Nat.testBit_lt_two_pow (mm h2 (x9 (by decide) (by omega)))
  omega
 ·exact e
theorem qf {α:Type} [Inhabited α]:∀(d e:Nat) (L:List α),L.length<=d->L.length<=e->rt d L=rt e L
 | 0,e,L,h,_=>by
  have:L=[]:=lu (by omega)
  subst this
  cases e<;>rfl
 | d+1,0,L,_,h=>by
  have:L=[]:=lu (by omega)
  subst this;rfl
 | _+1,_+1,[],_,_=>rfl
 | _+1,_+1,[x],_,_=>rfl
 | d+1,e+1,x::y::L,h1,h2=>by
  rw [rt,rt]
  refine jJ fun bits hb=>?_
  rw [List.mem_range'_1] at hb
  obtain ⟨p1,p2⟩:=E3 (y::L) (bits:=bits) hb.1 (by omega)
  have hl:(y::L).length=L.length+1:=rfl
  rw [aO,hl] at h1 h2
  rw [qf d e (x::_) (by rw [aO];omega) (by rw [aO];omega),qf d e (aZ _ _ _) (by omega) (by omega)]
def dA (L:List ByteArray) (bits:Nat):List ByteArray:=gs L 0::aZ (fun i=>!bits.testBit i) L.tail (L.length - 1)
def dB (L:List ByteArray) (bits:Nat):List ByteArray:=aZ (fun i=>bits.testBit i) L.tail (L.length - 1)
def k6 (L:List ByteArray):List (BT ByteArray):=rt L.length L
def jO (r:BT ByteArray):ByteArray:=⟨(bF (dy r)).toArray⟩
def bM (L:List ByteArray):List ByteArray:=(k6 L).map jO
def pairT (s t:ByteArray):ByteArray:=⟨#[40]⟩++s++⟨#[44]⟩++t++⟨#[41]⟩
def CG (L:List ByteArray) (bits:Nat):List ByteArray:=(bM (dA L bits)).flatMap fun s=>(bM (dB L bits)).map fun t=>pairT s t
theorem Br (x:ByteArray):jO (.leaf x)=x:=by
 unfold jO;rw [dy,xu]
theorem Bu (a b:BT ByteArray):jO (.node a b)=pairT (jO a) (jO b):=by
 unfold pairT;apply fH;unfold jO;rw [Th];simp
theorem Mv {L:List ByteArray} (h:2<=L.length) {bits:Nat} (h1:1<=bits) (h2:bits<2 ^ (L.length - 1)):(dA L bits).length<L.length/\1<=(dA L bits).length/\(dB L bits).length<L.length/\1<=(dB L bits).length:=by
 have hl:L.tail.length=L.length - 1:=by simp
 obtain ⟨p1,p2⟩:=E3 L.tail (bits:=bits) h1 (by rw [hl];exact h2);unfold dA dB;rw [aO,<- hl];omega
theorem Us (x:ByteArray):bM [x]=[x]:=by
 unfold bM k6;rw [BH,rt,List.map_singleton,Br]
theorem XQ {L:List ByteArray} (h:2<=L.length):bM L=(List.range' 1 (2 ^ (L.length - 1) - 1)).flatMap (CG L):=by
 obtain ⟨x,y,L,rfl⟩:∃x y L',L=x::y::L':=by
  cases L with
  | nil=>simp at h
  | cons x L =>
   cases L with
   | nil=>simp at h
   | cons y L=>exact ⟨x,y,L,rfl⟩
 unfold bM k6;have e1:(x::y::L).length=(y::L).length+1:=rfl;rw [e1,rt,tX,Nat.add_sub_cancel];refine jJ fun bits hb=>?_;rw [List.mem_range'_1] at hb;have hd:=Mv (L:=x::y::L) h (bits:=bits) hb.1 (by have:(x::y::L).length - 1=(y::L).length:=rfl;rw [this];omega);unfold CG bM;rw [tX,zw];have ea:dA (x::y::L) bits=x::aZ (fun i=>!bits.testBit i) (y::L) (y::L).length:=rfl;have eb:dB (x::y::L) bits=aZ (fun i=>bits.testBit i) (y::L) (y::L).length:=rfl;rw [<- ea,<- eb]
 have f1:rt (y::L).length (dA (x::y::L) bits)=k6 (dA (x::y::L) bits):=qf _ _ _ (by simp only [aO] at hd ⊢;omega) (ah _);have f2:rt (y::L).length (dB (x::y::L) bits)=k6 (dB (x::y::L) bits):=qf _ _ _ (by simp only [aO] at hd ⊢;omega) (ah _);rw [f1,f2];refine jJ fun a _=>?_;rw [jS,jS];refine jR fun b _=>?_;exact Bu a b
theorem IM {L:List ByteArray}:∀ {n:Nat},L.length=n->n<=4->(k6 L).length=if n=0 then 0 else if n=1 then 1 else if n=2 then 1 else if n=3 then 3 else 15:=by
 intro n hn h4;have e:L=((List.range n).map fun i=>gs L i):=by
  apply tU
  ·simp [hn]
  ·intro i h1 h2
   simp [gs,h1]
 unfold k6;rw [hn];have e2:rt n L=(rt n (List.range n)).map (BT.map fun i=>gs L i):=by rw [<- Cv];exact congrArg (rt n) e
 rw [e2,aD];obtain rfl | rfl | rfl | rfl | rfl:n=0\/n=1\/n=2\/n=3\/n=4:=by omega
 ·decide +kernel
 ·decide +kernel
 ·decide +kernel
 ·decide +kernel
 ·decide +kernel
theorem sg {L:List ByteArray} (h:L.length<=4):(bM L).length<=15:=by
 unfold bM;rw [aD,IM rfl h];split<;>(try split)<;>(try split)<;>(try split)<;>omega
theorem Ut {L:List ByteArray} (h:L.length<=4) (h1:1<=L.length):1<=(bM L).length:=by
 unfold bM;rw [aD,IM rfl h];split<;>(try split)<;>(try split)<;>(try split)<;>omega
theorem nK {α β:Type} {f:α->List β} {K:Nat}:∀l:List α,(∀a∈l,(f a).length<=K)->(l.flatMap f).length<=l.length*K
 | [],_=>by simp
 | a::l,h=>by
  rw [fZ,bg,aO,Nat.succ_mul]
  have h1:=h a (by simp)
  have h2:=nK l fun b hb=>h b (by simp [hb])
  omega
theorem Uu {L:List ByteArray} {bits:Nat} (ha:(dA L bits).length<=4) (hb:(dB L bits).length<=4):(CG L bits).length<=225:=by
 unfold CG;have h1:=sg ha;have h2:=sg hb;have h3:=nK (f:=fun s=>(bM (dB L bits)).map fun t=>pairT s t) (K:=15) (bM (dA L bits)) fun s _=>by rw [aD];exact h2
 have h4:(bM (dA L bits)).length*15<=15*15:=qA _ h1;omega
theorem Mw {L:List ByteArray} {bits:Nat} (h:1<=L.length):(∀x∈dA L bits,x∈L)/\∀x∈dB L bits,x∈L:=by
 have hp:∀p:Nat->Bool,∀x∈aZ p L.tail (L.length - 1),x∈L:=fun p x hx=>by
  obtain ⟨i,hi,_,rfl⟩:=gO.1 hx;have hl:i<L.tail.length:=by simp;omega
  rw [fh,gP hl];exact zB (lz hl)
 refine ⟨fun x hx=>?_,hp _⟩;rcases bX.1 hx with rfl | hx
 ·cases L with
  | nil=>simp at h
  | cons a l=>simp [gs]
 ·exact hp _ x hx
theorem Mx (s t:ByteArray):(pairT s t).size=s.size+t.size+3:=by
 unfold pairT;simp only [ByteArray.size_append];show 1+s.size+1+t.size+1=_;omega
theorem xz:∀r:BT ByteArray,(∀x∈r.aP,x.size<=20)->(jO r).size+3<=23*r.aP.length
 | .leaf x,h=>by
  rw [Br]
  have:=h x (by simp [BT.aP])
  simp only [BT.aP,BH]
  omega
 | .node a b,h=>by
  have h1:=xz a fun x hx=>h x (zy _ hx)
  have h2:=xz b fun x hx=>h x (zA _ hx)
  rw [Bu,Mx]
  simp only [BT.aP,bg]
  omega
theorem xA {L:List ByteArray} (h:L.length<=4) (hz:∀x∈L,x.size<=20) {s:ByteArray} (hs:s∈bM L):s.size<=100:=by
 obtain ⟨r,hr,rfl⟩:=di.1 hs;have hp:=iX _ _ _ hr;have h1:=xz r fun x hx=>hz x (hp.mem_iff.1 hx);have h2:=hp.length_eq;omega
theorem iL {L:List ByteArray} {M:Nat} (hz:∀x∈L,x.size<=M) (k:Nat):(gs L k).size<=M:=by
 by_cases hk:k<L.length
 ·have:gs L k=L[k]:=by simp [gs,hk]
  rw [this];exact hz _ (lz hk)
 ·have:gs L k=ByteArray.empty:=by simp [gs,hk]
  rw [this];exact aI _
end
end Go.Proofs.YthgabkgmkolobaaGreat
