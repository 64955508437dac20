/- The contract of layer 31's reference's ordered. -/
import Derived.Test.YthgabkgmkolobaaGreatQ19
set_option maxRecDepth 100000
set_option maxHeartbeats 4000000
namespace Go.Proofs.YthgabkgmkolobaaGreat
open Go.RowKit Go.Deep
def pZ (s:ByteArray):List RT->Nat
 | []=>0
 | b::l=>if yM (dS b) s=true then pZ s l+1 else 0
theorem Dd {s:ByteArray}:∀ {l:List RT} {k:Nat},k<=l.length->(∀j,j<k->yM (dS (gr l j)) s=true)->(k<l.length->yM (dS (gr l k)) s=false)->pZ s l=k
 | [],k,hk,_,_=>by
  obtain rfl:k=0:=by simpa using hk
  rfl
 | b::l,0,_,_,h=>by
  have h1:yM (dS b) s=false:=h (by simp)
  rw [pZ,if_neg (by rw [h1];simp)]
 | b::l,k+1,hk,h0,h=>by
  have h1:yM (dS b) s=true:=h0 0 (by omega)
  rw [pZ,if_pos h1,Dd (l:=l) (k:=k) (by simpa using hk) (fun j hj=>h0 (j+1) (by omega)) (fun hl=>h (by simpa using hl))]
def p6 (s:ByteArray) (o:RT) (l:List RT):List RT:=l.take (pZ s l)++(o::l.drop (pZ s l))
mutual
def qZ:RT->RT
 | .node nm ks=>.node nm (fu [] ks)
def fu (acc:List RT):List RT->List RT
 | []=>acc
 | c::cs=>fu (p6 (dS c) (qZ c) acc) cs
end
theorem QZ (s:ByteArray) (o:RT) (l:List RT):(p6 s o l).length=l.length+1:=by
 unfold p6;have:pZ s l<=l.length:=by
  induction l with
  | nil=>exact ah _
  | cons b l ih =>
   rw [pZ,aO];split
   ·omega
   ·omega
 rw [bg,dD,aO,gw];omega
theorem Et (acc:List RT):∀(a b:List RT),fu acc (a++b)=fu (fu acc a) b
 | [],_=>by rw [fu];rfl
 | c::a,b=>by rw [bz,fu,fu];exact Et _ a b
theorem LV {ks:List RT} {i:Nat} (h:i<ks.length):fu [] (ks.take (i+1))=p6 (dS (gr ks i)) (qZ (gr ks i)) (fu [] (ks.take i)):=by
 have hg:gr ks i=ks[i]:=by simp [gr,h]
 rw [jo h,Et,fu,fu,hg]
theorem Eu:∀(ks acc:List RT),(fu acc ks).length=acc.length+ks.length
 | [],acc=>by rw [fu];simp
 | c::ks,acc=>by rw [fu,Eu ks,QZ,aO];omega
theorem rS:∀(a b:List RT),aU (a++b)=aU a+aU b
 | [],b=>by rw [aU];simp
 | r::a,b=>by rw [bz,aU,aU,rS a b];omega
theorem LW (s:ByteArray) (o:RT) (l:List RT):aU (p6 s o l)=aU l+aK o:=by
 unfold p6;rw [rS,aU];have h:=rS (l.take (pZ s l)) (l.drop (pZ s l));rw [qm] at h;omega
mutual
theorem Ev:∀r:RT,aK (qZ r)=aK r
 | .node nm ks=>by rw [qZ,aK,aK,wX ks []];simp [aU]
theorem wX:∀(ks acc:List RT),aU (fu acc ks)=aU acc+aU ks
 | [],acc=>by rw [fu,aU];rfl
 | c::ks,acc=>by rw [fu,wX ks,LW,Ev c,aU];omega
end
theorem JF (ks:List RT) (i:Nat):aU (ks.take i)<=aU ks:=by
 have h:=rS (ks.take i) (ks.drop i);rw [qm] at h;omega
theorem LX {S:Nat->Prop} {w:World} {b off n cap k:Nat} {vs:List Value} (h:aA S w (.slice (some ⟨b,off,none⟩) n cap) n (vN vs)) (hl:vs.length=n) (_:k<n) (i:Nat) (q:Value) (hq:(vs.drop k)[i]? = some q):w.cell? ((⟨b,off+k,none⟩:Addr).add i)=some q:=by
 rw [Fq] at hq;have hki:k+i<n:=by rw [<- hl];exact (mj.1 hq).1
 obtain ⟨b',o',e,hc⟩:=oQ h hki;injection e with e;injection e with e1 e2;subst e1;subst e2;have hv:vN vs (k+i)=q:=by unfold vN;rw [fh,hq];rfl
 rw [hv] at hc;rw [Addr.add_lit,show off+k+i=off+(k+i) by omega];exact hc
theorem LY {S:Nat->Prop} {w:World} {b off n cap k:Nat} {vs:List Value} (h:aA S w (.slice (some ⟨b,off,none⟩) n cap) n (vN vs)) (hl:vs.length=n) (_:k<=n) (i:Nat) (q:Value) (hq:(vs.take k)[i]? = some q):w.cell? ((⟨b,off,none⟩:Addr).add i)=some q:=by
 rw [List.getElem?_take] at hq;split at hq
 ·have hki:i<n:=by rw [<- hl];exact (mj.1 hq).1
  obtain ⟨b',o',e,hc⟩:=oQ h hki;injection e with e;injection e with e1 e2;subst e1;subst e2;have hv:vN vs i=q:=by unfold vN;rw [fh,hq];rfl
  rw [hv] at hc;rw [Addr.add_lit];exact hc
 ·cases hq
theorem GJ {S:Nat->Prop} {w:World}:∀ {rs:List RT} {vs:List Value},aT S w rs vs->∀u∈vs,u.oneCell'=true
 | [],vs,h,u,hu=>by unfold aT at h;subst h;cases hu
 | r::rs,vs,h,u,hu=>by
  unfold aT at h
  obtain ⟨x,us,rfl,h1,h2⟩:=h
  rcases bX.1 hu with rfl | hu
  ·obtain ⟨b,rfl⟩:=pY h1;rfl
  ·exact GJ h2 u hu
theorem quiet_of {P:Program} {f:FuncId} {args:Array Value} {w:World} {m n:Nat} {v:Value} (h:Calls P f args (w.drewN (m+n)) fun e w'=>e=.returned v/\w.drewN (m+n)=w'):Calls P f args (w.drewN (m+n)) fun e w''=>e=.returned v/\∃q,w''=w.drewN (m+q) :=
 h.mono fun _ _ ⟨h1,h2⟩=>⟨h1,n,h2.symm⟩
def N8 (w:World) (r:RT) (e:Ending) (w':World):Prop:=Up w w'/\∃u,e=.returned u/\cK (fun b=>w.heap.size<=b) w' (qZ r) u
theorem N9 (S:Nat->Prop):∀(d:Nat) (r:RT),aK r<=d->d<=90000->∀(w:World) (v:Value),cK S w r v->Calls Tryz.prog 206 #[v] w (N8 w r):=by
 intro d
 induction d with
 | zero=>intro r hr;have:=lZ r;omega
 | succ d ih =>
 intro r hr hd w v hv;cases r with
 | node nm ks =>
  have hv0:=hv;obtain ⟨xb,kp,kc,vs,rfl,hS,c0,c1,hk,hs⟩:=hv.open;simp only [RT.nm,RT.kids] at c0 c1 hk hs;have fT:=oT ks;rw [aK] at hr;have bq:=Up.alloc w (.cells #[.string nm,.slice none 0 0] 254);have HW0:=aa (lJ.start w (ah _) nm);have kr:=aa c1;have HK:=aa hk;have HR:=aa hs;have kD:Hid (∀j,j<ks.length->∀W,Up w W->Calls Tryz.prog 206 #[vN vs j] W (N8 W (gr ks j))):=fun j hj W hW=>by have h1:=r7 hj;exact ih (gr ks j) (by omega) (by omega) W _ (cK.keep (hW.kept S) _ (aT.get ks hs j hj))
  have HLX:Hid (∀j,j<ks.length->∀W,Up w W->Calls Tryz.prog 254 #[vN vs j] W fun e w'=>e=.returned (.string (dS (gr ks j)))/\W=w'):=fun j hj W hW=>by have h1:=r7 hj;exact GA S (aK (gr ks j)) _ (ah _) (by omega) W _ (cK.keep (hW.kept S) _ (aT.get ks hs j hj))
  have HU:=aa bq;have e9:Hid (ks.length<=90000):=by unfold Hid;omega
  have Wk:Hid (aU ks<=90000):=by unfold Hid;omega
  clear ih hv hv0 bq hk hs hr fT hS
  go_enter Tryz.func206,Tryz.ntmps206
  go_wp2_with fail;clear c0 c1
  go_loopw [4,5] (fun i _ wr=>∃(j:Nat) (kv:Value),j<=ks.length/\i=.int .i64 j/\Hid (lJ w.heap.size w.heap.size wr nm kv (fu [] (ks.take j)))/\Hid (Up w wr)) (fun i _ _=>ks.length - (intOf i).toNat)
  case atStart=>exact ⟨0,_,aI _,rfl,by rw [List.take_zero,fu];exact HW0.out,HU.out⟩
  case round =>
   obtain ⟨j,kv,hj,rfl,hW,gu⟩:=hrel;obtain ⟨wo,rfl⟩:∃wo:World,wo=wr:=⟨_,rfl⟩;have x1:=gu.out.cell kr.out;by_cases hlt:j<ks.length
   ·obtain ⟨acc,hacc⟩:∃acc,acc=fu [] (ks.take j):=⟨_,rfl⟩
    (have HT:Hid (fu [] (ks.take (j+1))=p6 (dS (gr ks j)) (qZ (gr ks j)) acc):=by rw [hacc];exact LV hlt);(have aax:acc.length<=90000:=by rw [hacc,Eu,dD];have:=e9.out;simp;omega);(have vK:aU acc<=90000:=by rw [hacc,wX];have:=JF ks j;have:=Wk.out;simp [aU];omega);rw [<- hacc] at hW;obtain ⟨sZ,ho,Cf⟩:=hW.out.kids;have hcw:=hW.out.cells;have hlen:=aT.len acc Cf;have iO:=ho.yl;rw [hlen] at iO;obtain ⟨ap,ac,rfl,hac,_⟩:=aA.open iO;have hy1:=hcw.2.1;obtain ⟨kb,ko,rfl,hkc⟩:=oQ (HK.out.keep (gu.out.kept _)) hlt
    (have yO:Hid (∀k,k<acc.length->∀W,Up wo W->Calls Tryz.prog 254 #[vN sZ k] W fun e w'=>e=.returned (.string (dS (gr acc k)))/\W=w'):=fun k hk W Wl=>by have h1:=r7 hk;exact GA _ (aK (gr acc k)) _ (ah _) (by omega) W _ (cK.keep (Wl.kept _) _ (aT.get acc Cf k hk)));have Ch:Hid (∀W,Up wo W->Calls Tryz.prog 254 #[vN vs j] W fun e w'=>e=.returned (.string (dS (gr ks j)))/\W=w'):=fun W Wl=>HLX.out j hlt W (gu.out.trans Wl);have HOC:=aa (kD.out j hlt);have HY1:=aa hy1;have lM:=aa x1;have VH:=aa hkc;have jq:=aa iO;have Ks:=aa hW.out
    have mX:=aa gu.out;have bG:=aa hlt;have SZ:=aa Cf;have S0:=aa ho;have Ew:=aa hlen;(have i1:(0:Int)<=(j:Int):=by omega);(have i2:(j:Int)<(ks.length:Int):=by omega);(have i3:(j:Int)<90000:=by have:=e9.out;omega);clear hacc vK Cf ho hcw hlen iO hW gu hlt hj;generalize vN vs j=xv at *;generalize hs:dS (gr ks j)=s at *;generalize hoc:qZ (gr ks j)=oc at *;go_wp2_with fail
    go_loopw [5] (fun q wr=>∃k m:Nat,k<=acc.length/\q=.int .i64 k/\wr=wo.drewN m/\Hid (∀i,i<k->yM (dS (gr acc i)) s=true)) (fun q _=>acc.length - (intOf q).toNat)
    case atStart=>exact ⟨0,0,aI _,rfl,rfl,fun i hi=>absurd hi (bS _)⟩
    case round =>
     obtain ⟨k,m,hk,rfl,rfl,hlo⟩:=hrel;by_cases Wm:k<acc.length
     ·obtain ⟨yb,yo,rfl,hyc⟩:=oQ jq.out Wm
      have HM1:=aa (fun n=>quiet_of (m:=m) (n:=n) (yO.out k Wm _ (Up.drewN wo _)));have Kt:=aa (fun n=>quiet_of (m:=m) (n:=n) (Ch.out _ (Up.drewN wo _)));(have k1:(0:Int)<=(k:Int):=by omega);(have k2:(k:Int)<(acc.length:Int):=by omega);(have k3:(k:Int)<90000:=by omega);(have dk:decide ((k:Int)<(acc.length:Int))=true:=by simp;omega);(have dn:decide (k<acc.length)=true:=by simp;omega);have yP:=aa Wm;generalize vN sZ k=yv at *;cases hls:yM (dS (gr acc k)) s
      ·have hbl:Op.bytesLess (dS (gr acc k)).toList s.toList=false:=hls
       have Nr:=aa hls;clear hls hk;generalize hs1:dS (gr acc k)=s1 at *;go_wp2_with fail;(go_big_quiet (first | with_reducible exact HM1.out _ | with_reducible exact Kt.out _));go_wp2_with fail;have HZ:Hid (Up wo ((wo.drewN m).drewN nq)):=(Up.drewN _ _).trans (Up.drewN _ _);have Q0:Hid (pZ s acc=k):=Dd (by have:=yP.out;omega) hlo.out (fun _=>by rw [hs1];exact Nr.out);have aay:k<=acc.length:=Nat.le_of_lt yP.out;generalize (wo.drewN m).drewN nq=wz at *;have Q1:=HZ.out.cell HY1.out;have Q2:=HZ.out.cell lM.out;have Q3:=HZ.out.cell VH.out;have g1:(0:Int)<=(k:Int):=by omega
       (have g2:(k:Int)<=(acc.length:Int):=by omega);(have g3:(k:Int)<=(ac:Int):=by omega);have pE:Hid (∀W,Up wz W->W.cell? ⟨w.heap.size,1,none⟩=some (.slice (some ⟨yb,yo,none⟩) acc.length ac)/\W.cell? ⟨xb,1,none⟩=some (.slice (some ⟨kb,ko,none⟩) ks.length kc)/\W.cell? ⟨kb,ko+j,none⟩=some xv):=fun W hW=>⟨hW.cell Q1,hW.cell Q2,hW.cell Q3⟩;refine eC (by kernel_rfl) 28 (fun w'=>w'.cell? ⟨w.heap.size,1,none⟩=some (.slice (some ⟨yb,yo,none⟩) acc.length ac)/\w'.cell? ⟨xb,1,none⟩=some (.slice (some ⟨kb,ko,none⟩) ks.length kc)/\w'.cell? ⟨kb,ko+j,none⟩=some xv) (pE.out _ (mD wz)) (fun hS=>?_)
       simp only [fo,aO,dz,Nat.reduceAdd,ic,ig,fk,cw,bz];refine af.tk 0 hS ?_;(try simp only [Act.put,aj,aq,au]);refine af.tk 1 hS ?_;(try simp only [Act.put,aj,aq,au]);refine af.tk 2 hS ?_;(try simp only [Act.put,aj,aq,au]);refine af.tk 3 hS ?_
       (try simp only [Act.put,aj,aq,au]);refine af.tk 4 hS ?_;(try simp only [Act.put,aj,aq,au]);refine af.tk 5 hS ?_;(try simp only [Act.put,aj,aq,au]);refine af.tk 6 hS ?_;(try simp only [Act.put,aj,aq,au]);refine af.take (i:=7) (v:=.slice (some ⟨yb,yo,none⟩) k k) rfl (by kernel_rfl) (fun _ _ _ h=>h) (by rfl) (fun w hSw=>?aaz) hS ?acf
       case aaz =>(try dsimp only at hSw);go_simp
       (try simp only [Act.put,aj,aq,au]);refine af.tk 8 hS ?_;(try simp only [Act.put,aj,aq,au]);refine af.tk 9 hS ?_;(try simp only [Act.put,aj,aq,au]);refine af.tk 10 hS ?_;(try simp only [Act.put,aj,aq,au]);refine af.tk 11 hS ?_;(try simp only [Act.put,aj,aq,au]);refine af.tk 12 hS ?_
       (try simp only [Act.put,aj,aq,au]);refine af.tk 13 hS ?_;(try simp only [Act.put,aj,aq,au]);refine af.tk 14 hS ?_;(try simp only [Act.put,aj,aq,au]);refine af.tk 17 hS ?_;(try simp only [Act.put,aj,aq,au]);refine af.tk 18 hS ?_;(try simp only [Act.put,aj,aq,au]);refine af.tk 19 hS ?_
       (try simp only [Act.put,aj,aq,au]);refine af.tk 20 hS ?_;(try simp only [Act.put,aj,aq,au]);refine af.tk 21 hS ?_;(try simp only [Act.put,aj,aq,au]);refine af.take (i:=22) (v:=.slice (some ⟨yb,yo+k,none⟩) (acc.length - k) (ac - k)) rfl (by kernel_rfl) (fun _ _ _ h=>h) (by rfl) (fun w hSw=>?Zh) hS ?abM
       case Zh =>(try dsimp only at hSw);go_simp;intro e;have:=yP.out;omega
       (try simp only [Act.put,aj,aq,au]);refine af.step (i:=15) rfl (by kernel_rfl) (fun K' hK=>?_);go_simp;refine (HOC.out _ ((mX.out.trans HZ.out).trans (mD wz))).mono ?_;rintro e w3 ⟨dg,u,rfl,hr3⟩;have dg:Up wz.drew w3:=dg;obtain ⟨ub,rfl⟩:=pY hr3;rw [hoc] at hr3;have ek:=aa ((mD wz).trans dg);have Wn:=aa hr3;have s5:=aa (Up.alloc w3 (.cells #[.pointer (some ⟨ub,0,none⟩)] 210));have hdc:=LX jq.out Ew.out yP.out
       have HDC:=aa fun i q hq=>s5.out.cell (ek.out.cell (HZ.out.cell (hdc i q hq)));have Wo:=aa (LY jq.out Ew.out aay);have Wp:Hid ((w3.alloc (.cells #[.pointer (some ⟨ub,0,none⟩)] 210)).cell? ⟨w3.heap.size,0,none⟩=some (.pointer (some ⟨ub,0,none⟩))):=yu _ _ _;have vL:=aa (GJ SZ.out);(have vM:Hid (0<acc.length - k/\(sZ.drop k).length=acc.length - k/\(sZ.take k).length=k/\acc.length<=90000):=by have:=yP.out;have:=Ew.out;unfold Hid;rw [gw,dD];omega);clear dg hr3 hdc;refine hK.out _ _ (fun _=>pE.out _ ek.out) (fun hS=>?_)
       replace hS:=hS ⟨16,by decide,rfl⟩;(try simp only [aj,aq,au]);refine af.step (i:=16) rfl (by kernel_rfl) (fun K' hK=>?_);go_simp;refine hK.out _ _ (fun _=>pE.out _ (ek.out.trans s5.out)) (fun hS=>?_);replace hS:=hS ⟨23,by decide,rfl⟩;(try simp only [aj,aq,au]);refine af.step (i:=23) rfl (by kernel_rfl) (fun K' hK=>?_)
       refine yN (by rfl) _ _ _ (by rfl) 210 _ 8 Tryz.underlying252 Tryz.qJ (by rfl) (by decide) (ao:=some ⟨w3.heap.size,0,none⟩) (n:=1) (olds:=[.pointer (some ⟨ub,0,none⟩)]) (by rfl) (fun e=>by cases e) rfl ?q1 (ad:=⟨yb,yo+k,none⟩) (m:=acc.length - k) (c:=ac - k) (news:=sZ.drop k) (by rfl) vM.out.2.1 (fun i q hq=>HDC.out i q hq) ?q2 vM.out.1 (by have:=vM.out.2.2.2;omega) ?q3
       case q1 =>
        intro b e i q hq;injection e with e;subst e;cases i with
        | zero =>
         simp at hq;subst hq;(have e0:(⟨w3.heap.size,0,none⟩:Addr).add 0=⟨w3.heap.size,0,none⟩:=by simp [Addr.add]);rw [e0];exact Wp.out
        | succ i=>simp at hq
       case q2=>exact fun q hq=>vL.out q (BJ hq)
       intro g1 c1 w4 NC dQ;have kX:=aa (ek.out.trans (s5.out.trans dQ));have aaA:=aa (World.ownsRow.cells NC rfl);have HV4:=aa (s5.out.trans dQ);clear NC dQ;refine hK.out _ _ (fun _=>pE.out _ kX.out) (fun hS=>?_);replace hS:=hS ⟨24,by decide,rfl⟩;(try simp only [Act.put,aj,aq,au]);refine af.step (i:=24) rfl (by kernel_rfl) (fun K' hK=>?_)
       refine yN (by rfl) _ _ _ (by rfl) 210 _ 8 Tryz.underlying252 Tryz.qJ (by rfl) (by decide) (ao:=some ⟨yb,yo,none⟩) (n:=k) (olds:=sZ.take k) (by rfl) (fun e=>by cases e) vM.out.2.2.1 ?r1 (ad:=⟨g1,0,none⟩) (m:=1+(acc.length - k)) (c:=c1) (news:=[.pointer (some ⟨ub,0,none⟩)]++sZ.drop k) (by rfl) (by rw [bg,vM.out.2.1];rfl) (fun i q hq=>aaA.out i q hq) ?r2 (by omega) (by have:=vM.out.2.2.2;omega) ?r3
       case r1 =>intro b e i q hq;injection e with e;subst e;exact kX.out.cell (HZ.out.cell (Wo.out i q hq))
       case r2 =>
        intro q hq;rcases cu.1 hq with h1 | h1
        ·obtain rfl:q=.pointer (some ⟨ub,0,none⟩):=by simpa using h1
         rfl
        ·exact vL.out q (BJ h1)
       intro g2 c2 w5 Ap mL;have Ci:=(HZ.out.trans kX.out).trans mL;have Ex:cK (fun b=>wo.heap.size<=b/\b<w3.heap.size) w5 oc (.pointer (some ⟨ub,0,none⟩)):=cK.keep ((HV4.out.trans mL).kept _) oc (cK.sub (fun b hb hl=>⟨aR HZ.out.size hb,hl⟩) oc Wn.out);have hs3:=HV4.out.size;have hsw:=(HZ.out.trans ek.out).size;have hBl:=Ks.out.lt;have Q4:=aa (Ks.out.lay SZ.out Ci hsw (fun b hb=>by have:=(aG Ap hb).1;omega) Ex k (Ap.yx (by omega)));have vO:Hid (p6 s oc acc=acc.take k++oc::acc.drop k):=by unfold Hid p6;rw [Q0.out]
       have hcw:=(Ks.out.up Ci).cells;have hyf:=hcw.2.2.2;have aaB:=hcw.2.1;have ng:=aa (kX.out.trans mL);have Oa:Hid (Up w (w5.setCell ⟨w.heap.size,1,none⟩ (.slice (some ⟨g2,0,none⟩) (k+(1+(acc.length - k))) c2))):=Below.setCell (p:=⟨w.heap.size,1,none⟩) (mX.out.trans Ci) (ah _) _;clear Ap mL Ci Ex hs3 hsw hcw;refine hK.out _ _ (fun _=>pE.out _ ng.out) (fun hS=>?_);replace hS:=hS ⟨27,by decide,rfl⟩;(try simp only [Act.put,aj,aq,au]);refine af.tk 25 hS ?_
       (try simp only [Act.put,aj,aq,au]);refine af.tk 26 hS ?_;(try simp only [Act.put,aj,aq,au]);refine af.step (i:=27) rfl (by kernel_rfl) (fun K' hK=>?_);go_simp;refine hK.out _ _ (aS (by kernel_rfl)) (fun hS=>?_);refine af.done (by kernel_rfl) ?_;go_wp2_with fail
       go_roundw
       case rel=>exact ⟨j+1,_,bG.out,by go_num,by rw [HT.out,vO.out];exact Q4.out,Oa.out⟩
       case measure=>have:=bG.out;simp [intOf];omega
      ·have hbl:Op.bytesLess (dS (gr acc k)).toList s.toList=true:=hls
       have Nr:=aa hls;clear hls hk;generalize hs1:dS (gr acc k)=s1 at *;go_wp2_with fail;(go_big_quiet (first | with_reducible exact HM1.out _ | with_reducible exact Kt.out _));go_wp2_with fail
       go_roundw
       case rel=>exact ⟨k+1,m+nq,yP.out,by go_num,rfl,fun i hi=>if e:i=k then by subst e;rw [hs1];exact Nr.out else hlo.out i (by omega)⟩
       case measure=>have:=yP.out;simp [intOf];omega
     ·obtain rfl:k=acc.length:=by omega
      (have dk:decide ((acc.length:Int)<(acc.length:Int))=false:=by simp);(have dn:decide (acc.length<acc.length)=false:=by simp);go_wp2_with fail;(go_big_quiet (fail));go_wp2_with fail;have HZ:Hid (Up wo ((wo.drewN m).drewN nq)):=(Up.drewN _ _).trans (Up.drewN _ _);have Q0:Hid (pZ s acc=acc.length):=Dd (ah _) hlo.out (fun h=>absurd h (Nat.lt_irrefl _));generalize (wo.drewN m).drewN nq=wz at *;have Q1:=HZ.out.cell HY1.out;have Q2:=HZ.out.cell lM.out;have Q3:=HZ.out.cell VH.out;(have g1:(0:Int)<=(acc.length:Int):=by omega);have g2:(acc.length:Int)<=(acc.length:Int):=by omega
      (have g3:(acc.length:Int)<=(ac:Int):=by omega);have pE:Hid (∀W,Up wz W->W.cell? ⟨w.heap.size,1,none⟩=some (.slice ap acc.length ac)/\W.cell? ⟨xb,1,none⟩=some (.slice (some ⟨kb,ko,none⟩) ks.length kc)/\W.cell? ⟨kb,ko+j,none⟩=some xv):=fun W hW=>⟨hW.cell Q1,hW.cell Q2,hW.cell Q3⟩;refine eC (by kernel_rfl) 28 (fun w'=>w'.cell? ⟨w.heap.size,1,none⟩=some (.slice ap acc.length ac)/\w'.cell? ⟨xb,1,none⟩=some (.slice (some ⟨kb,ko,none⟩) ks.length kc)/\w'.cell? ⟨kb,ko+j,none⟩=some xv) (pE.out _ (mD wz)) (fun hS=>?_)
      simp only [fo,aO,dz,Nat.reduceAdd,ic,ig,fk,cw,bz];refine af.tk 0 hS ?_;(try simp only [Act.put,aj,aq,au]);refine af.tk 1 hS ?_;(try simp only [Act.put,aj,aq,au]);refine af.tk 2 hS ?_;(try simp only [Act.put,aj,aq,au]);refine af.tk 3 hS ?_
      (try simp only [Act.put,aj,aq,au]);refine af.tk 4 hS ?_;(try simp only [Act.put,aj,aq,au]);refine af.tk 5 hS ?_;(try simp only [Act.put,aj,aq,au]);refine af.tk 6 hS ?_;(try simp only [Act.put,aj,aq,au]);refine af.take (i:=7) (v:=.slice ap acc.length acc.length) rfl (by kernel_rfl) (fun _ _ _ h=>h) (by rfl) (fun w hSw=>?aaC) hS ?acg
      case aaC =>(try dsimp only at hSw);go_simp
      (try simp only [Act.put,aj,aq,au]);refine af.tk 8 hS ?_;(try simp only [Act.put,aj,aq,au]);refine af.tk 9 hS ?_;(try simp only [Act.put,aj,aq,au]);refine af.tk 10 hS ?_;(try simp only [Act.put,aj,aq,au]);refine af.tk 11 hS ?_;(try simp only [Act.put,aj,aq,au]);refine af.tk 12 hS ?_
      (try simp only [Act.put,aj,aq,au]);refine af.tk 13 hS ?_;(try simp only [Act.put,aj,aq,au]);refine af.tk 14 hS ?_;(try simp only [Act.put,aj,aq,au]);refine af.tk 17 hS ?_;(try simp only [Act.put,aj,aq,au]);refine af.tk 18 hS ?_;(try simp only [Act.put,aj,aq,au]);refine af.tk 19 hS ?_
      (try simp only [Act.put,aj,aq,au]);refine af.tk 20 hS ?_;(try simp only [Act.put,aj,aq,au]);refine af.tk 21 hS ?_;(try simp only [Act.put,aj,aq,au]);refine af.take (i:=22) (v:=.slice (QY ap acc.length ac) 0 (ac - acc.length)) rfl (by kernel_rfl) (fun _ _ _ h=>h) (by rfl) (fun w hSw=>?Zi) hS ?abN
      case Zi =>(try dsimp only at hSw);go_simp;try (unfold QY;simp)
      (try simp only [Act.put,aj,aq,au]);refine af.step (i:=15) rfl (by kernel_rfl) (fun K' hK=>?_);go_simp;refine (HOC.out _ ((mX.out.trans HZ.out).trans (mD wz))).mono ?_;rintro e w3 ⟨dg,u,rfl,hr3⟩;have dg:Up wz.drew w3:=dg;obtain ⟨ub,rfl⟩:=pY hr3;rw [hoc] at hr3;have ek:=aa ((mD wz).trans dg);have Wn:=aa hr3;have s5:=aa (Up.alloc w3 (.cells #[.pointer (some ⟨ub,0,none⟩)] 210));have Wo:=aa (N6 jq.out Ew.out)
      have Wp:Hid ((w3.alloc (.cells #[.pointer (some ⟨ub,0,none⟩)] 210)).cell? ⟨w3.heap.size,0,none⟩=some (.pointer (some ⟨ub,0,none⟩))):=yu _ _ _;have vL:=aa (GJ SZ.out);have vM:Hid (sZ.length=acc.length/\acc.length<=90000):=⟨Ew.out,aax⟩;clear dg hr3;refine hK.out _ _ (fun _=>pE.out _ ek.out) (fun hS=>?_);replace hS:=hS ⟨16,by decide,rfl⟩;(try simp only [aj,aq,au]);refine af.step (i:=16) rfl (by kernel_rfl) (fun K' hK=>?_);go_simp;refine hK.out _ _ (fun _=>pE.out _ (ek.out.trans s5.out)) (fun hS=>?_)
      replace hS:=hS ⟨23,by decide,rfl⟩;(try simp only [aj,aq,au]);refine af.step (i:=23) rfl (by kernel_rfl) (fun K' hK=>?_);refine N5 (by rfl) _ _ _ (by rfl) 210 _ 8 Tryz.underlying252 Tryz.qJ (ao:=some ⟨w3.heap.size,0,none⟩) (n:=1) (c:=1) (by rfl) (ah _) (ad:=QY ap acc.length ac) (c2:=ac - acc.length) (by rfl) ?_;refine hK.out _ _ (fun _=>pE.out _ (ek.out.trans s5.out)) (fun hS=>?_);replace hS:=hS ⟨24,by decide,rfl⟩;try simp only [Act.put,aj,aq,au]
      refine af.step (i:=24) rfl (by kernel_rfl) (fun K' hK=>?_);refine yN (by rfl) _ _ _ (by rfl) 210 _ 8 Tryz.underlying252 Tryz.qJ (by rfl) (by decide) (ao:=ap) (n:=acc.length) (olds:=sZ) (by rfl) (all_none jq.out) vM.out.1 ?p1 (ad:=⟨w3.heap.size,0,none⟩) (m:=1) (c:=1) (news:=[.pointer (some ⟨ub,0,none⟩)]) (by rfl) rfl ?p2 ?p4 (by omega) (by have:=vM.out.2;omega) ?p3
      case p1=>exact fun b e i q hq=>s5.out.cell (ek.out.cell (HZ.out.cell (Wo.out b e i q hq)))
      case p2 =>
       intro i q hq;cases i with
       | zero =>
        simp at hq;subst hq;(have e0:(⟨w3.heap.size,0,none⟩:Addr).add 0=⟨w3.heap.size,0,none⟩:=by simp [Addr.add]);rw [e0];exact Wp.out
       | succ i=>simp at hq
      case p4 =>intro q hq;(obtain rfl:q=.pointer (some ⟨ub,0,none⟩):=by simpa using hq);rfl
      intro g2 c2 w5 Ap mL;have Ci:=(HZ.out.trans (ek.out.trans s5.out)).trans mL;have Ex:cK (fun b=>wo.heap.size<=b/\b<w3.heap.size) w5 oc (.pointer (some ⟨ub,0,none⟩)):=cK.keep ((s5.out.trans mL).kept _) oc (cK.sub (fun b hb hl=>⟨aR HZ.out.size hb,hl⟩) oc Wn.out);have hs3:=s5.out.size;have hsw:=(HZ.out.trans ek.out).size;have hBl:=Ks.out.lt
      have Q4:=aa (Ks.out.lay SZ.out Ci hsw (fun b hb=>by have:=(aG Ap hb).1;omega) Ex acc.length (by rw [zD (by rw [vM.out.1];exact ah _),List.drop_of_length_le (by rw [vM.out.1];exact ah _)];exact Ap.yx (by omega)));(have vO:Hid (p6 s oc acc=acc.take acc.length++oc::acc.drop acc.length):=by unfold Hid p6;rw [Q0.out]);have hcw:=(Ks.out.up Ci).cells;have hyf:=hcw.2.2.2;have aaB:=hcw.2.1;have ng:=aa ((ek.out.trans s5.out).trans mL)
      have Oa:Hid (Up w (w5.setCell ⟨w.heap.size,1,none⟩ (.slice (some ⟨g2,0,none⟩) (acc.length+1) c2))):=Below.setCell (p:=⟨w.heap.size,1,none⟩) (mX.out.trans Ci) (ah _) _;clear Ap mL Ci Ex hs3 hsw hcw;refine hK.out _ _ (fun _=>pE.out _ ng.out) (fun hS=>?_);replace hS:=hS ⟨27,by decide,rfl⟩;(try simp only [Act.put,aj,aq,au]);refine af.tk 25 hS ?_;(try simp only [Act.put,aj,aq,au]);refine af.tk 26 hS ?_
      (try simp only [Act.put,aj,aq,au]);refine af.step (i:=27) rfl (by kernel_rfl) (fun K' hK=>?_);go_simp;refine hK.out _ _ (aS (by kernel_rfl)) (fun hS=>?_);refine af.done (by kernel_rfl) ?_;go_wp2_with fail
      go_roundw
      case rel=>exact ⟨j+1,_,bG.out,by go_num,by rw [HT.out,vO.out];exact Q4.out,Oa.out⟩
      case measure=>have:=bG.out;simp [intOf];omega
   ·obtain rfl:j=ks.length:=by omega
    have HD:=aa hW.out.done;have Cj:=aa gu.out;clear hW gu hlt hj;go_wp2_with fail;go_ret;refine ⟨Cj.out,_,rfl,?_⟩;have h:=HD.out;rw [eT] at h;rw [qZ];exact h
end Go.Proofs.YthgabkgmkolobaaGreat
