/- The contract of layer 31's reference's ordered. Names, as layer 1's and layer 31's .. -/
import Derived.Test.YthgabkgmkolobaaGreatQ13
set_option maxRecDepth 100000
set_option maxHeartbeats 4000000
namespace Go.Proofs.YthgabkgmkolobaaGreat
section
open Go.RowKit Go.Deep
def x4 (s:ByteArray):List RT->Nat
 | []=>0
 | b::l=>if Iz (iy b) s=true then x4 s l+1 else 0
theorem Pf {s:ByteArray}:∀ {l:List RT} {k:Nat},k<=l.length->(∀j,j<k->Iz (iy (gr l j)) s=true)->(k<l.length->Iz (iy (gr l k)) s=false)->x4 s l=k
 | [],k,hk,_,_=>by
  obtain rfl:k=0:=by simpa using hk
  rfl
 | b::l,0,_,_,h=>by
  have h1:Iz (iy b) s=false:=h (by simp)
  rw [x4,if_neg (by rw [h1];simp)]
 | b::l,k+1,hk,h0,h=>by
  have h1:Iz (iy b) s=true:=h0 0 (by omega)
  rw [x4,if_pos h1,Pf (l:=l) (k:=k) (by simpa using hk) (fun j hj=>h0 (j+1) (by omega)) (fun hl=>h (by simpa using hl))]
def x5 (s:ByteArray) (o:RT) (l:List RT):List RT:=l.take (x4 s l)++(o::l.drop (x4 s l))
mutual
def zG:RT->RT
 | .node nm ks=>.node nm (jS [] ks)
def jS (acc:List RT):List RT->List RT
 | []=>acc
 | c::cs=>jS (x5 (iy c) (zG c) acc) cs
end
theorem insO_len (s:ByteArray) (o:RT) (l:List RT):(x5 s o l).length=l.length+1:=by
 unfold x5;have:x4 s l<=l.length:=by
  induction l with
  | nil=>exact af _
  | cons b l ih =>
   rw [x4,aT];split
   ·omega
   ·omega
 rw [aZ,gV,aT,wO];omega
theorem QW (acc:List RT):∀(a b:List RT),jS acc (a++b)=jS (jS acc a) b
 | [],_=>by rw [jS];rfl
 | c::a,b=>by rw [cr,jS,jS];exact QW _ a b
theorem ordRs_take {ks:List RT} {i:Nat} (h:i<ks.length):jS [] (ks.take (i+1))=x5 (iy (gr ks i)) (zG (gr ks i)) (jS [] (ks.take i)):=by
 have hg:gr ks i=ks[i]:=by simp [gr,h]
 rw [jY h,QW,jS,jS,hg]
theorem QX:∀(ks acc:List RT),(jS acc ks).length=acc.length+ks.length
 | [],acc=>by rw [jS];simp
 | c::ks,acc=>by rw [jS,QX ks,insO_len,aT];omega
theorem Av:∀(a b:List RT),bE (a++b)=bE a+bE b
 | [],b=>by rw [bE];simp
 | r::a,b=>by rw [cr,bE,bE,Av a b];omega
theorem sizeRs_ins (s:ByteArray) (o:RT) (l:List RT):bE (x5 s o l)=bE l+aU o:=by
 unfold x5;rw [Av,bE];have h:=Av (l.take (x4 s l)) (l.drop (x4 s l));rw [wR] at h;omega
mutual
theorem QY:∀r:RT,aU (zG r)=aU r
 | .node nm ks=>by rw [zG,aU,aU,FQ ks []];simp [bE]
theorem FQ:∀(ks acc:List RT),bE (jS acc ks)=bE acc+bE ks
 | [],acc=>by rw [jS,bE];rfl
 | c::ks,acc=>by rw [jS,FQ ks,sizeRs_ins,QY c,bE];omega
end
theorem XN (ks:List RT) (i:Nat):bE (ks.take i)<=bE ks:=by
 have h:=Av (ks.take i) (ks.drop i);rw [wR] at h;omega
theorem drop_cells {S:Nat->Prop} {w:World} {b off n cap k:Nat} {vs:List Value} (h:ay S w (.slice (some ⟨b,off,none⟩) n cap) n (vN vs)) (hl:vs.length=n) (_:k<n) (i:Nat) (q:Value) (hq:(vs.drop k)[i]? = some q):w.cell? ((⟨b,off+k,none⟩:Addr).add i)=some q:=by
 rw [List.getElem?_drop] at hq;have hki:k+i<n:=by rw [<- hl];exact (pF.1 hq).1
 obtain ⟨b',o',e,hc⟩:=xg h hki;injection e with e;injection e with e1 e2;subst e1;subst e2;have hv:vN vs (k+i)=q:=by unfold vN;rw [kD,hq];rfl
 rw [hv] at hc;rw [Addr.add_lit,show off+k+i=off+(k+i) by omega];exact hc
theorem take_cells {S:Nat->Prop} {w:World} {b off n cap k:Nat} {vs:List Value} (h:ay S w (.slice (some ⟨b,off,none⟩) n cap) n (vN vs)) (hl:vs.length=n) (_:k<=n) (i:Nat) (q:Value) (hq:(vs.take k)[i]? = some q):w.cell? ((⟨b,off,none⟩:Addr).add i)=some q:=by
 rw [List.getElem?_take] at hq;split at hq
 ·have hki:i<n:=by rw [<- hl];exact (pF.1 hq).1
  obtain ⟨b',o',e,hc⟩:=xg h hki;injection e with e;injection e with e1 e2;subst e1;subst e2;have hv:vN vs i=q:=by unfold vN;rw [kD,hq];rfl
  rw [hv] at hc;rw [Addr.add_lit];exact hc
 ·cases hq
theorem Ub {S:Nat->Prop} {w:World}:∀ {rs:List RT} {vs:List Value},bF S w rs vs->∀u∈vs,u.oneCell'=true
 | [],vs,h,u,hu=>by unfold bF at h;subst h;cases hu
 | r::rs,vs,h,u,hu=>by
  unfold bF at h
  obtain ⟨x,us,rfl,h1,h2⟩:=h
  rcases aW.1 hu with rfl | hu
  ·obtain ⟨b,rfl⟩:=xZ h1;rfl
  ·exact Ub h2 u hu
theorem quiet_of {P:Program} {f:FuncId} {args:Array Value} {w:World} {m n:Nat} {v:Value} (h:Calls P f args (w.drewN (m+n)) fun e w'=>e=.returned v/\w.drewN (m+n)=w'):Calls P f args (w.drewN (m+n)) fun e w''=>e=.returned v/\∃q,w''=w.drewN (m+q) :=
 h.mono fun _ _ ⟨h1,h2⟩=>⟨h1,n,h2.symm⟩
def OdPost (w:World) (r:RT) (e:Ending) (w':World):Prop:=Up w w'/\∃u,e=.returned u/\fP (fun b=>w.heap.size<=b) w' (zG r) u
theorem ordered_t (S:Nat->Prop):∀(d:Nat) (r:RT),aU r<=d->d<=90000->∀(w:World) (v:Value),fP S w r v->Calls Tryz.prog 206 #[v] w (OdPost w r):=by
 intro d
 induction d with
 | zero=>intro r hr;have:=mA r;omega
 | succ d ih =>
 intro r hr hd w v hv;cases r with
 | node nm ks =>
  have hv0:=hv;obtain ⟨xb,kp,kc,vs,rfl,hS,c0,c1,hk,hs⟩:=hv.open;simp only [RT.nm,RT.kids] at c0 c1 hk hs;have gz:=xh ks;rw [aU] at hr;have cE:=Up.alloc w (.cells #[.string nm,.slice none 0 0] 254);have HW0:=aa (sM.start w (af _) nm);have jG:=aa c1;have HK:=aa hk;have HR:=aa hs;have qu:Hid (∀j,j<ks.length->∀W,Up w W->Calls Tryz.prog 206 #[vN vs j] W (OdPost W (gr ks j))):=fun j hj W hW=>by have h1:=A3 hj;exact ih (gr ks j) (by omega) (by omega) W _ (fP.keep (hW.kept S) _ (bF.get ks hs j hj))
  have HLX:Hid (∀j,j<ks.length->∀W,Up w W->Calls Tryz.prog 254 #[vN vs j] W fun e w'=>e=.returned (.string (iy (gr ks j)))/\W=w'):=fun j hj W hW=>by have h1:=A3 hj;exact T6 S (aU (gr ks j)) _ (af _) (by omega) W _ (fP.keep (hW.kept S) _ (bF.get ks hs j hj))
  have HU:=aa cE;have kK:Hid (ks.length<=90000):=by unfold Hid;omega
  have HSR:Hid (bE ks<=90000):=by unfold Hid;omega
  clear ih hv hv0 cE hk hs hr gz hS
  go_enter Tryz.func206,Tryz.ntmps206
  go_wp2_with fail;clear c0 c1
  go_loopw [4,5] (fun i _ wr=>∃(j:Nat) (kv:Value),j<=ks.length/\i=.int .i64 j/\Hid (sM w.heap.size w.heap.size wr nm kv (jS [] (ks.take j)))/\Hid (Up w wr)) (fun i _ _=>ks.length - (intOf i).toNat)
  case atStart=>exact ⟨0,_,aL _,rfl,by rw [List.take_zero,jS];exact HW0.out,HU.out⟩
  case round =>
   obtain ⟨j,kv,hj,rfl,hW,dY⟩:=hrel;obtain ⟨wo,rfl⟩:∃wo:World,wo=wr:=⟨_,rfl⟩;have x1:=dY.out.cell jG.out;by_cases hlt:j<ks.length
   ·obtain ⟨acc,hacc⟩:∃acc,acc=jS [] (ks.take j):=⟨_,rfl⟩
    (have HT:Hid (jS [] (ks.take (j+1))=x5 (iy (gr ks j)) (zG (gr ks j)) acc):=by rw [hacc];exact ordRs_take hlt);(have tj:acc.length<=90000:=by rw [hacc,QX,gV];have:=kK.out;simp;omega);(have EE:bE acc<=90000:=by rw [hacc,FQ];have:=XN ks j;have:=HSR.out;simp [bE];omega);rw [<- hacc] at hW;obtain ⟨BV,ho,NH⟩:=hW.out.kids;have hcw:=hW.out.cells;have hlen:=bF.len acc NH;have jf:=ho.vz;rw [hlen] at jf;obtain ⟨ap,ac,rfl,hac,_⟩:=ay.open jf;have hy1:=hcw.2.1;obtain ⟨kb,ko,rfl,hkc⟩:=xg (HK.out.keep (dY.out.kept _)) hlt
    (have ID:Hid (∀k,k<acc.length->∀W,Up wo W->Calls Tryz.prog 254 #[vN BV k] W fun e w'=>e=.returned (.string (iy (gr acc k)))/\W=w'):=fun k hk W hWW=>by have h1:=A3 hk;exact T6 _ (aU (gr acc k)) _ (af _) (by omega) W _ (fP.keep (hWW.kept _) _ (bF.get acc NH k hk)));have zg:Hid (∀W,Up wo W->Calls Tryz.prog 254 #[vN vs j] W fun e w'=>e=.returned (.string (iy (gr ks j)))/\W=w'):=fun W hWW=>HLX.out j hlt W (dY.out.trans hWW);have QZ:=aa (qu.out j hlt);have HY1:=aa hy1;have oT:=aa x1;have Qv:=aa hkc;have gH:=aa jf;have YS:=aa hW.out
    have jw:=aa dY.out;have bu:=aa hlt;have Uc:=aa NH;have HHO:=aa ho;have C7:=aa hlen;(have i1:(0:Int)<=(j:Int):=by omega);(have i2:(j:Int)<(ks.length:Int):=by omega);(have i3:(j:Int)<90000:=by have:=kK.out;omega);clear hacc EE NH ho hcw hlen jf hW dY hlt hj;generalize vN vs j=xv at *;generalize hs:iy (gr ks j)=s at *;generalize hoc:zG (gr ks j)=oc at *;go_wp2_with fail
    go_loopw [5] (fun q wr=>∃k m:Nat,k<=acc.length/\q=.int .i64 k/\wr=wo.drewN m/\Hid (∀i,i<k->Iz (iy (gr acc i)) s=true)) (fun q _=>acc.length - (intOf q).toNat)
    case atStart=>exact ⟨0,0,aL _,rfl,rfl,fun i hi=>absurd hi (bG _)⟩
    case round =>
     obtain ⟨k,m,hk,rfl,rfl,hlo⟩:=hrel;by_cases hkt:k<acc.length
     ·obtain ⟨yb,yo,rfl,hyc⟩:=xg gH.out hkt
      have HM1:=aa (fun n=>quiet_of (m:=m) (n:=n) (ID.out k hkt _ (Up.drewN wo _)));have YT:=aa (fun n=>quiet_of (m:=m) (n:=n) (zg.out _ (Up.drewN wo _)));(have k1:(0:Int)<=(k:Int):=by omega);(have k2:(k:Int)<(acc.length:Int):=by omega);(have k3:(k:Int)<90000:=by omega);(have dk:decide ((k:Int)<(acc.length:Int))=true:=by simp;omega);(have dn:decide (k<acc.length)=true:=by simp;omega);have IE:=aa hkt;generalize vN BV k=yv at *;cases hls:Iz (iy (gr acc k)) s
      ·have hbl:Op.bytesLess (iy (gr acc k)).toList s.toList=false:=hls
       have Ev:=aa hls;clear hls hk;generalize hs1:iy (gr acc k)=s1 at *;go_wp2_with fail;(go_big_quiet (first | with_reducible exact HM1.out _ | with_reducible exact YT.out _));go_wp2_with fail;have HZ:Hid (Up wo ((wo.drewN m).drewN nq)):=(Up.drewN _ _).trans (Up.drewN _ _);have Ud:Hid (x4 s acc=k):=Pf (by have:=IE.out;omega) hlo.out (fun _=>by rw [hs1];exact Ev.out);have hkle:k<=acc.length:=Nat.le_of_lt IE.out;generalize (wo.drewN m).drewN nq=wz at *;have hy1z:=HZ.out.cell HY1.out;have hx1z:=HZ.out.cell oT.out;have hkcz:=HZ.out.cell Qv.out;have g1:(0:Int)<=(k:Int):=by omega
       (have g2:(k:Int)<=(acc.length:Int):=by omega);(have g3:(k:Int)<=(ac:Int):=by omega);have sN:Hid (∀W,Up wz W->W.cell? ⟨w.heap.size,1,none⟩=some (.slice (some ⟨yb,yo,none⟩) acc.length ac)/\W.cell? ⟨xb,1,none⟩=some (.slice (some ⟨kb,ko,none⟩) ks.length kc)/\W.cell? ⟨kb,ko+j,none⟩=some xv):=fun W hW=>⟨hW.cell hy1z,hW.cell hx1z,hW.cell hkcz⟩;refine gQ (by kernel_rfl) 28 (fun w'=>w'.cell? ⟨w.heap.size,1,none⟩=some (.slice (some ⟨yb,yo,none⟩) acc.length ac)/\w'.cell? ⟨xb,1,none⟩=some (.slice (some ⟨kb,ko,none⟩) ks.length kc)/\w'.cell? ⟨kb,ko+j,none⟩=some xv) (sN.out _ (kz wz)) (fun hS=>?_)
       simp only [eW,aT,dO,Nat.reduceAdd,ji,jk,eV,cH,cr];refine aj.tk 0 hS ?_;(try simp only [Act.put,aA,aB,aC]);refine aj.tk 1 hS ?_;(try simp only [Act.put,aA,aB,aC]);refine aj.tk 2 hS ?_;(try simp only [Act.put,aA,aB,aC]);refine aj.tk 3 hS ?_
       (try simp only [Act.put,aA,aB,aC]);refine aj.tk 4 hS ?_;(try simp only [Act.put,aA,aB,aC]);refine aj.tk 5 hS ?_;(try simp only [Act.put,aA,aB,aC]);refine aj.tk 6 hS ?_;(try simp only [Act.put,aA,aB,aC]);refine aj.take (i:=7) (v:=.slice (some ⟨yb,yo,none⟩) k k) rfl (by kernel_rfl) (fun _ _ _ h=>h) (by rfl) (fun w hSw=>?gy7a) hS ?gr7a
       case gy7a =>(try dsimp only at hSw);go_simp
       (try simp only [Act.put,aA,aB,aC]);refine aj.tk 8 hS ?_;(try simp only [Act.put,aA,aB,aC]);refine aj.tk 9 hS ?_;(try simp only [Act.put,aA,aB,aC]);refine aj.tk 10 hS ?_;(try simp only [Act.put,aA,aB,aC]);refine aj.tk 11 hS ?_;(try simp only [Act.put,aA,aB,aC]);refine aj.tk 12 hS ?_
       (try simp only [Act.put,aA,aB,aC]);refine aj.tk 13 hS ?_;(try simp only [Act.put,aA,aB,aC]);refine aj.tk 14 hS ?_;(try simp only [Act.put,aA,aB,aC]);refine aj.tk 17 hS ?_;(try simp only [Act.put,aA,aB,aC]);refine aj.tk 18 hS ?_;(try simp only [Act.put,aA,aB,aC]);refine aj.tk 19 hS ?_
       (try simp only [Act.put,aA,aB,aC]);refine aj.tk 20 hS ?_;(try simp only [Act.put,aA,aB,aC]);refine aj.tk 21 hS ?_;(try simp only [Act.put,aA,aB,aC]);refine aj.take (i:=22) (v:=.slice (some ⟨yb,yo+k,none⟩) (acc.length - k) (ac - k)) rfl (by kernel_rfl) (fun _ _ _ h=>h) (by rfl) (fun w hSw=>?gy22a) hS ?gr22a
       case gy22a =>(try dsimp only at hSw);go_simp;intro e;have:=IE.out;omega
       (try simp only [Act.put,aA,aB,aC]);refine aj.step (i:=15) rfl (by kernel_rfl) (fun K' hK=>?_);go_simp;refine (QZ.out _ ((jw.out.trans HZ.out).trans (kz wz))).mono ?_;rintro e w3 ⟨dQ,u,rfl,hr3⟩;have dQ:Up wz.drew w3:=dQ;obtain ⟨ub,rfl⟩:=xZ hr3;rw [hoc] at hr3;have eo:=aa ((kz wz).trans dQ);have HR3:=aa hr3;have kM:=aa (Up.alloc w3 (.cells #[.pointer (some ⟨ub,0,none⟩)] 210));have hdc:=drop_cells gH.out C7.out IE.out
       have HDC:=aa fun i q hq=>kM.out.cell (eo.out.cell (HZ.out.cell (hdc i q hq)));have EF:=aa (take_cells gH.out C7.out hkle);have HNW:Hid ((w3.alloc (.cells #[.pointer (some ⟨ub,0,none⟩)] 210)).cell? ⟨w3.heap.size,0,none⟩=some (.pointer (some ⟨ub,0,none⟩))):=nW _ _ _;have EG:=aa (Ub Uc.out);(have zT:Hid (0<acc.length - k/\(BV.drop k).length=acc.length - k/\(BV.take k).length=k/\acc.length<=90000):=by have:=IE.out;have:=C7.out;unfold Hid;rw [wO,gV];omega);clear dQ hr3 hdc;refine hK.out _ _ (fun _=>sN.out _ eo.out) (fun hS=>?_)
       replace hS:=hS ⟨16,by decide,rfl⟩;(try simp only [aA,aB,aC]);refine aj.step (i:=16) rfl (by kernel_rfl) (fun K' hK=>?_);go_simp;refine hK.out _ _ (fun _=>sN.out _ (eo.out.trans kM.out)) (fun hS=>?_);replace hS:=hS ⟨23,by decide,rfl⟩;(try simp only [aA,aB,aC]);refine aj.step (i:=23) rfl (by kernel_rfl) (fun K' hK=>?_)
       refine IC (by rfl) _ _ _ (by rfl) 210 _ 8 Tryz.underlying252 Tryz.ze (by rfl) (by decide) (ao:=some ⟨w3.heap.size,0,none⟩) (n:=1) (olds:=[.pointer (some ⟨ub,0,none⟩)]) (by rfl) (fun e=>by cases e) rfl ?q1 (ad:=⟨yb,yo+k,none⟩) (m:=acc.length - k) (c:=ac - k) (news:=BV.drop k) (by rfl) zT.out.2.1 (fun i q hq=>HDC.out i q hq) ?q2 zT.out.1 (by have:=zT.out.2.2.2;omega) ?q3
       case q1 =>
        intro b e i q hq;injection e with e;subst e;cases i with
        | zero =>
         simp at hq;subst hq;(have e0:(⟨w3.heap.size,0,none⟩:Addr).add 0=⟨w3.heap.size,0,none⟩:=by simp [Addr.add]);rw [e0];exact HNW.out
        | succ i=>simp at hq
       case q2=>exact fun q hq=>EG.out q (List.mem_of_mem_drop hq)
       intro g1 c1 w4 ho4 di;have kX:=aa (eo.out.trans (kM.out.trans di));have HOC4:=aa (World.ownsRow.cells ho4 rfl);have HV4:=aa (kM.out.trans di);clear ho4 di;refine hK.out _ _ (fun _=>sN.out _ kX.out) (fun hS=>?_);replace hS:=hS ⟨24,by decide,rfl⟩;(try simp only [Act.put,aA,aB,aC]);refine aj.step (i:=24) rfl (by kernel_rfl) (fun K' hK=>?_)
       refine IC (by rfl) _ _ _ (by rfl) 210 _ 8 Tryz.underlying252 Tryz.ze (by rfl) (by decide) (ao:=some ⟨yb,yo,none⟩) (n:=k) (olds:=BV.take k) (by rfl) (fun e=>by cases e) zT.out.2.2.1 ?r1 (ad:=⟨g1,0,none⟩) (m:=1+(acc.length - k)) (c:=c1) (news:=[.pointer (some ⟨ub,0,none⟩)]++BV.drop k) (by rfl) (by rw [aZ,zT.out.2.1];rfl) (fun i q hq=>HOC4.out i q hq) ?r2 (by omega) (by have:=zT.out.2.2.2;omega) ?r3
       case r1 =>intro b e i q hq;injection e with e;subst e;exact kX.out.cell (HZ.out.cell (EF.out i q hq))
       case r2 =>
        intro q hq;rcases dV.1 hq with h1 | h1
        ·obtain rfl:q=.pointer (some ⟨ub,0,none⟩):=by simpa using h1
         rfl
        ·exact EG.out q (List.mem_of_mem_drop h1)
       intro g2 c2 w5 xm ey;have NJ:=(HZ.out.trans kX.out).trans ey;have Q0:fP (fun b=>wo.heap.size<=b/\b<w3.heap.size) w5 oc (.pointer (some ⟨ub,0,none⟩)):=fP.keep ((HV4.out.trans ey).kept _) oc (fP.sub (fun b hb hl=>⟨aJ HZ.out.size hb,hl⟩) oc HR3.out);have hs3:=HV4.out.size;have hsw:=(HZ.out.trans eo.out).size;have hBl:=YS.out.lt;have HLAY:=aa (YS.out.lay Uc.out NJ hsw (fun b hb=>by have:=(av xm hb).1;omega) Q0 k (xm.y8 (by omega)));have EH:Hid (x5 s oc acc=acc.take k++oc::acc.drop k):=by unfold Hid x5;rw [Ud.out]
       have hcw:=(YS.out.up NJ).cells;have hyf:=hcw.2.2.2;have hyc5:=hcw.2.1;have iw:=aa (kX.out.trans ey);have xM:Hid (Up w (w5.setCell ⟨w.heap.size,1,none⟩ (.slice (some ⟨g2,0,none⟩) (k+(1+(acc.length - k))) c2))):=yC (p:=⟨w.heap.size,1,none⟩) (jw.out.trans NJ) (af _) _;clear xm ey NJ Q0 hs3 hsw hcw;refine hK.out _ _ (fun _=>sN.out _ iw.out) (fun hS=>?_);replace hS:=hS ⟨27,by decide,rfl⟩;(try simp only [Act.put,aA,aB,aC]);refine aj.tk 25 hS ?_
       (try simp only [Act.put,aA,aB,aC]);refine aj.tk 26 hS ?_;(try simp only [Act.put,aA,aB,aC]);refine aj.step (i:=27) rfl (by kernel_rfl) (fun K' hK=>?_);go_simp;refine hK.out _ _ (aO (by kernel_rfl)) (fun hS=>?_);refine aj.done (by kernel_rfl) ?_;go_wp2_with fail
       go_roundw
       case rel=>exact ⟨j+1,_,bu.out,by go_num,by rw [HT.out,EH.out];exact HLAY.out,xM.out⟩
       case measure=>have:=bu.out;simp [intOf];omega
      ·have hbl:Op.bytesLess (iy (gr acc k)).toList s.toList=true:=hls
       have Ev:=aa hls;clear hls hk;generalize hs1:iy (gr acc k)=s1 at *;go_wp2_with fail;(go_big_quiet (first | with_reducible exact HM1.out _ | with_reducible exact YT.out _));go_wp2_with fail
       go_roundw
       case rel=>exact ⟨k+1,m+nq,IE.out,by go_num,rfl,fun i hi=>if e:i=k then by subst e;rw [hs1];exact Ev.out else hlo.out i (by omega)⟩
       case measure=>have:=IE.out;simp [intOf];omega
     ·obtain rfl:k=acc.length:=by omega
      (have dk:decide ((acc.length:Int)<(acc.length:Int))=false:=by simp);(have dn:decide (acc.length<acc.length)=false:=by simp);go_wp2_with fail;(go_big_quiet (fail));go_wp2_with fail;have HZ:Hid (Up wo ((wo.drewN m).drewN nq)):=(Up.drewN _ _).trans (Up.drewN _ _);have Ud:Hid (x4 s acc=acc.length):=Pf (af _) hlo.out (fun h=>absurd h (mU _));generalize (wo.drewN m).drewN nq=wz at *;have hy1z:=HZ.out.cell HY1.out;have hx1z:=HZ.out.cell oT.out;have hkcz:=HZ.out.cell Qv.out;(have g1:(0:Int)<=(acc.length:Int):=by omega);have g2:(acc.length:Int)<=(acc.length:Int):=by omega
      (have g3:(acc.length:Int)<=(ac:Int):=by omega);have sN:Hid (∀W,Up wz W->W.cell? ⟨w.heap.size,1,none⟩=some (.slice ap acc.length ac)/\W.cell? ⟨xb,1,none⟩=some (.slice (some ⟨kb,ko,none⟩) ks.length kc)/\W.cell? ⟨kb,ko+j,none⟩=some xv):=fun W hW=>⟨hW.cell hy1z,hW.cell hx1z,hW.cell hkcz⟩;refine gQ (by kernel_rfl) 28 (fun w'=>w'.cell? ⟨w.heap.size,1,none⟩=some (.slice ap acc.length ac)/\w'.cell? ⟨xb,1,none⟩=some (.slice (some ⟨kb,ko,none⟩) ks.length kc)/\w'.cell? ⟨kb,ko+j,none⟩=some xv) (sN.out _ (kz wz)) (fun hS=>?_)
      simp only [eW,aT,dO,Nat.reduceAdd,ji,jk,eV,cH,cr];refine aj.tk 0 hS ?_;(try simp only [Act.put,aA,aB,aC]);refine aj.tk 1 hS ?_;(try simp only [Act.put,aA,aB,aC]);refine aj.tk 2 hS ?_;(try simp only [Act.put,aA,aB,aC]);refine aj.tk 3 hS ?_
      (try simp only [Act.put,aA,aB,aC]);refine aj.tk 4 hS ?_;(try simp only [Act.put,aA,aB,aC]);refine aj.tk 5 hS ?_;(try simp only [Act.put,aA,aB,aC]);refine aj.tk 6 hS ?_;(try simp only [Act.put,aA,aB,aC]);refine aj.take (i:=7) (v:=.slice ap acc.length acc.length) rfl (by kernel_rfl) (fun _ _ _ h=>h) (by rfl) (fun w hSw=>?gy7b) hS ?gr7b
      case gy7b =>(try dsimp only at hSw);go_simp
      (try simp only [Act.put,aA,aB,aC]);refine aj.tk 8 hS ?_;(try simp only [Act.put,aA,aB,aC]);refine aj.tk 9 hS ?_;(try simp only [Act.put,aA,aB,aC]);refine aj.tk 10 hS ?_;(try simp only [Act.put,aA,aB,aC]);refine aj.tk 11 hS ?_;(try simp only [Act.put,aA,aB,aC]);refine aj.tk 12 hS ?_
      (try simp only [Act.put,aA,aB,aC]);refine aj.tk 13 hS ?_;(try simp only [Act.put,aA,aB,aC]);refine aj.tk 14 hS ?_;(try simp only [Act.put,aA,aB,aC]);refine aj.tk 17 hS ?_;(try simp only [Act.put,aA,aB,aC]);refine aj.tk 18 hS ?_;(try simp only [Act.put,aA,aB,aC]);refine aj.tk 19 hS ?_
      (try simp only [Act.put,aA,aB,aC]);refine aj.tk 20 hS ?_;(try simp only [Act.put,aA,aB,aC]);refine aj.tk 21 hS ?_;(try simp only [Act.put,aA,aB,aC]);refine aj.take (i:=22) (v:=.slice (sEnd ap acc.length ac) 0 (ac - acc.length)) rfl (by kernel_rfl) (fun _ _ _ h=>h) (by rfl) (fun w hSw=>?gy22b) hS ?gr22b
      case gy22b =>(try dsimp only at hSw);go_simp;try (unfold sEnd;simp)
      (try simp only [Act.put,aA,aB,aC]);refine aj.step (i:=15) rfl (by kernel_rfl) (fun K' hK=>?_);go_simp;refine (QZ.out _ ((jw.out.trans HZ.out).trans (kz wz))).mono ?_;rintro e w3 ⟨dQ,u,rfl,hr3⟩;have dQ:Up wz.drew w3:=dQ;obtain ⟨ub,rfl⟩:=xZ hr3;rw [hoc] at hr3;have eo:=aa ((kz wz).trans dQ);have HR3:=aa hr3;have kM:=aa (Up.alloc w3 (.cells #[.pointer (some ⟨ub,0,none⟩)] 210));have EF:=aa (all_cells gH.out C7.out)
      have HNW:Hid ((w3.alloc (.cells #[.pointer (some ⟨ub,0,none⟩)] 210)).cell? ⟨w3.heap.size,0,none⟩=some (.pointer (some ⟨ub,0,none⟩))):=nW _ _ _;have EG:=aa (Ub Uc.out);have zT:Hid (BV.length=acc.length/\acc.length<=90000):=⟨C7.out,tj⟩;clear dQ hr3;refine hK.out _ _ (fun _=>sN.out _ eo.out) (fun hS=>?_);replace hS:=hS ⟨16,by decide,rfl⟩;(try simp only [aA,aB,aC]);refine aj.step (i:=16) rfl (by kernel_rfl) (fun K' hK=>?_);go_simp;refine hK.out _ _ (fun _=>sN.out _ (eo.out.trans kM.out)) (fun hS=>?_)
      replace hS:=hS ⟨23,by decide,rfl⟩;(try simp only [aA,aB,aC]);refine aj.step (i:=23) rfl (by kernel_rfl) (fun K' hK=>?_);refine step_app0 (by rfl) _ _ _ (by rfl) 210 _ 8 Tryz.underlying252 Tryz.ze (ao:=some ⟨w3.heap.size,0,none⟩) (n:=1) (c:=1) (by rfl) (af _) (ad:=sEnd ap acc.length ac) (c2:=ac - acc.length) (by rfl) ?_;refine hK.out _ _ (fun _=>sN.out _ (eo.out.trans kM.out)) (fun hS=>?_);replace hS:=hS ⟨24,by decide,rfl⟩;try simp only [Act.put,aA,aB,aC]
      refine aj.step (i:=24) rfl (by kernel_rfl) (fun K' hK=>?_);refine IC (by rfl) _ _ _ (by rfl) 210 _ 8 Tryz.underlying252 Tryz.ze (by rfl) (by decide) (ao:=ap) (n:=acc.length) (olds:=BV) (by rfl) (all_none gH.out) zT.out.1 ?p1 (ad:=⟨w3.heap.size,0,none⟩) (m:=1) (c:=1) (news:=[.pointer (some ⟨ub,0,none⟩)]) (by rfl) rfl ?p2 ?p4 (by omega) (by have:=zT.out.2;omega) ?p3
      case p1=>exact fun b e i q hq=>kM.out.cell (eo.out.cell (HZ.out.cell (EF.out b e i q hq)))
      case p2 =>
       intro i q hq;cases i with
       | zero =>
        simp at hq;subst hq;(have e0:(⟨w3.heap.size,0,none⟩:Addr).add 0=⟨w3.heap.size,0,none⟩:=by simp [Addr.add]);rw [e0];exact HNW.out
       | succ i=>simp at hq
      case p4 =>intro q hq;(obtain rfl:q=.pointer (some ⟨ub,0,none⟩):=by simpa using hq);rfl
      intro g2 c2 w5 xm ey;have NJ:=(HZ.out.trans (eo.out.trans kM.out)).trans ey;have Q0:fP (fun b=>wo.heap.size<=b/\b<w3.heap.size) w5 oc (.pointer (some ⟨ub,0,none⟩)):=fP.keep ((kM.out.trans ey).kept _) oc (fP.sub (fun b hb hl=>⟨aJ HZ.out.size hb,hl⟩) oc HR3.out);have hs3:=kM.out.size;have hsw:=(HZ.out.trans eo.out).size;have hBl:=YS.out.lt
      have HLAY:=aa (YS.out.lay Uc.out NJ hsw (fun b hb=>by have:=(av xm hb).1;omega) Q0 acc.length (by rw [Bj (by rw [zT.out.1];exact af _),List.drop_of_length_le (by rw [zT.out.1];exact af _)];exact xm.y8 (by omega)));(have EH:Hid (x5 s oc acc=acc.take acc.length++oc::acc.drop acc.length):=by unfold Hid x5;rw [Ud.out]);have hcw:=(YS.out.up NJ).cells;have hyf:=hcw.2.2.2;have hyc5:=hcw.2.1;have iw:=aa ((eo.out.trans kM.out).trans ey)
      have xM:Hid (Up w (w5.setCell ⟨w.heap.size,1,none⟩ (.slice (some ⟨g2,0,none⟩) (acc.length+1) c2))):=yC (p:=⟨w.heap.size,1,none⟩) (jw.out.trans NJ) (af _) _;clear xm ey NJ Q0 hs3 hsw hcw;refine hK.out _ _ (fun _=>sN.out _ iw.out) (fun hS=>?_);replace hS:=hS ⟨27,by decide,rfl⟩;(try simp only [Act.put,aA,aB,aC]);refine aj.tk 25 hS ?_;(try simp only [Act.put,aA,aB,aC]);refine aj.tk 26 hS ?_
      (try simp only [Act.put,aA,aB,aC]);refine aj.step (i:=27) rfl (by kernel_rfl) (fun K' hK=>?_);go_simp;refine hK.out _ _ (aO (by kernel_rfl)) (fun hS=>?_);refine aj.done (by kernel_rfl) ?_;go_wp2_with fail
      go_roundw
      case rel=>exact ⟨j+1,_,bu.out,by go_num,by rw [HT.out,EH.out];exact HLAY.out,xM.out⟩
      case measure=>have:=bu.out;simp [intOf];omega
   ·obtain rfl:j=ks.length:=by omega
    have HD:=aa hW.out.done;have IG:=aa dY.out;clear hW dY hlt hj;go_wp2_with fail;go_ret;refine ⟨IG.out,_,rfl,?_⟩;have h:=HD.out;rw [gh] at h;rw [zG];exact h
end
section
open Go.RowKit Go.Deep
def CkRPost (w:World) (s:ByteArray) (e:Ending) (w':World):Prop:=Below w.heap.size w w'/\∃r,e=.returned (.int .i64 r)/\(s.data.toList.all zO=true->r=0)
theorem Ue {s:ByteArray} (h:s.data.toList.all zO=true) {k:Nat} (hk:k<s.size):zO s[k]=true :=
 wL.1 h _ (by rw [Array.mem_toList_iff];exact Array.getElem_mem _)
theorem ckR_t (s:ByteArray) (hs:s.size<=1000) (w:World):Calls Tryz.prog 248 #[.string s] w (CkRPost w s):=by
 go_enter Tryz.func248,Tryz.ntmps248
 go_wp2_with fail
 refine (right_t s hs _).mono ?_
 rintro e w1 ⟨hb,v,bs,rfl,hbl,jf⟩
 obtain ⟨p,cap,rfl,hcap,H⟩:=jf.open
 have HH:=aa H
 clear H jf hbl
 go_wp2_with fail
 go_loop [4,5] (fun i _=>∃k:Nat,k<=s.size/\i=.int .i64 k) (fun i _=>s.size - (intOf i).toNat)
 case atStart=>exact ⟨0,aL _,rfl⟩
 case round =>
  obtain ⟨k,hk,rfl⟩:=hrel
  by_cases hlt:k<s.size
  ·obtain ⟨b,off,rfl,hc⟩:=HH.out k hlt
   have hka:s.data.toList.all zO=true->gW s[k].toNat=1\/gW s[k].toNat=3:=fun h=>(Br s[k]).2 (Ue h hlt)
   have HKA:=aa hka
   clear HH hka
   go_wp2_with (go_at_call 249;refine (AW _ (UInt8.toNat_lt _) _).mono ?_;rintro e w' ⟨rfl,rfl⟩;generalize gW _=q at *)
   all_goals first | (go_round;(case rel=>exact ⟨k+1,by omega,by go_num⟩);(case measure=>simp [intOf];omega)) | (go_ret;exact ⟨hb,_,rfl,fun h=>by have:=HKA.out h;simp at *;omega⟩)
  ·clear HH
   go_wp2_with fail
   go_ret
   exact ⟨hb,_,rfl,fun _=>rfl⟩
def IwPost (w:World) (s:ByteArray) (e:Ending) (w':World):Prop:=Below w.heap.size w w'/\∃b,e=.returned (.bool b)/\(s.data.toList.all zO=true->1<=s.size->b=true)/\(s.size=0->b=false)
theorem isWordR_t (s:ByteArray) (hs:s.size<=16) (w:World):Calls Tryz.prog 199 #[.string s] w (IwPost w s):=by
 by_cases h0:s.size<1
 ·go_enter Tryz.func199,Tryz.ntmps199
  go_wp2_with fail;go_ret;exact ⟨dM _ _,_,rfl,fun _ h=>by omega,fun _=>rfl⟩
 ·have h0':((0:Nat)<s.size):=by omega
  have hka:s.data.toList.all zO=true->gW s[0].toNat=1\/gW s[0].toNat=3:=fun h=>(Br s[0]).2 (Ue h h0');have HKA:=aa hka;clear hka
  go_enter Tryz.func199,Tryz.ntmps199
  go_wp2_with fail;refine (ckR_t s (by omega) _).mono ?_;rintro e w1 ⟨hb,r,rfl,hr⟩;have HR:=aa hr;clear hr;go_wp2_with (go_at_call 249;refine (AW _ (UInt8.toNat_lt _) _).mono ?_;rintro e w' ⟨rfl,rfl⟩;generalize gW _=q at *)
  all_goals first
   | (go_ret;exact ⟨hb,_,rfl,fun h _=>(by exfalso;have h1:=HKA.out h;have h2:=HR.out h;subst h2;simp at *;omega),fun _=>rfl⟩)
   | skip
  all_goals
   clear HR
   go_loop [4] (fun i=>∃k:Nat,k<=s.size/\i=.int .i64 k) (fun i=>s.size - (intOf i).toNat)
   case atStart=>exact ⟨0,aL _,rfl⟩
   case round =>
    obtain ⟨k,hk,rfl⟩:=hrel;by_cases hlt:k<s.size
    ·have hka:s.data.toList.all zO=true->gW s[k].toNat=1\/gW s[k].toNat=3:=fun h=>(Br s[k]).2 (Ue h hlt)
     have HKB:=aa hka;clear hka;go_wp2_with (go_at_call 249;refine (AW _ (UInt8.toNat_lt _) _).mono ?_;rintro e w' ⟨rfl,rfl⟩;generalize gW s[k].toNat=y at *)
     all_goals first | (go_round;(case rel=>exact ⟨k+1,by omega,by go_num⟩);(case measure=>simp [intOf];omega)) | (go_ret;exact ⟨hb,_,rfl,fun h _=>(by exfalso;have h1:=HKB.out h;omega),fun _=>rfl⟩)
    ·go_wp2_with fail
     go_ret;exact ⟨hb,_,rfl,fun _ _=>rfl,fun h=>by omega⟩
theorem tq (s:ByteArray) (hs:s.size<=70000) (w:World):Calls Tryz.prog 141 #[.string s] w fun e w'=>e=.returned (.bool (jl s.data.toList))/\Below w.heap.size w w':=by
 have hl:=size_data s;have hA:=Te s.data.toList;have eU:jl s.data.toList=decide (1<=s.size/\s.size<=16/\rD s.data.toList=s.size):=by unfold jl;rw [hl] at hA ⊢;rw [lR];simp only [gD,decide_eq_true_eq];rw [<- hA,and_assoc]
 rw [hl] at hA;have HF:=aa eU;have HA:=aa hA;clear eU hl hA;by_cases KM:s.size<=16
 ·go_enter Tryz.func141,Tryz.ntmps141
  go_wp2_with fail;refine (isWordR_t s KM _).mono ?_;rintro e w1 ⟨hb,b,rfl,h1,h2⟩;have H1:=aa h1;have H2:=aa h2;clear h1 h2;cases b
  ·go_wp2_with fail
   go_ret;refine ⟨aV ?_,hb⟩;rw [HF.out,eq_comm,decide_eq_false_iff_not];rintro ⟨a1,a2,a3⟩;have:=H1.out (HA.out.1 a3) a1;cases this
  ·go_wp2_with (go_at_call 200;refine (lettersR_t s hs _).mono ?_;rintro e w' ⟨rfl,rfl⟩)
   go_ret;refine ⟨aV ?_,hb⟩;(have h0:s.size≠0:=fun e=>by have:=H2.out e;cases this);rw [HF.out,lR];simp;omega
 ·go_enter Tryz.func141,Tryz.ntmps141
  go_wp2_with fail;go_ret;refine ⟨aV ?_,dM _ _⟩;rw [HF.out,eq_comm,decide_eq_false_iff_not];omega
theorem FR (s:ByteArray) (h:s.size - 1<s.size):s.data.toList.getLast? = some s[s.size - 1]:=by
 have hl:=size_data s;rw [List.getLast?_eq_getElem?,hl,iQ (by rw [hl];exact h)];rfl
theorem FT (s:ByteArray) (h:s.size - 1<s.size) (KM:s.size<=16) (GY:((s[s.size - 1].toNat:Int)==42)=true):b7 s.data.toList=jl (s.extract 0 (s.size - 1)).data.toList:=by
 have hl:=size_data s;have h2:s[s.size - 1]=42:=by
  have h3:(s[s.size - 1].toNat:Int)=42:=by simpa using GY
  have h4:s[s.size - 1].toNat=42:=by omega
  exact UInt8.toNat_inj.1 h4
 unfold b7;rw [FR s h,h2,if_pos rfl,Tg,hl];simp [KM]
theorem DU (s:ByteArray) (h:s.size - 1<s.size) (GY:((s[s.size - 1].toNat:Int)==42)=false):b7 s.data.toList=jl s.data.toList:=by
 unfold b7;rw [FR s h,if_neg];intro e;injection e with e;rw [e] at GY;simp at GY
theorem named_far (s:ByteArray) (h:16<s.size):b7 s.data.toList=jl s.data.toList:=by
 have hl:=size_data s;unfold b7;split
 ·rename_i GY
  rw [Hx s.data.toList GY,hl,decide_eq_false (by omega),Bool.and_false]
 ·rfl
theorem II (s:ByteArray) (h:s.size<=1):b7 s.data.toList=jl s.data.toList:=by
 have hl:=size_data s;unfold b7;split
 ·rename_i GY
  rw [Hx s.data.toList GY];have:s.data.toList.dropLast=[]:=by rw [<- CL,List.length_dropLast];omega
  rw [this];rfl
 ·rfl
theorem namedR_t (s:ByteArray) (hs:s.size<=70000) (w:World):Calls Tryz.prog 97 #[.string s] w fun e w'=>e=.returned (.bool (b7 s.data.toList))/\Below w.heap.size w w':=by
 go_enter Tryz.func97,Tryz.ntmps97
 go_wp2_with fail
 ·have hf:=aa (FT s (by omega) (by omega) ‹_›)
  refine (tq _ (by simp;omega) _).mono ?_
  rintro e w1 ⟨rfl,hb⟩
  rw [<- hf.out]
  go_wp2_with fail
  go_ret
  exact ⟨rfl,hb⟩
 ·have hf:=aa (DU s (by omega) ‹_›)
  refine (tq _ hs _).mono ?_
  rintro e w1 ⟨rfl,hb⟩
  rw [<- hf.out]
  go_wp2_with fail
  go_ret
  exact ⟨rfl,hb⟩
 ·have hf:=aa (named_far s (by omega))
  refine (tq _ hs _).mono ?_
  rintro e w1 ⟨rfl,hb⟩
  rw [<- hf.out]
  go_wp2_with fail
  go_ret
  exact ⟨rfl,hb⟩
 ·have hf:=aa (II s (by omega))
  refine (tq _ hs _).mono ?_
  rintro e w1 ⟨rfl,hb⟩
  rw [<- hf.out]
  go_wp2_with fail
  go_ret
  exact ⟨rfl,hb⟩
end
end Go.Proofs.YthgabkgmkolobaaGreat
