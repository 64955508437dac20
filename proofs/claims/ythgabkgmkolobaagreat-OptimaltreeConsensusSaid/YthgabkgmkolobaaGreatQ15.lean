/- The contract of layer 31's reference's .. -/
import Derived.Test.YthgabkgmkolobaaGreatQ14
set_option maxRecDepth 100000
set_option maxHeartbeats 4000000
namespace Go.Proofs.YthgabkgmkolobaaGreat
section
open Go.RowKit Go.Deep
def vA (s:ByteArray):List RT->Nat
 | []=>0
 | b::l=>if EX (fV b) s=true then vA s l+1 else 0
theorem K8 {s:ByteArray}:∀ {l:List RT} {k:Nat},k<=l.length->(∀j,j<k->EX (fV (gr l j)) s=true)->(k<l.length->EX (fV (gr l k)) s=false)->vA s l=k
 | [],k,hk,_,_=>by
  obtain rfl:k=0:=by simpa using hk
  rfl
 | b::l,0,_,_,h=>by
  have h1:EX (fV b) s=false:=h (by simp)
  rw [vA,if_neg (by rw [h1];simp)]
 | b::l,k+1,hk,h0,h=>by
  have h1:EX (fV b) s=true:=h0 0 (by omega)
  rw [vA,if_pos h1,K8 (l:=l) (k:=k) (by simpa using hk) (fun j hj=>h0 (j+1) (by omega)) (fun hl=>h (by simpa using hl))]
def vB (s:ByteArray) (o:RT) (l:List RT):List RT:=l.take (vA s l)++(o::l.drop (vA s l))
mutual
def wW:RT->RT
 | .node nm ks=>.node nm (iW [] ks)
def iW (acc:List RT):List RT->List RT
 | []=>acc
 | c::cs=>iW (vB (fV c) (wW c) acc) cs
end
theorem abc (s:ByteArray) (o:RT) (l:List RT):(vB s o l).length=l.length+1:=by
 unfold vB;have:vA s l<=l.length:=by
  induction l with
  | nil=>exact ah _
  | cons b l ih =>
   rw [vA,aW];split
   ·omega
   ·omega
 rw [bg,jl,aW,xN];omega
theorem MI (acc:List RT):∀(a b:List RT),iW acc (a++b)=iW (iW acc a) b
 | [],_=>by rw [iW];rfl
 | c::a,b=>by rw [cm,iW,iW];exact MI _ a b
theorem VW {ks:List RT} {i:Nat} (h:i<ks.length):iW [] (ks.take (i+1))=vB (fV (gr ks i)) (wW (gr ks i)) (iW [] (ks.take i)):=by
 have hg:gr ks i=ks[i]:=by simp [gr,h]
 rw [jQ h,MI,iW,iW,hg]
theorem MJ:∀(ks acc:List RT),(iW acc ks).length=acc.length+ks.length
 | [],acc=>by rw [iW];simp
 | c::ks,acc=>by rw [iW,MJ ks,abc,aW];omega
theorem xW:∀(a b:List RT),aK (a++b)=aK a+aK b
 | [],b=>by rw [aK];simp
 | r::a,b=>by rw [cm,aK,aK,xW a b];omega
theorem VX (s:ByteArray) (o:RT) (l:List RT):aK (vB s o l)=aK l+aP o:=by
 unfold vB;rw [xW,aK];have h:=xW (l.take (vA s l)) (l.drop (vA s l));rw [BV] at h;omega
mutual
theorem MK:∀r:RT,aP (wW r)=aP r
 | .node nm ks=>by rw [wW,aP,aP,Df ks []];simp [aK]
theorem Df:∀(ks acc:List RT),aK (iW acc ks)=aK acc+aK ks
 | [],acc=>by rw [iW,aK];rfl
 | c::ks,acc=>by rw [iW,Df ks,VX,MK c,aK];omega
end
theorem S7 (ks:List RT) (i:Nat):aK (ks.take i)<=aK ks:=by
 have h:=xW (ks.take i) (ks.drop i);rw [BV] at h;omega
theorem VY {S:Nat->Prop} {w:World} {b off n cap k:Nat} {vs:List Value} (h:aq S w (.slice (some ⟨b,off,none⟩) n cap) n (vN vs)) (hl:vs.length=n) (_:k<n) (i:Nat) (q:Value) (hq:(vs.drop k)[i]? = some q):w.cell? ((⟨b,off+k,none⟩:Addr).add i)=some q:=by
 rw [List.getElem?_drop] at hq;have hki:k+i<n:=by rw [<- hl];exact (o8.1 hq).1
 obtain ⟨b',o',e,hc⟩:=wF h hki;injection e with e;injection e with e1 e2;subst e1;subst e2;have hv:vN vs (k+i)=q:=by unfold vN;rw [rP,hq];rfl
 rw [hv] at hc;rw [Addr.add_lit,show off+k+i=off+(k+i) by omega];exact hc
theorem VZ {S:Nat->Prop} {w:World} {b off n cap k:Nat} {vs:List Value} (h:aq S w (.slice (some ⟨b,off,none⟩) n cap) n (vN vs)) (hl:vs.length=n) (_:k<=n) (i:Nat) (q:Value) (hq:(vs.take k)[i]? = some q):w.cell? ((⟨b,off,none⟩:Addr).add i)=some q:=by
 rw [List.getElem?_take] at hq;split at hq
 ·have hki:i<n:=by rw [<- hl];exact (o8.1 hq).1
  obtain ⟨b',o',e,hc⟩:=wF h hki;injection e with e;injection e with e1 e2;subst e1;subst e2;have hv:vN vs i=q:=by unfold vN;rw [rP,hq];rfl
  rw [hv] at hc;rw [Addr.add_lit];exact hc
 ·cases hq
theorem PX {S:Nat->Prop} {w:World}:∀ {rs:List RT} {vs:List Value},bw S w rs vs->∀u∈vs,u.oneCell'=true
 | [],vs,h,u,hu=>by unfold bw at h;subst h;cases hu
 | r::rs,vs,h,u,hu=>by
  unfold bw at h
  obtain ⟨x,us,rfl,h1,h2⟩:=h
  rcases bA.1 hu with rfl | hu
  ·obtain ⟨b,rfl⟩:=F9 h1;rfl
  ·exact PX h2 u hu
theorem quiet_of {P:Program} {f:FuncId} {args:Array Value} {w:World} {m n:Nat} {v:Value} (h:Calls P f args (w.drewN (m+n)) fun e w'=>e=.returned v/\w.drewN (m+n)=w'):Calls P f args (w.drewN (m+n)) fun e w''=>e=.returned v/\∃q,w''=w.drewN (m+q) :=
 h.mono fun _ _ ⟨h1,h2⟩=>⟨h1,n,h2.symm⟩
def Ye (w:World) (r:RT) (e:Ending) (w':World):Prop:=Up w w'/\∃u,e=.returned u/\fN (fun b=>w.heap.size<=b) w' (wW r) u
theorem Yf (S:Nat->Prop):∀(d:Nat) (r:RT),aP r<=d->d<=90000->∀(w:World) (v:Value),fN S w r v->Calls Tryz.prog 206 #[v] w (Ye w r):=by
 intro d
 induction d with
 | zero=>intro r hr;have:=oT r;omega
 | succ d ih =>
 intro r hr hd w v hv;cases r with
 | node nm ks =>
  have hv0:=hv;obtain ⟨xb,kp,kc,vs,rfl,hS,c0,c1,hk,hs⟩:=hv.open;simp only [RT.nm,RT.kids] at c0 c1 hk hs;have jt:=xV ks;rw [aP] at hr;have fO:=Up.alloc w (.cells #[.string nm,.slice none 0 0] 254);have Yg:=aa (sS.start w (ah _) nm);have gA:=aa c1;have HK:=aa hk;have HR:=aa hs;have oO:Hid (∀j,j<ks.length->∀W,Up w W->Calls Tryz.prog 206 #[vN vs j] W (Ye W (gr ks j))):=fun j hj W hW=>by have h1:=Cn hj;exact ih (gr ks j) (by omega) (by omega) W _ (fN.keep (hW.kept S) _ (bw.get ks hs j hj))
  have HLX:Hid (∀j,j<ks.length->∀W,Up w W->Calls Tryz.prog 254 #[vN vs j] W fun e w'=>e=.returned (.string (fV (gr ks j)))/\W=w'):=fun j hj W hW=>by have h1:=Cn hj;exact PJ S (aP (gr ks j)) _ (ah _) (by omega) W _ (fN.keep (hW.kept S) _ (bw.get ks hs j hj))
  have HU:=aa fO;have pX:Hid (ks.length<=90000):=by unfold Hid;omega
  have TU:Hid (aK ks<=90000):=by unfold Hid;omega
  clear ih hv hv0 fO hk hs hr jt hS;go_in;go_wp2_with fail;clear c0 c1
  go_loopw [4,5] (fun i _ wr=>∃(j:Nat) (kv:Value),j<=ks.length/\i=.int .i64 j/\Hid (sS w.heap.size w.heap.size wr nm kv (iW [] (ks.take j)))/\Hid (Up w wr)) (fun i _ _=>ks.length - (intOf i).toNat)
  case atStart=>exact ⟨0,_,aF _,rfl,by rw [List.take_zero,iW];exact Yg.out,HU.out⟩
  case round =>
   obtain ⟨j,kv,hj,rfl,hW,cz⟩:=hrel;obtain ⟨wo,rfl⟩:=eM wr;have x1:=cz.out.cell gA.out;by_cases hlt:j<ks.length
   ·obtain ⟨acc,hacc⟩:∃acc,acc=iW [] (ks.take j):=⟨_,rfl⟩
    (have HT:Hid (iW [] (ks.take (j+1))=vB (fV (gr ks j)) (wW (gr ks j)) acc):=by rw [hacc];exact VW hlt);(have ajk:acc.length<=90000:=by rw [hacc,MJ,jl];have:=pX.out;simp;omega);(have JO:aK acc<=90000:=by rw [hacc,Df];have:=S7 ks j;have:=TU.out;simp [aK];omega);rw [<- hacc] at hW;obtain ⟨ze,ho,Au⟩:=hW.out.kids;have hcw:=hW.out.cells;have hlen:=bw.len acc Au;have kF:=ho.uf;rw [hlen] at kF;obtain ⟨ap,ac,rfl,hac,_⟩:=aq.open kF;have hy1:=hcw.2.1;obtain ⟨kb,ko,rfl,hkc⟩:=wF (HK.out.keep (cz.out.kept _)) hlt;(have DV:Hid (∀k,k<acc.length->∀W,Up wo W->Calls Tryz.prog 254 #[vN ze k] W fun e w'=>e=.returned (.string (fV (gr acc k)))/\W=w'):=fun k hk W hWW=>by have h1:=Cn hk;exact PJ _ (aP (gr acc k)) _ (ah _) (by omega) W _ (fN.keep (hWW.kept _) _ (bw.get acc Au k hk)));have JP:Hid (∀W,Up wo W->Calls Tryz.prog 254 #[vN vs j] W fun e w'=>e=.returned (.string (fV (gr ks j)))/\W=w'):=fun W hWW=>HLX.out j hlt W (cz.out.trans hWW);have HOC:=aa (oO.out j hlt);have HY1:=aa hy1;have k8:=aa x1;have Al:=aa hkc;have sN:=aa kF;have TV:=aa hW.out;have kZ:=aa cz.out;have aR:=aa hlt;have JQ:=aa Au;have HHO:=aa ho;have GL:=aa hlen;(have i1:(0:Int)<=(j:Int):=by omega);(have i2:(j:Int)<(ks.length:Int):=by omega);(have i3:(j:Int)<90000:=by have:=pX.out;omega);clear hacc JO Au ho hcw hlen kF hW cz hlt hj;generalize vN vs j=xv at *;generalize hs:fV (gr ks j)=s at *;generalize hoc:wW (gr ks j)=oc at *;go_wp2
    go_loopw [5] (fun q wr=>∃k m:Nat,k<=acc.length/\q=.int .i64 k/\wr=wo.drewN m/\Hid (∀i,i<k->EX (fV (gr acc i)) s=true)) (fun q _=>acc.length - (intOf q).toNat)
    case atStart=>exact ⟨0,0,aF _,rfl,rfl,fun i hi=>absurd hi (aZ _)⟩
    case round =>
     obtain ⟨k,m,hk,rfl,rfl,hlo⟩:=hrel;by_cases hkt:k<acc.length
     ·obtain ⟨yb,yo,rfl,hyc⟩:=wF sN.out hkt
      have Yh:=aa (fun n=>quiet_of (m:=m) (n:=n) (DV.out k hkt _ (Up.drewN wo _)));have ML:=aa (fun n=>quiet_of (m:=m) (n:=n) (JP.out _ (Up.drewN wo _)));(have k1:(0:Int)<=(k:Int):=by omega);(have k2:(k:Int)<(acc.length:Int):=by omega);(have k3:(k:Int)<90000:=by omega);(have dk:decide ((k:Int)<(acc.length:Int))=true:=by simp;omega);(have dn:decide (k<acc.length)=true:=by simp;omega);have E2:=aa hkt;generalize vN ze k=yv at *;cases hls:EX (fV (gr acc k)) s
      ·have hbl:Op.bytesLess (fV (gr acc k)).toList s.toList=false:=hls
       have uT:=aa hls;clear hls hk;generalize hs1:fV (gr acc k)=s1 at *;go_wp2_with fail;(go_big_quiet (first | with_reducible exact Yh.out _ | with_reducible exact ML.out _));go_wp2_with fail;have HZ:Hid (Up wo ((wo.drewN m).drewN nq)):=(Up.drewN _ _).trans (Up.drewN _ _);have zg:Hid (vA s acc=k):=K8 (by have:=E2.out;omega) hlo.out (fun _=>by rw [hs1];exact uT.out);have ajl:k<=acc.length:=Nat.le_of_lt E2.out;generalize (wo.drewN m).drewN nq=wz at *;have abd:=HZ.out.cell HY1.out;have abe:=HZ.out.cell k8.out;have abf:=HZ.out.cell Al.out;(have g1:(0:Int)<=(k:Int):=by omega);(have g2:(k:Int)<=(acc.length:Int):=by omega);(have g3:(k:Int)<=(ac:Int):=by omega);have qE:Hid (∀W,Up wz W->W.cell? ⟨w.heap.size,1,none⟩=some (.slice (some ⟨yb,yo,none⟩) acc.length ac)/\W.cell? ⟨xb,1,none⟩=some (.slice (some ⟨kb,ko,none⟩) ks.length kc)/\W.cell? ⟨kb,ko+j,none⟩=some xv):=fun W hW=>⟨hW.cell abd,hW.cell abe,hW.cell abf⟩;refine fR (by kernel_rfl) 28 (fun w'=>w'.cell? ⟨w.heap.size,1,none⟩=some (.slice (some ⟨yb,yo,none⟩) acc.length ac)/\w'.cell? ⟨xb,1,none⟩=some (.slice (some ⟨kb,ko,none⟩) ks.length kc)/\w'.cell? ⟨kb,ko+j,none⟩=some xv) (qE.out _ (jh wz)) (fun hS=>?_);simp only [dY,aW,dw,Nat.reduceAdd,iu,iw,dX,di,cm];refine az.kG 0 1 2 3 hS ?_;(try simp only [Act.put,aL,aM,aN]);refine az.xk 4 5 hS ?_;(try simp only [Act.put,aL,aM,aN]);refine az.tk 6 hS ?_;(try simp only [Act.put,aL,aM,aN]);refine az.take (i:=7) (v:=.slice (some ⟨yb,yo,none⟩) k k) rfl (by kernel_rfl) (fun _ _ _ h=>h) (by rfl) (fun w hSw=>?ajm) hS ?alS
       case ajm =>(try dsimp only at hSw);go_simp
       (try simp only [Act.put,aL,aM,aN]);refine az.kG 8 9 10 11 hS ?_;(try simp only [Act.put,aL,aM,aN]);refine az.kG 12 13 14 17 hS ?_;(try simp only [Act.put,aL,aM,aN]);refine az.kG 18 19 20 21 hS ?_;(try simp only [Act.put,aL,aM,aN]);refine az.take (i:=22) (v:=.slice (some ⟨yb,yo+k,none⟩) (acc.length - k) (ac - k)) rfl (by kernel_rfl) (fun _ _ _ h=>h) (by rfl) (fun w hSw=>?aix) hS ?alg
       case aix =>(try dsimp only at hSw);go_simp;intro e;have:=E2.out;omega
       (try simp only [Act.put,aL,aM,aN]);refine az.st 15 fun K' hK=>?_;go_simp;refine (HOC.out _ ((kZ.out.trans HZ.out).trans (jh wz))).mono ?_;rintro e w3 ⟨cR,u,rfl,hr3⟩;have cR:Up wz.drew w3:=cR;obtain ⟨ub,rfl⟩:=F9 hr3;rw [hoc] at hr3;have eW:=aa ((jh wz).trans cR);have HR3:=aa hr3;have iQ:=aa (Up.alloc w3 (.cells #[.pointer (some ⟨ub,0,none⟩)] 210));have hdc:=VY sN.out GL.out E2.out;have HDC:=aa fun i q hq=>iQ.out.cell (eW.out.cell (HZ.out.cell (hdc i q hq)));have JR:=aa (VZ sN.out GL.out ajl);have HNW:Hid ((w3.alloc (.cells #[.pointer (some ⟨ub,0,none⟩)] 210)).cell? ⟨w3.heap.size,0,none⟩=some (.pointer (some ⟨ub,0,none⟩))):=mA _ _ _;have TW:=aa (PX JQ.out);(have xw:Hid (0<acc.length - k/\(ze.drop k).length=acc.length - k/\(ze.take k).length=k/\acc.length<=90000):=by have:=E2.out;have:=GL.out;unfold Hid;rw [xN,jl];omega);clear cR hr3 hdc;refine hK.out _ _ (fun _=>qE.out _ eW.out) (fun hS=>?_);replace hS:=hS ⟨16,by decide,rfl⟩;(try simp only [aL,aM,aN]);refine az.st 16 fun K' hK=>?_;go_simp;refine hK.out _ _ (fun _=>qE.out _ (eW.out.trans iQ.out)) (fun hS=>?_);replace hS:=hS ⟨23,by decide,rfl⟩;(try simp only [aL,aM,aN]);refine az.st 23 fun K' hK=>?_;refine E1 (by rfl) _ _ _ (by rfl) 210 _ 8 Tryz.underlying252 Tryz.E0 (by rfl) (by decide) (ao:=some ⟨w3.heap.size,0,none⟩) (n:=1) (olds:=[.pointer (some ⟨ub,0,none⟩)]) (by rfl) (fun e=>by cases e) rfl ?q1 (ad:=⟨yb,yo+k,none⟩) (m:=acc.length - k) (c:=ac - k) (news:=ze.drop k) (by rfl) xw.out.2.1 (fun i q hq=>HDC.out i q hq) ?q2 xw.out.1 (by have:=xw.out.2.2.2;omega) ?q3
       case q1 =>
        intro b e i q hq;injection e with e;subst e;cases i with
        | zero =>
         simp at hq;subst hq;(have e0:(⟨w3.heap.size,0,none⟩:Addr).add 0=⟨w3.heap.size,0,none⟩:=by simp [Addr.add]);rw [e0];exact HNW.out
        | succ i=>simp at hq
       case q2=>exact fun q hq=>TW.out q (List.mem_of_mem_drop hq)
       intro g1 c1 w4 XZ gU;have k7:=aa (eW.out.trans (iQ.out.trans gU));have ajn:=aa (World.ownsRow.cells XZ rfl);have HV4:=aa (iQ.out.trans gU);clear XZ gU;refine hK.out _ _ (fun _=>qE.out _ k7.out) (fun hS=>?_);replace hS:=hS ⟨24,by decide,rfl⟩;(try simp only [Act.put,aL,aM,aN]);refine az.st 24 fun K' hK=>?_;refine E1 (by rfl) _ _ _ (by rfl) 210 _ 8 Tryz.underlying252 Tryz.E0 (by rfl) (by decide) (ao:=some ⟨yb,yo,none⟩) (n:=k) (olds:=ze.take k) (by rfl) (fun e=>by cases e) xw.out.2.2.1 ?r1 (ad:=⟨g1,0,none⟩) (m:=1+(acc.length - k)) (c:=c1) (news:=[.pointer (some ⟨ub,0,none⟩)]++ze.drop k) (by rfl) (by rw [bg,xw.out.2.1];rfl) (fun i q hq=>ajn.out i q hq) ?r2 (by omega) (by have:=xw.out.2.2.2;omega) ?r3
       case r1 =>intro b e i q hq;injection e with e;subst e;exact k7.out.cell (HZ.out.cell (JR.out i q hq))
       case r2 =>
        intro q hq;rcases ey.1 hq with h1 | h1
        ·obtain rfl:q=.pointer (some ⟨ub,0,none⟩):=by simpa using h1
         rfl
        ·exact TW.out q (List.mem_of_mem_drop h1)
       intro g2 c2 w5 xx gJ;have JS:=(HZ.out.trans k7.out).trans gJ;have DW:fN (fun b=>wo.heap.size<=b/\b<w3.heap.size) w5 oc (.pointer (some ⟨ub,0,none⟩)):=fN.keep ((HV4.out.trans gJ).kept _) oc (fN.sub (fun b hb hl=>⟨aB HZ.out.size hb,hl⟩) oc HR3.out);have hs3:=HV4.out.size;have hsw:=(HZ.out.trans eW.out).size;have hBl:=TV.out.lt;have abg:=aa (TV.out.lay JQ.out JS hsw (fun b hb=>by have:=(av xx hb).1;omega) DW k (xx.tK (by omega)));(have Cr:Hid (vB s oc acc=acc.take k++oc::acc.drop k):=by unfold Hid vB;rw [zg.out]);have hcw:=(TV.out.up JS).cells;have hyf:=hcw.2.2.2;have ajo:=hcw.2.1;have kK:=aa (k7.out.trans gJ);have PY:Hid (Up w (w5.setCell ⟨w.heap.size,1,none⟩ (.slice (some ⟨g2,0,none⟩) (k+(1+(acc.length - k))) c2))):=Below.setCell (p:=⟨w.heap.size,1,none⟩) (kZ.out.trans JS) (ah _) _;clear xx gJ JS DW hs3 hsw hcw;refine hK.out _ _ (fun _=>qE.out _ kK.out) (fun hS=>?_);replace hS:=hS ⟨27,by decide,rfl⟩;(try simp only [Act.put,aL,aM,aN]);refine az.xk 25 26 hS ?_;(try simp only [Act.put,aL,aM,aN]);refine az.st 27 fun K' hK=>?_;go_simp;refine hK.out _ _ (bF ·) (fun hS=>?_);refine az.done (by kernel_rfl) ?_;go_wp2
       go_roundw
       case rel=>exact ⟨j+1,_,aR.out,by go_num,by rw [HT.out,Cr.out];exact abg.out,PY.out⟩
       case measure=>have:=aR.out;simp [intOf];omega
      ·have hbl:Op.bytesLess (fV (gr acc k)).toList s.toList=true:=hls
       have uT:=aa hls;clear hls hk;generalize hs1:fV (gr acc k)=s1 at *;go_wp2_with fail;(go_big_quiet (first | with_reducible exact Yh.out _ | with_reducible exact ML.out _));go_wp2
       go_roundw
       case rel=>exact ⟨k+1,m+nq,E2.out,by go_num,rfl,fun i hi=>if e:i=k then by subst e;rw [hs1];exact uT.out else hlo.out i (by omega)⟩
       case measure=>have:=E2.out;simp [intOf];omega
     ·obtain rfl:k=acc.length:=by omega
      (have dk:decide ((acc.length:Int)<(acc.length:Int))=false:=by simp);(have dn:decide (acc.length<acc.length)=false:=by simp);go_wp2_with fail;(go_big_quiet (fail));go_wp2_with fail;have HZ:Hid (Up wo ((wo.drewN m).drewN nq)):=(Up.drewN _ _).trans (Up.drewN _ _);have zg:Hid (vA s acc=acc.length):=K8 (ah _) hlo.out (fun h=>absurd h (Nat.lt_irrefl _));generalize (wo.drewN m).drewN nq=wz at *;have abd:=HZ.out.cell HY1.out;have abe:=HZ.out.cell k8.out;have abf:=HZ.out.cell Al.out;(have g1:(0:Int)<=(acc.length:Int):=by omega);(have g2:(acc.length:Int)<=(acc.length:Int):=by omega);(have g3:(acc.length:Int)<=(ac:Int):=by omega);have qE:Hid (∀W,Up wz W->W.cell? ⟨w.heap.size,1,none⟩=some (.slice ap acc.length ac)/\W.cell? ⟨xb,1,none⟩=some (.slice (some ⟨kb,ko,none⟩) ks.length kc)/\W.cell? ⟨kb,ko+j,none⟩=some xv):=fun W hW=>⟨hW.cell abd,hW.cell abe,hW.cell abf⟩;refine fR (by kernel_rfl) 28 (fun w'=>w'.cell? ⟨w.heap.size,1,none⟩=some (.slice ap acc.length ac)/\w'.cell? ⟨xb,1,none⟩=some (.slice (some ⟨kb,ko,none⟩) ks.length kc)/\w'.cell? ⟨kb,ko+j,none⟩=some xv) (qE.out _ (jh wz)) (fun hS=>?_);simp only [dY,aW,dw,Nat.reduceAdd,iu,iw,dX,di,cm];refine az.kG 0 1 2 3 hS ?_;(try simp only [Act.put,aL,aM,aN]);refine az.xk 4 5 hS ?_;(try simp only [Act.put,aL,aM,aN]);refine az.tk 6 hS ?_;(try simp only [Act.put,aL,aM,aN]);refine az.take (i:=7) (v:=.slice ap acc.length acc.length) rfl (by kernel_rfl) (fun _ _ _ h=>h) (by rfl) (fun w hSw=>?ajp) hS ?alT
      case ajp =>(try dsimp only at hSw);go_simp
      (try simp only [Act.put,aL,aM,aN]);refine az.kG 8 9 10 11 hS ?_;(try simp only [Act.put,aL,aM,aN]);refine az.kG 12 13 14 17 hS ?_;(try simp only [Act.put,aL,aM,aN]);refine az.kG 18 19 20 21 hS ?_;(try simp only [Act.put,aL,aM,aN]);refine az.take (i:=22) (v:=.slice (abb ap acc.length ac) 0 (ac - acc.length)) rfl (by kernel_rfl) (fun _ _ _ h=>h) (by rfl) (fun w hSw=>?aiy) hS ?alh
      case aiy =>(try dsimp only at hSw);go_simp;try (unfold abb;simp)
      (try simp only [Act.put,aL,aM,aN]);refine az.st 15 fun K' hK=>?_;go_simp;refine (HOC.out _ ((kZ.out.trans HZ.out).trans (jh wz))).mono ?_;rintro e w3 ⟨cR,u,rfl,hr3⟩;have cR:Up wz.drew w3:=cR;obtain ⟨ub,rfl⟩:=F9 hr3;rw [hoc] at hr3;have eW:=aa ((jh wz).trans cR);have HR3:=aa hr3;have iQ:=aa (Up.alloc w3 (.cells #[.pointer (some ⟨ub,0,none⟩)] 210));have JR:=aa (Yd sN.out GL.out);have HNW:Hid ((w3.alloc (.cells #[.pointer (some ⟨ub,0,none⟩)] 210)).cell? ⟨w3.heap.size,0,none⟩=some (.pointer (some ⟨ub,0,none⟩))):=mA _ _ _;have TW:=aa (PX JQ.out);have xw:Hid (ze.length=acc.length/\acc.length<=90000):=⟨GL.out,ajk⟩;clear cR hr3;refine hK.out _ _ (fun _=>qE.out _ eW.out) (fun hS=>?_);replace hS:=hS ⟨16,by decide,rfl⟩;(try simp only [aL,aM,aN]);refine az.st 16 fun K' hK=>?_;go_simp;refine hK.out _ _ (fun _=>qE.out _ (eW.out.trans iQ.out)) (fun hS=>?_);replace hS:=hS ⟨23,by decide,rfl⟩;(try simp only [aL,aM,aN]);refine az.st 23 fun K' hK=>?_;refine Yc (by rfl) _ _ _ (by rfl) 210 _ 8 Tryz.underlying252 Tryz.E0 (ao:=some ⟨w3.heap.size,0,none⟩) (n:=1) (c:=1) (by rfl) (ah _) (ad:=abb ap acc.length ac) (c2:=ac - acc.length) (by rfl) ?_;refine hK.out _ _ (fun _=>qE.out _ (eW.out.trans iQ.out)) (fun hS=>?_);replace hS:=hS ⟨24,by decide,rfl⟩;(try simp only [Act.put,aL,aM,aN]);refine az.st 24 fun K' hK=>?_;refine E1 (by rfl) _ _ _ (by rfl) 210 _ 8 Tryz.underlying252 Tryz.E0 (by rfl) (by decide) (ao:=ap) (n:=acc.length) (olds:=ze) (by rfl) (all_none sN.out) xw.out.1 ?p1 (ad:=⟨w3.heap.size,0,none⟩) (m:=1) (c:=1) (news:=[.pointer (some ⟨ub,0,none⟩)]) (by rfl) rfl ?p2 ?p4 (by omega) (by have:=xw.out.2;omega) ?p3
      case p1=>exact fun b e i q hq=>iQ.out.cell (eW.out.cell (HZ.out.cell (JR.out b e i q hq)))
      case p2 =>
       intro i q hq;cases i with
       | zero =>
        simp at hq;subst hq;(have e0:(⟨w3.heap.size,0,none⟩:Addr).add 0=⟨w3.heap.size,0,none⟩:=by simp [Addr.add]);rw [e0];exact HNW.out
       | succ i=>simp at hq
      case p4 =>intro q hq;(obtain rfl:q=.pointer (some ⟨ub,0,none⟩):=by simpa using hq);rfl
      intro g2 c2 w5 xx gJ;have JS:=(HZ.out.trans (eW.out.trans iQ.out)).trans gJ;have DW:fN (fun b=>wo.heap.size<=b/\b<w3.heap.size) w5 oc (.pointer (some ⟨ub,0,none⟩)):=fN.keep ((iQ.out.trans gJ).kept _) oc (fN.sub (fun b hb hl=>⟨aB HZ.out.size hb,hl⟩) oc HR3.out);have hs3:=iQ.out.size;have hsw:=(HZ.out.trans eW.out).size;have hBl:=TV.out.lt;have abg:=aa (TV.out.lay JQ.out JS hsw (fun b hb=>by have:=(av xx hb).1;omega) DW acc.length (by rw [BW (by rw [xw.out.1];exact ah _),List.drop_of_length_le (by rw [xw.out.1];exact ah _)];exact xx.tK (by omega)));(have Cr:Hid (vB s oc acc=acc.take acc.length++oc::acc.drop acc.length):=by unfold Hid vB;rw [zg.out]);have hcw:=(TV.out.up JS).cells;have hyf:=hcw.2.2.2;have ajo:=hcw.2.1;have kK:=aa ((eW.out.trans iQ.out).trans gJ);have PY:Hid (Up w (w5.setCell ⟨w.heap.size,1,none⟩ (.slice (some ⟨g2,0,none⟩) (acc.length+1) c2))):=Below.setCell (p:=⟨w.heap.size,1,none⟩) (kZ.out.trans JS) (ah _) _;clear xx gJ JS DW hs3 hsw hcw;refine hK.out _ _ (fun _=>qE.out _ kK.out) (fun hS=>?_);replace hS:=hS ⟨27,by decide,rfl⟩;(try simp only [Act.put,aL,aM,aN]);refine az.xk 25 26 hS ?_;(try simp only [Act.put,aL,aM,aN]);refine az.st 27 fun K' hK=>?_;go_simp;refine hK.out _ _ (bF ·) (fun hS=>?_);refine az.done (by kernel_rfl) ?_;go_wp2
      go_roundw
      case rel=>exact ⟨j+1,_,aR.out,by go_num,by rw [HT.out,Cr.out];exact abg.out,PY.out⟩
      case measure=>have:=aR.out;simp [intOf];omega
   ·obtain rfl:j=ks.length:=by omega
    have HD:=aa hW.out.done;have HUF:=aa cz.out;clear hW cz hlt hj;go_wp2;go_ret;refine ⟨HUF.out,_,rfl,?_⟩;have h:=HD.out;rw [fT] at h;rw [wW];exact h
end
section
open Go.RowKit Go.Deep
def aez (w:World) (s:ByteArray) (e:Ending) (w':World):Prop:=Below w.heap.size w w'/\∃r,e=.returned (.int .i64 r)/\(s.data.toList.all xe=true->r=0)
theorem PZ {s:ByteArray} (h:s.data.toList.all xe=true) {k:Nat} (hk:k<s.size):xe s[k]=true :=
 s8.1 h _ (by rw [Array.mem_toList_iff];exact Array.getElem_mem _)
theorem aiz (s:ByteArray) (hs:s.size<=1000) (w:World):Calls Tryz.prog 248 #[.string s] w (aez w s):=by
 go_in;go_wp2_with fail;refine (aei s hs _).mono ?_;rintro e w1 ⟨hb,v,bs,rfl,hbl,kF⟩;obtain ⟨p,cap,rfl,hcap,H⟩:=kF.open;have HH:=aa H;clear H kF hbl;go_wp2
 go_loop [4,5] (fun i _=>∃k:Nat,k<=s.size/\i=.int .i64 k) (fun i _=>s.size - (intOf i).toNat)
 case atStart=>exact ⟨0,aF _,rfl⟩
 case round =>
  obtain ⟨k,hk,rfl⟩:=hrel;by_cases hlt:k<s.size
  ·obtain ⟨b,off,rfl,hc⟩:=HH.out k hlt
   have hka:s.data.toList.all xe=true->fE s[k].toNat=1\/fE s[k].toNat=3:=fun h=>(yG s[k]).2 (PZ h hlt);have Yi:=aa hka;clear HH hka;go_wp2_with (go_at_call 249;refine (ym _ (UInt8.toNat_lt _) _).mono ?_;rintro e w' ⟨rfl,rfl⟩;generalize fE _=q at *)
   all_goals first | (go_round;(case rel=>exact ⟨k+1,by omega,by go_num⟩);(case measure=>simp [intOf];omega)) | (go_ret;exact ⟨hb,_,rfl,fun h=>by have:=Yi.out h;simp at *;omega⟩)
  ·clear HH
   go_wp2;go_ret;exact ⟨hb,_,rfl,fun _=>rfl⟩
def agk (w:World) (s:ByteArray) (e:Ending) (w':World):Prop:=Below w.heap.size w w'/\∃b,e=.returned (.bool b)/\(s.data.toList.all xe=true->1<=s.size->b=true)/\(s.size=0->b=false)
theorem Yj (s:ByteArray) (hs:s.size<=16) (w:World):Calls Tryz.prog 199 #[.string s] w (agk w s):=by
 by_cases h0:s.size<1
 ·go_in
  go_wp2;go_ret;exact ⟨cM _ _,_,rfl,fun _ h=>by omega,fun _=>rfl⟩
 ·have h0':((0:Nat)<s.size):=by omega
  have hka:s.data.toList.all xe=true->fE s[0].toNat=1\/fE s[0].toNat=3:=fun h=>(yG s[0]).2 (PZ h h0');have Yi:=aa hka;clear hka;go_in;go_wp2_with fail;refine (aiz s (by omega) _).mono ?_;rintro e w1 ⟨hb,r,rfl,hr⟩;have HR:=aa hr;clear hr;go_wp2_with (go_at_call 249;refine (ym _ (UInt8.toNat_lt _) _).mono ?_;rintro e w' ⟨rfl,rfl⟩;generalize fE _=q at *)
  all_goals first
   | (go_ret;exact ⟨hb,_,rfl,fun h _=>(by exfalso;have h1:=Yi.out h;have h2:=HR.out h;subst h2;simp at *;omega),fun _=>rfl⟩)
   | skip
  all_goals
   clear HR
   go_loop [4] (fun i=>∃k:Nat,k<=s.size/\i=.int .i64 k) (fun i=>s.size - (intOf i).toNat)
   case atStart=>exact ⟨0,aF _,rfl⟩
   case round =>
    obtain ⟨k,hk,rfl⟩:=hrel;by_cases hlt:k<s.size
    ·have hka:s.data.toList.all xe=true->fE s[k].toNat=1\/fE s[k].toNat=3:=fun h=>(yG s[k]).2 (PZ h hlt)
     have HKB:=aa hka;clear hka;go_wp2_with (go_at_call 249;refine (ym _ (UInt8.toNat_lt _) _).mono ?_;rintro e w' ⟨rfl,rfl⟩;generalize fE s[k].toNat=y at *)
     all_goals first | (go_round;(case rel=>exact ⟨k+1,by omega,by go_num⟩);(case measure=>simp [intOf];omega)) | (go_ret;exact ⟨hb,_,rfl,fun h _=>(by exfalso;have h1:=HKB.out h;omega),fun _=>rfl⟩)
    ·go_wp2
     go_ret;exact ⟨hb,_,rfl,fun _ _=>rfl,fun h=>by omega⟩
theorem lW (s:ByteArray) (hs:s.size<=70000) (w:World):Calls Tryz.prog 141 #[.string s] w fun e w'=>e=.returned (.bool (gN s.data.toList))/\Below w.heap.size w w':=by
 have hl:=size_data s;have hA:=OP s.data.toList;have dK:gN s.data.toList=decide (1<=s.size/\s.size<=16/\o9 s.data.toList=s.size):=by unfold gN;rw [hl] at hA ⊢;rw [mW];simp only [eF,decide_eq_true_eq];rw [<- hA,and_assoc]
 rw [hl] at hA;have HF:=aa dK;have HA:=aa hA;clear dK hl hA;by_cases Yk:s.size<=16
 ·go_in
  go_wp2_with fail;refine (Yj s Yk _).mono ?_;rintro e w1 ⟨hb,b,rfl,h1,h2⟩;have H1:=aa h1;have H2:=aa h2;clear h1 h2;cases b
  ·go_wp2
   go_ret;refine ⟨aO ?_,hb⟩;rw [HF.out,eq_comm,decide_eq_false_iff_not];rintro ⟨a1,a2,a3⟩;have:=H1.out (HA.out.1 a3) a1;cases this
  ·go_wp2_with (go_at_call 200;refine (VE s hs _).mono ?_;rintro e w' ⟨rfl,rfl⟩)
   go_ret;refine ⟨aO ?_,hb⟩;(have h0:s.size≠0:=fun e=>by have:=H2.out e;cases this);rw [HF.out,mW];simp;omega
 ·go_in
  go_wp2;go_ret;refine ⟨aO ?_,cM _ _⟩;rw [HF.out,eq_comm,decide_eq_false_iff_not];omega
theorem Dg (s:ByteArray) (h:s.size - 1<s.size):s.data.toList.getLast? = some s[s.size - 1]:=by
 have hl:=size_data s;rw [List.getLast?_eq_getElem?,hl,kQ (by rw [hl];exact h)];rfl
theorem xX (s:ByteArray) (h:s.size - 1<s.size) (Yk:s.size<=16) (DX:((s[s.size - 1].toNat:Int)==42)=true):bq s.data.toList=gN (s.extract 0 (s.size - 1)).data.toList:=by
 have hl:=size_data s;have h2:s[s.size - 1]=42:=by
  have h3:(s[s.size - 1].toNat:Int)=42:=by simpa using DX
  have h4:s[s.size - 1].toNat=42:=by omega
  exact UInt8.toNat_inj.1 h4
 unfold bq;rw [Dg s h,h2,if_pos rfl,OS,hl];simp [Yk]
theorem vV (s:ByteArray) (h:s.size - 1<s.size) (DX:((s[s.size - 1].toNat:Int)==42)=false):bq s.data.toList=gN s.data.toList:=by
 unfold bq;rw [Dg s h,if_neg];intro e;injection e with e;rw [e] at DX;simp at DX
theorem Yl (s:ByteArray) (h:16<s.size):bq s.data.toList=gN s.data.toList:=by
 have hl:=size_data s;unfold bq;split
 ·rename_i DX
  rw [Ex s.data.toList DX,hl,decide_eq_false (by omega),Bool.and_false]
 ·rfl
theorem Ay (s:ByteArray) (h:s.size<=1):bq s.data.toList=gN s.data.toList:=by
 have hl:=size_data s;unfold bq;split
 ·rename_i DX
  rw [Ex s.data.toList DX];have:s.data.toList.dropLast=[]:=by rw [<- xO,List.length_dropLast];omega
  rw [this];rfl
 ·rfl
theorem abh (s:ByteArray) (hs:s.size<=70000) (w:World):Calls Tryz.prog 97 #[.string s] w fun e w'=>e=.returned (.bool (bq s.data.toList))/\Below w.heap.size w w':=by
 go_in;go_wp2_with fail
 ·have hf:=aa (xX s (by omega) (by omega) ‹_›)
  refine (lW _ (by simp;omega) _).mono ?_;rintro e w1 ⟨rfl,hb⟩;rw [<- hf.out];go_wp2;go_ret;exact ⟨rfl,hb⟩
 ·have hf:=aa (vV s (by omega) ‹_›)
  refine (lW _ hs _).mono ?_;rintro e w1 ⟨rfl,hb⟩;rw [<- hf.out];go_wp2;go_ret;exact ⟨rfl,hb⟩
 ·have hf:=aa (Yl s (by omega))
  refine (lW _ hs _).mono ?_;rintro e w1 ⟨rfl,hb⟩;rw [<- hf.out];go_wp2;go_ret;exact ⟨rfl,hb⟩
 ·have hf:=aa (Ay s (by omega))
  refine (lW _ hs _).mono ?_;rintro e w1 ⟨rfl,hb⟩;rw [<- hf.out];go_wp2;go_ret;exact ⟨rfl,hb⟩
end
end Go.Proofs.YthgabkgmkolobaaGreat
