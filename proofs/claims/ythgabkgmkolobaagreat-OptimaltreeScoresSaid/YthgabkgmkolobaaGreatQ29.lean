/- The contract of layer 31's reference's ordered. -/
import Derived.Test.YthgabkgmkolobaaGreatQ28
set_option maxRecDepth 100000
namespace Go.Proofs.YthgabkgmkolobaaGreat
open Go.RowKit Go.Deep
def posK (s:ByteArray):List RT→Nat
 | []=>0
 | b::l=>if xw (lstR b) s=true then posK s l+1 else 0
theorem BH {s:ByteArray}:∀ {l:List RT} {k:Nat},k≤l.length→(∀j,j<k→xw (lstR (gr l j)) s=true)→(k<l.length→xw (lstR (gr l k)) s=false)→posK s l=k
 | [],k,hk,_,_=>by
  obtain rfl:k=0:=by simpa using hk
  rfl
 | b::l,0,_,_,h=>by
  have h1:xw (lstR b) s=false:=h (by simp)
  rw [posK,if_neg (by rw [h1];simp)]
 | b::l,k+1,hk,h0,h=>by
  have h1:xw (lstR b) s=true:=h0 0 (by omega)
  rw [posK,if_pos h1,BH (l:=l) (k:=k) (by simpa using hk) (fun j hj=>h0 (j+1) (by omega)) (fun hl=>h (by simpa using hl))]
def nU (s:ByteArray) (o:RT) (l:List RT):List RT:=l.take (posK s l)++(o::l.drop (posK s l))
mutual
def ordR:RT→RT
 | .node nm ks=>.node nm (eo [] ks)
def eo (acc:List RT):List RT→List RT
 | []=>acc
 | c::cs=>eo (nU (lstR c) (ordR c) acc) cs
end
theorem PG (s:ByteArray) (o:RT) (l:List RT):(nU s o l).length=l.length+1:=by
 unfold nU;have:posK s l≤l.length:=by
  induction l with
  | nil=>exact Nat.le_refl _
  | cons b l ih =>
   rw [posK,List.length_cons];split
   ·omega
   ·omega
 rw [List.length_append,List.length_take,List.length_cons,List.length_drop];omega
theorem C6 (acc:List RT):∀(a b:List RT),eo acc (a++b)=eo (eo acc a) b
 | [],_=>by rw [eo];rfl
 | c::a,b=>by rw [List.cons_append,eo,eo];exact C6 _ a b
theorem Ki {ks:List RT} {i:Nat} (h:i<ks.length):eo [] (ks.take (i+1))=nU (lstR (gr ks i)) (ordR (gr ks i)) (eo [] (ks.take i)):=by
 have hg:gr ks i=ks[i]:=by simp [gr,h]
 rw [List.take_succ_eq_append_getElem h,C6,eo,eo,hg]
theorem C7:∀(ks acc:List RT),(eo acc ks).length=acc.length+ks.length
 | [],acc=>by rw [eo];simp
 | c::ks,acc=>by rw [eo,C7 ks,PG,List.length_cons];omega
theorem qf:∀(a b:List RT),sizeRs (a++b)=sizeRs a+sizeRs b
 | [],b=>by rw [sizeRs];simp
 | r::a,b=>by rw [List.cons_append,sizeRs,sizeRs,qf a b];omega
theorem Kj (s:ByteArray) (o:RT) (l:List RT):sizeRs (nU s o l)=sizeRs l+aL o:=by
 unfold nU;rw [qf,sizeRs];have h:=qf (l.take (posK s l)) (l.drop (posK s l));rw [List.take_append_drop] at h;omega
mutual
theorem C8:∀r:RT,aL (ordR r)=aL r
 | .node nm ks=>by rw [ordR,aL,aL,uI ks []];simp [sizeRs]
theorem uI:∀(ks acc:List RT),sizeRs (eo acc ks)=sizeRs acc+sizeRs ks
 | [],acc=>by rw [eo,sizeRs];rfl
 | c::ks,acc=>by rw [eo,uI ks,Kj,C8 c,sizeRs];omega
end
theorem Hq (ks:List RT) (i:Nat):sizeRs (ks.take i)≤sizeRs ks:=by
 have h:=qf (ks.take i) (ks.drop i);rw [List.take_append_drop] at h;omega
theorem Kk {S:Nat→Prop} {w:World} {b off n cap k:Nat} {vs:List Value} (h:aC S w (.slice (some ⟨b,off,none⟩) n cap) n (vN vs)) (hl:vs.length=n) (_:k<n) (i:Nat) (q:Value) (hq:(vs.drop k)[i]? = some q):w.cell? ((⟨b,off+k,none⟩:Addr).add i)=some q:=by
 rw [List.getElem?_drop] at hq;have hki:k+i<n:=by rw [← hl];exact (List.getElem?_eq_some_iff.1 hq).1
 obtain ⟨b',o',e,hc⟩:=mS h hki;injection e with e;injection e with e1 e2;subst e1;subst e2;have hv:vN vs (k+i)=q:=by unfold vN;rw [List.getD_eq_getElem?_getD,hq];rfl
 rw [hv] at hc;rw [Addr.add_lit,show off+k+i=off+(k+i) by omega];exact hc
theorem Kl {S:Nat→Prop} {w:World} {b off n cap k:Nat} {vs:List Value} (h:aC S w (.slice (some ⟨b,off,none⟩) n cap) n (vN vs)) (hl:vs.length=n) (_:k≤n) (i:Nat) (q:Value) (hq:(vs.take k)[i]? = some q):w.cell? ((⟨b,off,none⟩:Addr).add i)=some q:=by
 rw [List.getElem?_take] at hq;split at hq
 ·have hki:i<n:=by rw [← hl];exact (List.getElem?_eq_some_iff.1 hq).1
  obtain ⟨b',o',e,hc⟩:=mS h hki;injection e with e;injection e with e1 e2;subst e1;subst e2;have hv:vN vs i=q:=by unfold vN;rw [List.getD_eq_getElem?_getD,hq];rfl
  rw [hv] at hc;rw [Addr.add_lit];exact hc
 ·cases hq
theorem Fy {S:Nat→Prop} {w:World}:∀ {rs:List RT} {vs:List Value},RsAt S w rs vs→∀u∈vs,u.oneCell'=true
 | [],vs,h,u,hu=>by unfold RsAt at h;subst h;cases hu
 | r::rs,vs,h,u,hu=>by
  unfold RsAt at h
  obtain ⟨x,us,rfl,h1,h2⟩:=h
  rcases List.mem_cons.1 hu with rfl | hu
  ·obtain ⟨b,rfl⟩:=nT h1;rfl
  ·exact Fy h2 u hu
theorem quiet_of {P:Program} {f:FuncId} {args:Array Value} {w:World} {m n:Nat} {v:Value} (h:Calls P f args (w.drewN (m+n)) fun e w'=>e=.returned v∧w.drewN (m+n)=w'):Calls P f args (w.drewN (m+n)) fun e w''=>e=.returned v∧∃q,w''=w.drewN (m+q) :=
 h.mono fun _ _ ⟨h1,h2⟩=>⟨h1,n,h2.symm⟩
def MI (w:World) (r:RT) (e:Ending) (w':World):Prop:=Up w w'∧∃u,e=.returned u∧RAt (fun b=>w.heap.size≤b) w' (ordR r) u
set_option maxHeartbeats 4000000 in
theorem MJ (S:Nat→Prop):∀(d:Nat) (r:RT),aL r≤d→d≤90000→∀(w:World) (v:Value),RAt S w r v→Calls Tryz.prog 206 #[v] w (MI w r):=by
 intro d
 induction d with
 | zero=>intro r hr;have:=ku r;omega
 | succ d ih =>
 intro r hr hd w v hv;cases r with
 | node nm ks =>
  have hv0:=hv;obtain ⟨xb,kp,kc,vs,rfl,hS,c0,c1,hk,hs⟩:=hv.open;simp only [RT.nm,RT.kids] at c0 c1 hk hs;have fK:=mU ks;rw [aL] at hr;have aY:=Up.alloc w (.cells #[.string nm,.slice none 0 0] 254);have HW0:=aa (jS.start w (Nat.le_refl _) nm);have jE:=aa c1;have HK:=aa hk;have HR:=aa hs;have jk:Hid (∀j,j<ks.length→∀W,Up w W→Calls Tryz.prog 206 #[vN vs j] W (MI W (gr ks j))):=fun j hj W hW=>by have h1:=qp hj;exact ih (gr ks j) (by omega) (by omega) W _ (RAt.keep (hW.kept S) _ (RsAt.get ks hs j hj))
  have HLX:Hid (∀j,j<ks.length→∀W,Up w W→Calls Tryz.prog 254 #[vN vs j] W fun e w'=>e=.returned (.string (lstR (gr ks j)))∧W=w'):=fun j hj W hW=>by have h1:=qp hj;exact Fs S (aL (gr ks j)) _ (Nat.le_refl _) (by omega) W _ (RAt.keep (hW.kept S) _ (RsAt.get ks hs j hj))
  have HU:=aa aY;have iw:Hid (ks.length≤90000):=by unfold Hid;omega
  have Mg:Hid (sizeRs ks≤90000):=by unfold Hid;omega
  clear ih hv hv0 aY hk hs hr fK hS
  go_enter Tryz.func206,Tryz.ntmps206
  go_wp2_with fail;clear c0 c1
  go_loopw [4,5] (fun i _ wr=>∃(j:Nat) (kv:Value),j≤ks.length∧i=.int .i64 j∧Hid (jS w.heap.size w.heap.size wr nm kv (eo [] (ks.take j)))∧Hid (Up w wr)) (fun i _ _=>ks.length - (intOf i).toNat)
  case atStart=>exact ⟨0,_,Nat.zero_le _,rfl,by rw [List.take_zero,eo];exact HW0.out,HU.out⟩
  case round =>
   obtain ⟨j,kv,hj,rfl,hW,dK⟩:=hrel;obtain ⟨wo,rfl⟩:∃wo:World,wo=wr:=⟨_,rfl⟩;have x1:=dK.out.cell jE.out;by_cases hlt:j<ks.length
   ·obtain ⟨acc,hacc⟩:∃acc,acc=eo [] (ks.take j):=⟨_,rfl⟩
    (have HT:Hid (eo [] (ks.take (j+1))=nU (lstR (gr ks j)) (ordR (gr ks j)) acc):=by rw [hacc];exact Ki hlt);(have hal2:acc.length≤90000:=by rw [hacc,C7,List.length_take];have:=iw.out;simp;omega);(have tF:sizeRs acc≤90000:=by rw [hacc,uI];have:=Hq ks j;have:=Mg.out;simp [sizeRs];omega);rw [← hacc] at hW;obtain ⟨q9,ho,AB⟩:=hW.out.kids;have hcw:=hW.out.cells;have hlen:=RsAt.len acc AB;have gC:=ho.wA;rw [hlen] at gC;obtain ⟨ap,ac,rfl,hac,_⟩:=aC.open gC;have hy1:=hcw.2.1;obtain ⟨kb,ko,rfl,hkc⟩:=mS (HK.out.keep (dK.out.kept _)) hlt
    (have xA:Hid (∀k,k<acc.length→∀W,Up wo W→Calls Tryz.prog 254 #[vN q9 k] W fun e w'=>e=.returned (.string (lstR (gr acc k)))∧W=w'):=fun k hk W Vq=>by have h1:=qp hk;exact Fs _ (aL (gr acc k)) _ (Nat.le_refl _) (by omega) W _ (RAt.keep (Vq.kept _) _ (RsAt.get acc AB k hk)));have vk:Hid (∀W,Up wo W→Calls Tryz.prog 254 #[vN vs j] W fun e w'=>e=.returned (.string (lstR (gr ks j)))∧W=w'):=fun W Vq=>HLX.out j hlt W (dK.out.trans Vq);have YT:=aa (jk.out j hlt);have YU:=aa hy1;have jT:=aa x1;have UM:=aa hkc;have ir:=aa gC;have I4:=aa hW.out
    have jB:=aa dK.out;have aW:=aa hlt;have RA:=aa AB;have RB:=aa ho;have C9:=aa hlen;(have i1:(0:Int)≤(j:Int):=by omega);(have i2:(j:Int)<(ks.length:Int):=by omega);(have i3:(j:Int)<90000:=by have:=iw.out;omega);clear hacc tF AB ho hcw hlen gC hW dK hlt hj;generalize vN vs j=xv at *;generalize hs:lstR (gr ks j)=s at *;generalize YV:ordR (gr ks j)=oc at *;go_wp2_with fail
    go_loopw [5] (fun q wr=>∃k m:Nat,k≤acc.length∧q=.int .i64 k∧wr=wo.drewN m∧Hid (∀i,i<k→xw (lstR (gr acc i)) s=true)) (fun q _=>acc.length - (intOf q).toNat)
    case atStart=>exact ⟨0,0,Nat.zero_le _,rfl,rfl,fun i hi=>absurd hi (Nat.not_lt_zero _)⟩
    case round =>
     obtain ⟨k,m,hk,rfl,rfl,hlo⟩:=hrel;by_cases Vr:k<acc.length
     ·obtain ⟨yb,yo,rfl,hyc⟩:=mS ir.out Vr
      have Da:=aa (fun n=>quiet_of (m:=m) (n:=n) (xA.out k Vr _ (Up.drewN wo _)));have yL:=aa (fun n=>quiet_of (m:=m) (n:=n) (vk.out _ (Up.drewN wo _)));(have k1:(0:Int)≤(k:Int):=by omega);(have k2:(k:Int)<(acc.length:Int):=by omega);(have k3:(k:Int)<90000:=by omega);(have dk:decide ((k:Int)<(acc.length:Int))=true:=by simp;omega);(have dn:decide (k<acc.length)=true:=by simp;omega);have xB:=aa Vr;generalize vN q9 k=yv at *;cases hls:xw (lstR (gr acc k)) s
      ·have hbl:Op.bytesLess (lstR (gr acc k)).toList s.toList=false:=hls
       have Md:=aa hls;clear hls hk;generalize hs1:lstR (gr acc k)=s1 at *;go_wp2_with fail;(go_big_quiet (first | with_reducible exact Da.out _ | with_reducible exact yL.out _));go_wp2_with fail;have HZ:Hid (Up wo ((wo.drewN m).drewN nq)):=(Up.drewN _ _).trans (Up.drewN _ _);have PI:Hid (posK s acc=k):=BH (by have:=xB.out;omega) hlo.out (fun _=>by rw [hs1];exact Md.out);have hkle:k≤acc.length:=Nat.le_of_lt xB.out;generalize (wo.drewN m).drewN nq=wz at *;have PJ:=HZ.out.cell YU.out;have PK:=HZ.out.cell jT.out;have PL:=HZ.out.cell UM.out;have g1:(0:Int)≤(k:Int):=by omega
       (have g2:(k:Int)≤(acc.length:Int):=by omega);(have g3:(k:Int)≤(ac:Int):=by omega);have nt:Hid (∀W,Up wz W→W.cell? ⟨w.heap.size,1,none⟩=some (.slice (some ⟨yb,yo,none⟩) acc.length ac)∧W.cell? ⟨xb,1,none⟩=some (.slice (some ⟨kb,ko,none⟩) ks.length kc)∧W.cell? ⟨kb,ko+j,none⟩=some xv):=fun W hW=>⟨hW.cell PJ,hW.cell PK,hW.cell PL⟩;refine dG (by kernel_rfl) 28 (fun w'=>w'.cell? ⟨w.heap.size,1,none⟩=some (.slice (some ⟨yb,yo,none⟩) acc.length ac)∧w'.cell? ⟨xb,1,none⟩=some (.slice (some ⟨kb,ko,none⟩) ks.length kc)∧w'.cell? ⟨kb,ko+j,none⟩=some xv) (nt.out _ (kP wz)) (fun hS=>?_)
       simp only [List.size_toArray,List.length_cons,List.length_nil,Nat.reduceAdd,Array.replicate_succ,Array.replicate_zero,List.push_toArray,List.nil_append,List.cons_append];refine af.tk 0 hS ?_;(try simp only [Act.put,ay,az,aA]);refine af.tk 1 hS ?_;(try simp only [Act.put,ay,az,aA]);refine af.tk 2 hS ?_;(try simp only [Act.put,ay,az,aA]);refine af.tk 3 hS ?_
       (try simp only [Act.put,ay,az,aA]);refine af.tk 4 hS ?_;(try simp only [Act.put,ay,az,aA]);refine af.tk 5 hS ?_;(try simp only [Act.put,ay,az,aA]);refine af.tk 6 hS ?_;(try simp only [Act.put,ay,az,aA]);refine af.take (i:=7) (v:=.slice (some ⟨yb,yo,none⟩) k k) rfl (by kernel_rfl) (fun _ _ _ h=>h) (by rfl) (fun w hSw=>?gy7a) hS ?gr7a
       case gy7a =>(try dsimp only at hSw);go_simp
       (try simp only [Act.put,ay,az,aA]);refine af.tk 8 hS ?_;(try simp only [Act.put,ay,az,aA]);refine af.tk 9 hS ?_;(try simp only [Act.put,ay,az,aA]);refine af.tk 10 hS ?_;(try simp only [Act.put,ay,az,aA]);refine af.tk 11 hS ?_;(try simp only [Act.put,ay,az,aA]);refine af.tk 12 hS ?_
       (try simp only [Act.put,ay,az,aA]);refine af.tk 13 hS ?_;(try simp only [Act.put,ay,az,aA]);refine af.tk 14 hS ?_;(try simp only [Act.put,ay,az,aA]);refine af.tk 17 hS ?_;(try simp only [Act.put,ay,az,aA]);refine af.tk 18 hS ?_;(try simp only [Act.put,ay,az,aA]);refine af.tk 19 hS ?_
       (try simp only [Act.put,ay,az,aA]);refine af.tk 20 hS ?_;(try simp only [Act.put,ay,az,aA]);refine af.tk 21 hS ?_;(try simp only [Act.put,ay,az,aA]);refine af.take (i:=22) (v:=.slice (some ⟨yb,yo+k,none⟩) (acc.length - k) (ac - k)) rfl (by kernel_rfl) (fun _ _ _ h=>h) (by rfl) (fun w hSw=>?XJ) hS ?gr22a
       case XJ =>(try dsimp only at hSw);go_simp;intro e;have:=xB.out;omega
       (try simp only [Act.put,ay,az,aA]);refine af.step (i:=15) rfl (by kernel_rfl) (fun K' hK=>?_);go_simp;refine (YT.out _ ((jB.out.trans HZ.out).trans (kP wz))).mono ?_;rintro e w3 ⟨bz,u,rfl,hr3⟩;have bz:Up wz.drew w3:=bz;obtain ⟨ub,rfl⟩:=nT hr3;rw [YV] at hr3;have bW:=aa ((kP wz).trans bz);have Vs:=aa hr3;have ri:=aa (Up.alloc w3 (.cells #[.pointer (some ⟨ub,0,none⟩)] 210));have hdc:=Kk ir.out C9.out xB.out
       have HDC:=aa fun i q hq=>ri.out.cell (bW.out.cell (HZ.out.cell (hdc i q hq)));have xC:=aa (Kl ir.out C9.out hkle);have Vt:Hid ((w3.alloc (.cells #[.pointer (some ⟨ub,0,none⟩)] 210)).cell? ⟨w3.heap.size,0,none⟩=some (.pointer (some ⟨ub,0,none⟩))):=wQ _ _ _;have tG:=aa (Fy RA.out);(have tr:Hid (0<acc.length - k∧(q9.drop k).length=acc.length - k∧(q9.take k).length=k∧acc.length≤90000):=by have:=xB.out;have:=C9.out;unfold Hid;rw [List.length_drop,List.length_take];omega);clear bz hr3 hdc;refine hK.out _ _ (fun _=>nt.out _ bW.out) (fun hS=>?_)
       replace hS:=hS ⟨16,by decide,rfl⟩;(try simp only [ay,az,aA]);refine af.step (i:=16) rfl (by kernel_rfl) (fun K' hK=>?_);go_simp;refine hK.out _ _ (fun _=>nt.out _ (bW.out.trans ri.out)) (fun hS=>?_);replace hS:=hS ⟨23,by decide,rfl⟩;(try simp only [ay,az,aA]);refine af.step (i:=23) rfl (by kernel_rfl) (fun K' hK=>?_)
       refine xz (by rfl) _ _ _ (by rfl) 210 _ 8 Tryz.underlying252 Tryz.oK (by rfl) (by decide) (ao:=some ⟨w3.heap.size,0,none⟩) (n:=1) (olds:=[.pointer (some ⟨ub,0,none⟩)]) (by rfl) (fun e=>by cases e) rfl ?q1 (ad:=⟨yb,yo+k,none⟩) (m:=acc.length - k) (c:=ac - k) (news:=q9.drop k) (by rfl) tr.out.2.1 (fun i q hq=>HDC.out i q hq) ?q2 tr.out.1 (by have:=tr.out.2.2.2;omega) ?q3
       case q1 =>
        intro b e i q hq;injection e with e;subst e;cases i with
        | zero =>
         simp at hq;subst hq;(have e0:(⟨w3.heap.size,0,none⟩:Addr).add 0=⟨w3.heap.size,0,none⟩:=by simp [Addr.add]);rw [e0];exact Vt.out
        | succ i=>simp at hq
       case q2=>exact fun q hq=>tG.out q (List.mem_of_mem_drop hq)
       intro g1 c1 w4 Mk bE;have jl:=aa (bW.out.trans (ri.out.trans bE));have HOC4:=aa (World.ownsRow.cells Mk rfl);have YW:=aa (ri.out.trans bE);clear Mk bE;refine hK.out _ _ (fun _=>nt.out _ jl.out) (fun hS=>?_);replace hS:=hS ⟨24,by decide,rfl⟩;(try simp only [Act.put,ay,az,aA]);refine af.step (i:=24) rfl (by kernel_rfl) (fun K' hK=>?_)
       refine xz (by rfl) _ _ _ (by rfl) 210 _ 8 Tryz.underlying252 Tryz.oK (by rfl) (by decide) (ao:=some ⟨yb,yo,none⟩) (n:=k) (olds:=q9.take k) (by rfl) (fun e=>by cases e) tr.out.2.2.1 ?r1 (ad:=⟨g1,0,none⟩) (m:=1+(acc.length - k)) (c:=c1) (news:=[.pointer (some ⟨ub,0,none⟩)]++q9.drop k) (by rfl) (by rw [List.length_append,tr.out.2.1];rfl) (fun i q hq=>HOC4.out i q hq) ?r2 (by omega) (by have:=tr.out.2.2.2;omega) ?r3
       case r1 =>intro b e i q hq;injection e with e;subst e;exact jl.out.cell (HZ.out.cell (xC.out i q hq))
       case r2 =>
        intro q hq;rcases List.mem_append.1 hq with h1 | h1
        ·obtain rfl:q=.pointer (some ⟨ub,0,none⟩):=by simpa using h1
         rfl
        ·exact tG.out q (List.mem_of_mem_drop h1)
       intro g2 c2 w5 yM fe;have AD:=(HZ.out.trans jl.out).trans fe;have CG:RAt (fun b=>wo.heap.size≤b∧b<w3.heap.size) w5 oc (.pointer (some ⟨ub,0,none⟩)):=RAt.keep ((YW.out.trans fe).kept _) oc (RAt.sub (fun b hb hl=>⟨Nat.le_trans HZ.out.size hb,hl⟩) oc Vs.out);have hs3:=YW.out.size;have hsw:=(HZ.out.trans bW.out).size;have hBl:=I4.out.lt;have PM:=aa (I4.out.lay RA.out AD hsw (fun b hb=>by have:=(aI yM hb).1;omega) CG k (yM.wV (by omega)));have sZ:Hid (nU s oc acc=acc.take k++oc::acc.drop k):=by unfold Hid nU;rw [PI.out]
       have hcw:=(I4.out.up AD).cells;have hyf:=hcw.2.2.2;have hyc5:=hcw.2.1;have gU:=aa (jl.out.trans fe);have xD:Hid (Up w (w5.setCell ⟨w.heap.size,1,none⟩ (.slice (some ⟨g2,0,none⟩) (k+(1+(acc.length - k))) c2))):=Below.setCell (p:=⟨w.heap.size,1,none⟩) (jB.out.trans AD) (Nat.le_refl _) _;clear yM fe AD CG hs3 hsw hcw;refine hK.out _ _ (fun _=>nt.out _ gU.out) (fun hS=>?_);replace hS:=hS ⟨27,by decide,rfl⟩;(try simp only [Act.put,ay,az,aA]);refine af.tk 25 hS ?_
       (try simp only [Act.put,ay,az,aA]);refine af.tk 26 hS ?_;(try simp only [Act.put,ay,az,aA]);refine af.step (i:=27) rfl (by kernel_rfl) (fun K' hK=>?_);go_simp;refine hK.out _ _ (aM (by kernel_rfl)) (fun hS=>?_);refine af.done (by kernel_rfl) ?_;go_wp2_with fail
       go_roundw
       case rel=>exact ⟨j+1,_,aW.out,by go_num,by rw [HT.out,sZ.out];exact PM.out,xD.out⟩
       case measure=>have:=aW.out;simp [intOf];omega
      ·have hbl:Op.bytesLess (lstR (gr acc k)).toList s.toList=true:=hls
       have Md:=aa hls;clear hls hk;generalize hs1:lstR (gr acc k)=s1 at *;go_wp2_with fail;(go_big_quiet (first | with_reducible exact Da.out _ | with_reducible exact yL.out _));go_wp2_with fail
       go_roundw
       case rel=>exact ⟨k+1,m+nq,xB.out,by go_num,rfl,fun i hi=>if e:i=k then by subst e;rw [hs1];exact Md.out else hlo.out i (by omega)⟩
       case measure=>have:=xB.out;simp [intOf];omega
     ·obtain rfl:k=acc.length:=by omega
      (have dk:decide ((acc.length:Int)<(acc.length:Int))=false:=by simp);(have dn:decide (acc.length<acc.length)=false:=by simp);go_wp2_with fail;(go_big_quiet (fail));go_wp2_with fail;have HZ:Hid (Up wo ((wo.drewN m).drewN nq)):=(Up.drewN _ _).trans (Up.drewN _ _);have PI:Hid (posK s acc=acc.length):=BH (Nat.le_refl _) hlo.out (fun h=>absurd h (Nat.lt_irrefl _));generalize (wo.drewN m).drewN nq=wz at *;have PJ:=HZ.out.cell YU.out;have PK:=HZ.out.cell jT.out;have PL:=HZ.out.cell UM.out;(have g1:(0:Int)≤(acc.length:Int):=by omega);have g2:(acc.length:Int)≤(acc.length:Int):=by omega
      (have g3:(acc.length:Int)≤(ac:Int):=by omega);have nt:Hid (∀W,Up wz W→W.cell? ⟨w.heap.size,1,none⟩=some (.slice ap acc.length ac)∧W.cell? ⟨xb,1,none⟩=some (.slice (some ⟨kb,ko,none⟩) ks.length kc)∧W.cell? ⟨kb,ko+j,none⟩=some xv):=fun W hW=>⟨hW.cell PJ,hW.cell PK,hW.cell PL⟩;refine dG (by kernel_rfl) 28 (fun w'=>w'.cell? ⟨w.heap.size,1,none⟩=some (.slice ap acc.length ac)∧w'.cell? ⟨xb,1,none⟩=some (.slice (some ⟨kb,ko,none⟩) ks.length kc)∧w'.cell? ⟨kb,ko+j,none⟩=some xv) (nt.out _ (kP wz)) (fun hS=>?_)
      simp only [List.size_toArray,List.length_cons,List.length_nil,Nat.reduceAdd,Array.replicate_succ,Array.replicate_zero,List.push_toArray,List.nil_append,List.cons_append];refine af.tk 0 hS ?_;(try simp only [Act.put,ay,az,aA]);refine af.tk 1 hS ?_;(try simp only [Act.put,ay,az,aA]);refine af.tk 2 hS ?_;(try simp only [Act.put,ay,az,aA]);refine af.tk 3 hS ?_
      (try simp only [Act.put,ay,az,aA]);refine af.tk 4 hS ?_;(try simp only [Act.put,ay,az,aA]);refine af.tk 5 hS ?_;(try simp only [Act.put,ay,az,aA]);refine af.tk 6 hS ?_;(try simp only [Act.put,ay,az,aA]);refine af.take (i:=7) (v:=.slice ap acc.length acc.length) rfl (by kernel_rfl) (fun _ _ _ h=>h) (by rfl) (fun w hSw=>?gy7b) hS ?gr7b
      case gy7b =>(try dsimp only at hSw);go_simp
      (try simp only [Act.put,ay,az,aA]);refine af.tk 8 hS ?_;(try simp only [Act.put,ay,az,aA]);refine af.tk 9 hS ?_;(try simp only [Act.put,ay,az,aA]);refine af.tk 10 hS ?_;(try simp only [Act.put,ay,az,aA]);refine af.tk 11 hS ?_;(try simp only [Act.put,ay,az,aA]);refine af.tk 12 hS ?_
      (try simp only [Act.put,ay,az,aA]);refine af.tk 13 hS ?_;(try simp only [Act.put,ay,az,aA]);refine af.tk 14 hS ?_;(try simp only [Act.put,ay,az,aA]);refine af.tk 17 hS ?_;(try simp only [Act.put,ay,az,aA]);refine af.tk 18 hS ?_;(try simp only [Act.put,ay,az,aA]);refine af.tk 19 hS ?_
      (try simp only [Act.put,ay,az,aA]);refine af.tk 20 hS ?_;(try simp only [Act.put,ay,az,aA]);refine af.tk 21 hS ?_;(try simp only [Act.put,ay,az,aA]);refine af.take (i:=22) (v:=.slice (PF ap acc.length ac) 0 (ac - acc.length)) rfl (by kernel_rfl) (fun _ _ _ h=>h) (by rfl) (fun w hSw=>?XK) hS ?gr22b
      case XK =>(try dsimp only at hSw);go_simp;try (unfold PF;simp)
      (try simp only [Act.put,ay,az,aA]);refine af.step (i:=15) rfl (by kernel_rfl) (fun K' hK=>?_);go_simp;refine (YT.out _ ((jB.out.trans HZ.out).trans (kP wz))).mono ?_;rintro e w3 ⟨bz,u,rfl,hr3⟩;have bz:Up wz.drew w3:=bz;obtain ⟨ub,rfl⟩:=nT hr3;rw [YV] at hr3;have bW:=aa ((kP wz).trans bz);have Vs:=aa hr3;have ri:=aa (Up.alloc w3 (.cells #[.pointer (some ⟨ub,0,none⟩)] 210));have xC:=aa (MG ir.out C9.out)
      have Vt:Hid ((w3.alloc (.cells #[.pointer (some ⟨ub,0,none⟩)] 210)).cell? ⟨w3.heap.size,0,none⟩=some (.pointer (some ⟨ub,0,none⟩))):=wQ _ _ _;have tG:=aa (Fy RA.out);have tr:Hid (q9.length=acc.length∧acc.length≤90000):=⟨C9.out,hal2⟩;clear bz hr3;refine hK.out _ _ (fun _=>nt.out _ bW.out) (fun hS=>?_);replace hS:=hS ⟨16,by decide,rfl⟩;(try simp only [ay,az,aA]);refine af.step (i:=16) rfl (by kernel_rfl) (fun K' hK=>?_);go_simp;refine hK.out _ _ (fun _=>nt.out _ (bW.out.trans ri.out)) (fun hS=>?_)
      replace hS:=hS ⟨23,by decide,rfl⟩;(try simp only [ay,az,aA]);refine af.step (i:=23) rfl (by kernel_rfl) (fun K' hK=>?_);refine ME (by rfl) _ _ _ (by rfl) 210 _ 8 Tryz.underlying252 Tryz.oK (ao:=some ⟨w3.heap.size,0,none⟩) (n:=1) (c:=1) (by rfl) (Nat.le_refl _) (ad:=PF ap acc.length ac) (c2:=ac - acc.length) (by rfl) ?_;refine hK.out _ _ (fun _=>nt.out _ (bW.out.trans ri.out)) (fun hS=>?_);replace hS:=hS ⟨24,by decide,rfl⟩;try simp only [Act.put,ay,az,aA]
      refine af.step (i:=24) rfl (by kernel_rfl) (fun K' hK=>?_);refine xz (by rfl) _ _ _ (by rfl) 210 _ 8 Tryz.underlying252 Tryz.oK (by rfl) (by decide) (ao:=ap) (n:=acc.length) (olds:=q9) (by rfl) (all_none ir.out) tr.out.1 ?p1 (ad:=⟨w3.heap.size,0,none⟩) (m:=1) (c:=1) (news:=[.pointer (some ⟨ub,0,none⟩)]) (by rfl) rfl ?p2 ?p4 (by omega) (by have:=tr.out.2;omega) ?p3
      case p1=>exact fun b e i q hq=>ri.out.cell (bW.out.cell (HZ.out.cell (xC.out b e i q hq)))
      case p2 =>
       intro i q hq;cases i with
       | zero =>
        simp at hq;subst hq;(have e0:(⟨w3.heap.size,0,none⟩:Addr).add 0=⟨w3.heap.size,0,none⟩:=by simp [Addr.add]);rw [e0];exact Vt.out
       | succ i=>simp at hq
      case p4 =>intro q hq;(obtain rfl:q=.pointer (some ⟨ub,0,none⟩):=by simpa using hq);rfl
      intro g2 c2 w5 yM fe;have AD:=(HZ.out.trans (bW.out.trans ri.out)).trans fe;have CG:RAt (fun b=>wo.heap.size≤b∧b<w3.heap.size) w5 oc (.pointer (some ⟨ub,0,none⟩)):=RAt.keep ((ri.out.trans fe).kept _) oc (RAt.sub (fun b hb hl=>⟨Nat.le_trans HZ.out.size hb,hl⟩) oc Vs.out);have hs3:=ri.out.size;have hsw:=(HZ.out.trans bW.out).size;have hBl:=I4.out.lt
      have PM:=aa (I4.out.lay RA.out AD hsw (fun b hb=>by have:=(aI yM hb).1;omega) CG acc.length (by rw [List.take_of_length_le (by rw [tr.out.1];exact Nat.le_refl _),List.drop_of_length_le (by rw [tr.out.1];exact Nat.le_refl _)];exact yM.wV (by omega)));(have sZ:Hid (nU s oc acc=acc.take acc.length++oc::acc.drop acc.length):=by unfold Hid nU;rw [PI.out]);have hcw:=(I4.out.up AD).cells;have hyf:=hcw.2.2.2;have hyc5:=hcw.2.1;have gU:=aa ((bW.out.trans ri.out).trans fe)
      have xD:Hid (Up w (w5.setCell ⟨w.heap.size,1,none⟩ (.slice (some ⟨g2,0,none⟩) (acc.length+1) c2))):=Below.setCell (p:=⟨w.heap.size,1,none⟩) (jB.out.trans AD) (Nat.le_refl _) _;clear yM fe AD CG hs3 hsw hcw;refine hK.out _ _ (fun _=>nt.out _ gU.out) (fun hS=>?_);replace hS:=hS ⟨27,by decide,rfl⟩;(try simp only [Act.put,ay,az,aA]);refine af.tk 25 hS ?_;(try simp only [Act.put,ay,az,aA]);refine af.tk 26 hS ?_
      (try simp only [Act.put,ay,az,aA]);refine af.step (i:=27) rfl (by kernel_rfl) (fun K' hK=>?_);go_simp;refine hK.out _ _ (aM (by kernel_rfl)) (fun hS=>?_);refine af.done (by kernel_rfl) ?_;go_wp2_with fail
      go_roundw
      case rel=>exact ⟨j+1,_,aW.out,by go_num,by rw [HT.out,sZ.out];exact PM.out,xD.out⟩
      case measure=>have:=aW.out;simp [intOf];omega
   ·obtain rfl:j=ks.length:=by omega
    have HD:=aa hW.out.done;have MK:=aa dK.out;clear hW dK hlt hj;go_wp2_with fail;go_ret;refine ⟨MK.out,_,rfl,?_⟩;have h:=HD.out;rw [List.take_length] at h;rw [ordR];exact h
end Go.Proofs.YthgabkgmkolobaaGreat
