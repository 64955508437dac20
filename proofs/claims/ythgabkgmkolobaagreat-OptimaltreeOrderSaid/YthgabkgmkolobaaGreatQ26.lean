/- phylotree.nodes again: the row of nodes lies apart from the forest. The contract of .. -/
import Derived.Test.YthgabkgmkolobaaGreatQ25
set_option maxRecDepth 100000
set_option maxHeartbeats 4000000
namespace Go.Proofs.YthgabkgmkolobaaGreat
section
open Go.RowKit Go.Deep
def L9 (w:World) (t:aF) (e:Ending) (w':World):Prop :=
 Up w w'/\∃g A kv,w.heap.size<=g/\e=.returned (.slice (some ⟨g,0,none⟩) t.ps.length t.ps.length)/\bB (g+1) t.ps.length A kv (fU t) w'/\w'.rowIs g 119 t.ps.length (bD A)
theorem Rq (S:Nat->Prop) (w:World) (v:Value) (t:aF) (hT:aC S w v t) (hp:t.ps.length<=1000) (hn:t.ns.length=t.ps.length) (hok:jW t.ps=true) (hz:∀k,(gs t.ns k).size<=70000) :
  Calls Tryz.prog 93 #[v] w (L9 w t):=by
 obtain ⟨P,N,rfl,hP,hN⟩:=hT;obtain ⟨pP,iR,rfl,Y6,_⟩:=aA.open hP;have hP:ay S w (.slice pP t.ps.length iR) t.ps:=hP;obtain ⟨pN,iT,rfl,Y7,_⟩:=aA.open hN;have hN:av S w (.slice pN t.ns.length iT) t.ns:=hN;have hmk:=fun W=>run_make_row' (P:=Tryz.prog) 120 119 (.pointer none) 8 Tryz.underlying120 Tryz.sQ rfl .i64 .i64 t.ps.length (by omega) (by omega) W;have hu:=Up.alloc w (.cells #[.slice pP t.ps.length iR,.slice pN t.ns.length iT] 39);have hb0:=fO w (.slice pP t.ps.length iR) (.slice pN t.ns.length iT) 39
 have hb1:=fP w (.slice pP t.ps.length iR) (.slice pN t.ns.length iT) 39;have aJ:=Up.alloc (w.alloc (.cells #[.slice pP t.ps.length iR,.slice pN t.ns.length iT] 39)) (.cells (madeCells #[.pointer none] t.ps.length) 119)
 have HW:Hid (Ah ((w.alloc (.cells #[.slice pP t.ps.length iR,.slice pN t.ns.length iT] 39)).alloc (.cells (madeCells #[.pointer none] t.ps.length) 119)) ((w.alloc (.cells #[.slice pP t.ps.length iR,.slice pN t.ns.length iT] 39)).alloc (.cells (madeCells #[.pointer none] t.ps.length) 119)) (w.heap.size+1) t.ps.length 0 t):=by refine ⟨cN _ _,fun _=>0,fun _=>.slice none 0 0,bB.empty _ _ _ _ _,?_⟩;have h:=World.rowIs_made (w.alloc (.cells #[.slice pP t.ps.length iR,.slice pN t.ns.length iT] 39)) (.pointer none) t.ps.length 119;simp only [aL] at h;exact h
 have mX:=aa (hu.trans aJ);have hsz:w.heap.size+1+1=((w.alloc (.cells #[.slice pP t.ps.length iR,.slice pN t.ns.length iT] 39)).alloc (.cells (madeCells #[.pointer none] t.ps.length) 119)).heap.size:=by simp
 have dm:=aa hsz;have jK:=aa (aJ.cell hb0);have gT:=aa (aJ.cell hb1);have HP:=aa hP;have HN:=aa hN;have VC:=aa hz;have xK:=aa hok;have iu:=aa hn;have hnl:(t.ps.length:Int)<=(t.ns.length:Int):=by omega
 clear hsz hu hb0 hb1 aJ hP hN hz hok hn
 go_enter Tryz.func93,Tryz.ntmps93
 go_wp2_with fail;generalize (w.alloc (.cells #[.slice pP t.ps.length iR,.slice pN t.ns.length iT] 39)).alloc (.cells (madeCells #[.pointer none] t.ps.length) 119)=w1 at *
 go_loopw [13] (fun i wr=>∃k:Nat,k<=t.ps.length/\i=.int .i64 k/\Hid (Ah w1 wr (w.heap.size+1) t.ps.length k t)) (fun i _=>t.ps.length - (intOf i).toNat)
 case atStart=>exact ⟨0,aI _,rfl,HW⟩
 case round =>
  obtain ⟨k,hk,rfl,hO⟩:=hrel;obtain ⟨wo,rfl⟩:∃wo:World,wo=wr:=⟨_,rfl⟩;by_cases hlt:k<t.ps.length
  ·obtain ⟨fL,A,kv,hF,hrow⟩:=hO.out
   (have hc0:wo.cell? ⟨w.heap.size,0,none⟩=some (.slice pP t.ps.length iR):=by rw [fL.cell (p:=⟨w.heap.size,0,none⟩) (qz _)];exact jK.out);(have hc1:wo.cell? ⟨w.heap.size,1,none⟩=some (.slice pN t.ns.length iT):=by rw [fL.cell (p:=⟨w.heap.size,1,none⟩) (qz _)];exact gT.out);have F6:Up w wo:=fc mX.out (fL.mono (kI _));obtain ⟨bP,oP,rfl,oC⟩:=gp (ay.keep HP.out (F6.kept S)) hlt;obtain ⟨bN,oN,rfl,rB⟩:=cA (av.keep HN.out (F6.kept S)) (k:=k) (by rw [iu.out];exact hlt);have HX:=aa hO.out.new
   (have VD:(wo.alloc (.cells #[.string (gs t.ns k),.slice none 0 0,.int .i64 k] 122)).cell? ⟨w.heap.size+1,k,none⟩=some (.pointer none):=by have h:=(hrow.alloc (.cells #[.string (gs t.ns k),.slice none 0 0,.int .i64 k] 122)).cell hlt;rw [h,if_neg (Nat.lt_irrefl k)]);have hfo:(wo.alloc (.cells #[.string (gs t.ns k),.slice none 0 0,.int .i64 k] 122)).frozen? ⟨w.heap.size+1,k,none⟩=false:=(hrow.alloc _).frozen k;clear hF hrow fL F6 hO;have h0:gi t.ps k<k/\(0<k->0<=gi t.ps k)/\(k=0->gi t.ps k = -1):=BM xK.out hlt;by_cases oB:0<=gi t.ps k
   ·obtain ⟨p,F7⟩:=tR oB
    (have hpk:p<k:=by omega);rw [F7] at oC;(have d1:decide ((0:Int)<=(p:Int))=true:=by simp);have xH:=aa F7;clear h0 oB F7;go_wp2_with fail;generalize (wo.alloc (.cells #[.string (gs t.ns k),.slice none 0 0,.int .i64 k] 122)).setCell ⟨w.heap.size+1,k,none⟩ (.pointer (some ⟨wo.heap.size,0,none⟩))=w2 at *;obtain ⟨A,kv,hAk,hX⟩:=HX.out;have hr1:w2.cell? ⟨w.heap.size+1,p,none⟩=some (.pointer (some ⟨A p,0,none⟩)):=by have h:=hX.row.cell (i:=p) (by omega);rw [if_pos (by omega)] at h;exact h
    (have hr2:w2.cell? ⟨w.heap.size+1,k,none⟩=some (.pointer (some ⟨A k,0,none⟩)):=by have h:=hX.row.cell (i:=k) hlt;rw [if_pos (by omega)] at h;exact h);(have VE:Hid (bD A k=.pointer (some ⟨wo.heap.size,0,none⟩)):=by unfold Hid bD;rw [hAk]);rw [hAk] at hr2;have hkc:=hX.fr.qV (i:=p) (by omega);have hfz:=hX.fr.thaw (i:=p) (by omega) 1;(have F8:Hid (ax (w.heap.size+1+1) 119 w2 (kv p) ((cV t.ps p k).map (bD A))):=by have h:=hX.fr.own p (by omega);rw [pJ] at h;exact h);have VF:=aa hX
    have F9:Hid (A p≠w.heap.size+1/\(kv p).ownBlock≠some (w.heap.size+1)/\(kv p).ownBlock≠some (A p)/\w.heap.size+1<w2.heap.size/\A p<w2.heap.size):=⟨(hX.fr.far (by omega)).1,(hX.fr.far (by omega)).2,hX.fr.apart p p (by omega) (by omega),hX.row.lt,hX.fr.lt (by omega)⟩;(have i0:(0:Int)<=(p:Int):=by omega);(have i1:(p:Int)<(t.ps.length:Int):=by omega);(have i2:(0:Int)<=(k:Int):=by omega);(have i3:(k:Int)<(t.ps.length:Int):=by omega);have e9:Hid (((cV t.ps p k).map (bD A)).length<=1000000):=by unfold Hid;rw [aD];have:=qD t.ps p k;omega
    have B1:Hid (∀g cap w',ax (w.heap.size+1+1) 119 w' (.slice (some ⟨g,0,none⟩) (((cV t.ps p k).map (bD A)).length+1) cap) ((cV t.ps p k).map (bD A)++[.pointer (some ⟨wo.heap.size,0,none⟩)])->w2.grownBy w' (kv p).ownBlock->((kv p).ownBlock=some g\/w2.heap.size<=g)->Ah w1 (w'.setCell ⟨A p,1,none⟩ (.slice (some ⟨g,0,none⟩) (((cV t.ps p k).map (bD A)).length+1) cap)) (w.heap.size+1) t.ps.length (k+1) t):=fun g cap w' h1 h2 h3=>hX.push hpk xH.out (by rw [VE.out];exact h1) h2 (fun b hb=>by cases hb;exact h3);clear hAk hX HX VD hfo oC rB hc0 hc1;generalize bD A=na at *
    generalize hap:A p=ap at *;generalize wo.heap.size=ak at *;generalize kv p=ov at *;generalize List.map na (cV t.ps p k)=vs at *;have Qs:Hid (ax (w.heap.size+1+1) 119 (w2.alloc (.cells #[.pointer (some ⟨ak,0,none⟩)] 119)).drew ov vs):=F8.out.alloc _;have nO:Hid ((w2.alloc (.cells #[.pointer (some ⟨ak,0,none⟩)] 119)).drew.cell? ⟨w2.heap.size,0,none⟩=some (.pointer (some ⟨ak,0,none⟩))):=aH _ _ _ 0
    have pg:Hid (w.heap.size+1+1<=(w2.alloc (.cells #[.pointer (some ⟨ak,0,none⟩)] 119)).drew.heap.size):=by have:=F9.out.2.2.2.1;show _<=(w2.alloc _).heap.size;rw [aL];omega
    have Ga:Hid (∀(w':World),(w2.alloc (.cells #[.pointer (some ⟨ak,0,none⟩)] 119)).drew.grownBy w' ov.ownBlock->w'.cell? ⟨w.heap.size+1,p,none⟩=some (.pointer (some ⟨ap,0,none⟩))/\w'.cell? ⟨w.heap.size+1,k,none⟩=some (.pointer (some ⟨ak,0,none⟩))/\w'.cell? ⟨ap,1,none⟩=some ov/\w'.frozen? ⟨ap,1,none⟩=false):=fun w' hg=>by
     obtain ⟨q1,q2,q3,q4,q5⟩:=F9.out;(have hl:∀b,b<w2.heap.size->b<(w2.alloc (.cells #[.pointer (some ⟨ak,0,none⟩)] 119)).drew.heap.size:=fun b hb=>by show b<(w2.alloc _).heap.size;rw [aL];omega);have hu:=Up.alloc w2 (.cells #[.pointer (some ⟨ak,0,none⟩)] 119);refine ⟨?_,?_,?_,?_⟩
     ·rw [hg.cell_far _ (hl _ q4) (dM q2)];exact hu.cell hr1
     ·rw [hg.cell_far _ (hl _ q4) (dM q2)];exact hu.cell hr2
     ·rw [hg.cell_far _ (hl _ q5) (dM q3)];exact hu.cell hkc
     ·rw [hg.frozen_far _ (hl _ q5) (dM q3)];exact (Below.frozen hu (p:=⟨ap,1,none⟩) q5).trans hfz
    have aah:=(Up.alloc w2 (.cells #[.pointer (some ⟨ak,0,none⟩)] 119)).cell hr1;have aai:=(Up.alloc w2 (.cells #[.pointer (some ⟨ak,0,none⟩)] 119)).cell hr2;have aaj:=(Up.alloc w2 (.cells #[.pointer (some ⟨ak,0,none⟩)] 119)).cell hkc;clear VF;refine eC (by kernel_rfl) 20 (fun w'=>w'.cell? ⟨w.heap.size+1,p,none⟩=some (.pointer (some ⟨ap,0,none⟩))/\w'.cell? ⟨w.heap.size+1,k,none⟩=some (.pointer (some ⟨ak,0,none⟩))/\w'.cell? ⟨ap,1,none⟩=some ov) ⟨hr1,hr2,hkc⟩ (fun hS=>?_)
    simp only [fo,aO,dz,Nat.reduceAdd,ic,ig,fk,cw,bz];refine af.tk 0 hS ?_;(try simp only [Act.put,aj,aq,au]);refine af.tk 1 hS ?_;(try simp only [Act.put,aj,aq,au]);refine af.tk 2 hS ?_;(try simp only [Act.put,aj,aq,au]);refine af.tk 3 hS ?_
    (try simp only [Act.put,aj,aq,au]);refine af.tk 4 hS ?_;(try simp only [Act.put,aj,aq,au]);refine af.tk 5 hS ?_;(try simp only [Act.put,aj,aq,au]);refine af.tk 6 hS ?_;(try simp only [Act.put,aj,aq,au]);refine af.tk 7 hS ?_;(try simp only [Act.put,aj,aq,au]);refine af.tk 8 hS ?_
    (try simp only [Act.put,aj,aq,au]);refine af.tk 9 hS ?_;(try simp only [Act.put,aj,aq,au]);refine af.tk 10 hS ?_;(try simp only [Act.put,aj,aq,au]);refine af.tk 11 hS ?_;(try simp only [Act.put,aj,aq,au]);refine af.tk 12 hS ?_;(try simp only [Act.put,aj,aq,au]);refine af.tk 13 hS ?_
    (try simp only [Act.put,aj,aq,au]);refine af.tk 14 hS ?_;(try simp only [Act.put,aj,aq,au]);refine af.step (i:=15) rfl (by kernel_rfl) (fun K' hK=>?_);go_simp;refine hK.out _ _ (fun _=>⟨(Up.alloc _ _).cell hr1,(Up.alloc _ _).cell hr2,(Up.alloc _ _).cell hkc⟩) (fun hS=>?_);(try simp only [aj,aq,au]);refine af.step (i:=16) rfl (by kernel_rfl) (fun K' hK=>?_)
    refine gN (by rfl) _ _ _ (by rfl) (w.heap.size+1+1) 119 _ 8 Tryz.underlying120 Tryz.sQ (by rfl) (by decide) (by rfl) Qs.out (.pointer (some ⟨ak,0,none⟩)) w2.heap.size (by rfl) nO.out (by rfl) e9.out pg.out ?_;intro g cap w4 uh hg4 yB Gc;obtain ⟨Qt,Qu,Qv,aak⟩:=Ga.out w4 hg4;have LI:=aa uh;have Np:=aa (nH hg4);have Qw:=aa yB;clear uh hg4 yB Gc;refine hK.out _ _ (fun _=>⟨Qt,Qu,Qv⟩) (fun hS=>?_);replace hS:=hS ⟨19,by decide,rfl⟩
    (try simp only [Act.put,aj,aq,au]);refine af.tk 17 hS ?_;(try simp only [Act.put,aj,aq,au]);refine af.tk 18 hS ?_;(try simp only [Act.put,aj,aq,au]);refine af.step (i:=19) rfl (by kernel_rfl) (fun K' hK=>?_);go_simp;refine hK.out _ _ (aS (by kernel_rfl)) (fun hS=>?_);refine af.done (by kernel_rfl) ?_;go_wp2_with fail
    go_roundw
    case rel =>
     refine ⟨k+1,by omega,by go_num,B1.out g cap w4 LI.out Np.out ?_⟩;rcases Qw.out with h | h
     ·exact .inl h
     ·refine .inr ?_
      rw [h];exact aR (kI _) (gQ (aL _ _).symm)
    case measure=>simp [intOf];omega
   ·have xH:Hid (gi t.ps k<0):=by unfold Hid;omega
    (have d1:decide ((0:Int)<=gi t.ps k)=false:=by simpa using oB);clear h0 oB;go_wp2_with fail
    go_roundw
    case rel =>obtain ⟨A',kv',_,hX⟩:=HX.out;exact ⟨k+1,by omega,by go_num,hX.root xH.out⟩
    case measure=>simp [intOf];omega
  ·obtain rfl:k=t.ps.length:=by omega
   go_wp2_with fail;go_ret;obtain ⟨fL,A,kv,hF,hrow⟩:=hO.out;exact ⟨fc mX.out (fL.mono (kI _)),_,A,kv,kI _,rfl,hF,hrow.congr fun i hi=>by rw [if_pos hi]⟩
mutual
theorem zP {M:Nat}:∀r:RT,(∀s∈dr r,s.size<=M)->(bF r).length+1<=aK r*(M+3)
 | .node nm [],h=>by
  rw [bF,aK,aU]
  have h1:=h nm (by rw [dr];simp)
  have h2:nm.data.toList.length=nm.size:=by rw [sj];rfl
  omega
 | .node nm (k::ks),h=>by
  have h1:=zP k (fun s hs=>h s (by rw [dr,dL];simp [hs]))
  have h2:=Hi ks (fun s hs=>h s (by rw [dr,dL];simp [hs]))
  rw [bF,aK,aU]
  simp only [aO,bg,dz]
  rw [Nat.add_mul,Nat.add_mul]
  omega
theorem Hi {M:Nat}:∀rs:List RT,(∀s∈dL rs,s.size<=M)->(cH rs).length<=aU rs*(M+3)
 | [],_=>by rw [cH];exact aI _
 | r::rs,h=>by
  have h1:=zP r (fun s hs=>h s (by rw [dL];simp [hs]))
  have h2:=Hi rs (fun s hs=>h s (by rw [dL];simp [hs]))
  rw [cH,aU]
  simp only [aO,bg]
  rw [Nat.add_mul]
  omega
end
theorem Rs {F:aX} {n:Nat} {rk:Nat->Nat} (h:Wf F n rk) {i:Nat} (hi:i<n):dr (aV F rk i)=(b5 F rk i).map F.nm:=by
 rw [nU,uo h hi (ah _),jS];refine jR fun z hz=>?_;exact vJ h (pR h hi (ah _) ((eL h hi (ah _)).1 hz))
theorem KC {t:aF} (h:aB t=0) {M:Nat} (hz:∀k,(gs t.ns k).size<=M):(bF (iy t)).length+1<=64*(M+3):=by
 obtain ⟨hp,C8,_⟩:=aM h
 have h1:=zP (M:=M) (iy t) (fun s hs=>by
  unfold iy at hs;rw [Rs (eM h).wf hp] at hs;obtain ⟨z,_,rfl⟩:=di.1 hs
  exact hz z)
 have h2:aK (iy t)<=t.ps.length:=Ot (eM h).wf hp (Gz h);exact aR h1 (qA _ (by omega))
def xQ (t:aF):Int:=if aB t≠0 then 1 else 0
def uw (t:aF):List UInt8:=if aB t≠0 then [] else bF (iy t)++[59]
def Cn (w:World) (t:aF) (e:Ending) (w':World):Prop:=Up w w'/\e=.returned (.tuple #[.string ⟨(uw t).toArray⟩,.int .i64 (xQ t)])
theorem Uh (S:Nat->Prop) (w:World) (v:Value) (t:aF) (hT:aC S w v t) (hp:t.ps.length<=1000000) (hn:t.ns.length<=1000000) (hz:∀k,(gs t.ns k).size<=70000) :
  Calls Tryz.prog 29 #[v] w (Cn w t):=by
 obtain ⟨P,N,rfl,hP,hN⟩:=hT;obtain ⟨pp,pc,rfl,_,_⟩:=aA.open hP;obtain ⟨pn,pm,rfl,_,_⟩:=aA.open hN;have hP:ay S w (.slice pp t.ps.length pc) t.ps:=hP;have hN:av S w (.slice pn t.ns.length pm) t.ns:=hN;have ha:=Up.alloc w (.cells #[.slice pp t.ps.length pc,.slice pn t.ns.length pm] 39);have gj:=aa (fO w (.slice pp t.ps.length pc) (.slice pn t.ns.length pm) 39);have kr:=aa (fP w (.slice pp t.ps.length pc) (.slice pn t.ns.length pm) 39);have hsz:(w.alloc (.cells #[.slice pp t.ps.length pc,.slice pn t.ns.length pm] 39)).heap.size=w.heap.size+1:=by simp
 have HU:=aa ha;have Es:Hid (aC S _ _ t):=aC.keep ⟨_,_,rfl,hP,hN⟩ (ha.kept S);have dm:=aa hsz;have HZ:=aa hz;have hc0:=gj.out;have hc1:=kr.out;have ir:=aa (vq S _ _ t Es.out hp hn hz);have KD:Hid (xQ t=if aB t≠0 then 1 else 0):=rfl;have HXT:Hid (uw t=if aB t≠0 then [] else bF (iy t)++[59]):=rfl;clear ha hP hN hsz hz
 go_enter Tryz.func29,Tryz.ntmps29
 go_wp2_with fail;generalize w.alloc (.cells #[.slice pp t.ps.length pc,.slice pn t.ns.length pm] 39)=w1 at *;refine ir.out.mono ?_;rintro e w2 ⟨rfl,aJ⟩;have aJ:Up w1 w2:=aJ;have bY:=aa aJ;have mX:=aa (HU.out.trans aJ);have hc0:=aJ.cell gj.out;have hc1:=aJ.cell kr.out;clear aJ ir;by_cases he:aB t=0
 ·obtain ⟨oB,C8,hnl,hok,_⟩:=aM he
  have Co:=aa he;rw [he];have uk:=aa (aC.keep Es.out (bY.out.kept S));clear he hnl hok;go_wp2_with fail;have hb:=blk_alloc_new w2 (.cells #[.pointer none,.slice none 0 0] 117);have dg:=Up.alloc w2 (.cells #[.pointer none,.slice none 0 0] 117);have hs3:(w2.alloc (.cells #[.pointer none,.slice none 0 0] 117)).heap.size=w2.heap.size+1:=aL _ _;have EN:=blk_alloc_new (w2.alloc (.cells #[.pointer none,.slice none 0 0] 117)) (.cells #[.func (.func 90) #[] #[.pointer (some ⟨w2.heap.size,0,none⟩),.pointer (some ⟨w2.heap.size+1,0,none⟩)]] 118)
  have dQ:=Up.alloc (w2.alloc (.cells #[.pointer none,.slice none 0 0] 117)) (.cells #[.func (.func 90) #[] #[.pointer (some ⟨w2.heap.size,0,none⟩),.pointer (some ⟨w2.heap.size+1,0,none⟩)]] 118);have hs4:((w2.alloc (.cells #[.pointer none,.slice none 0 0] 117)).alloc (.cells #[.func (.func 90) #[] #[.pointer (some ⟨w2.heap.size,0,none⟩),.pointer (some ⟨w2.heap.size+1,0,none⟩)]] 118)).heap.size=w2.heap.size+2:=by rw [aL,hs3]
  have hb4:=(blk_alloc_lt (w2.alloc (.cells #[.pointer none,.slice none 0 0] 117)) (.cells #[.func (.func 90) #[] #[.pointer (some ⟨w2.heap.size,0,none⟩),.pointer (some ⟨w2.heap.size+1,0,none⟩)]] 118) w2.heap.size (by omega)).trans hb;rw [hs3] at EN;have Ma:=(dg.trans dQ).cell hc0;have Mb:=(dg.trans dQ).cell hc1;have kX:=aa (dg.trans dQ);clear hb dg dQ hs3 hc0 hc1;generalize (w2.alloc (.cells #[.pointer none,.slice none 0 0] 117)).alloc (.cells #[.func (.func 90) #[] #[.pointer (some ⟨w2.heap.size,0,none⟩),.pointer (some ⟨w2.heap.size+1,0,none⟩)]] 118)=w4 at *
  have fF:Hid (uv w2.heap.size (w2.heap.size+1) w4):=EN;have Kz:=fF.out.cell;have WO:=aa hb4;have Kv:=aa hs4;clear hs4 hb4 EN;refine eC (by kernel_rfl) 6 (fun w'=>w'.cell? ⟨w2.heap.size+1,0,none⟩=some (.func (.func 90) #[] #[.pointer (some ⟨w2.heap.size,0,none⟩),.pointer (some ⟨w2.heap.size+1,0,none⟩)])/\w'.cell? ⟨w.heap.size,0,none⟩=some (.slice pp t.ps.length pc)/\w'.cell? ⟨w.heap.size,1,none⟩=some (.slice pn t.ns.length pm)) ⟨Kz,Ma,Mb⟩ (fun hS=>?_)
  simp only [fo,aO,dz,Nat.reduceAdd,ic,ig,fk,cw,bz];refine af.tk 0 hS ?_;try simp only [Act.put,aj,aq,au]
  refine af.tk 1 hS ?_;try simp only [Act.put,aj,aq,au]
  refine af.step (i:=2) rfl (by kernel_rfl) (fun K' hK=>?_);go_simp;have HUD:Hid (Up w4 w4.drew):=Up.drewN w4 1;obtain ⟨_,_,hnl,hok,_⟩:=aM Co.out;have OB:=aa (Rq S w4.drew _ t (aC.keep uk.out ((kX.out.trans HUD.out).kept S)) (by omega) hnl hok HZ.out);refine OB.out.mono ?_;rintro e w5 ⟨mL,g,A,kv,vz,rfl,hF,hrow⟩;have lG:=hrow.cell (i:=0) oB;simp only [bD] at lG;have ng:=aa (HUD.out.trans mL);have hpos:(0:Int)<(t.ps.length:Int):=by omega
  refine hK.out _ _ (fun _=>⟨ng.out.cell Kz,ng.out.cell Ma,ng.out.cell Mb⟩) (fun hS=>?_);try simp only [aj,aq,au]
  have HF:=aa hF;have KE:=aa vz;have lM:Hid (xQ t=0):=by rw [Hid,KD.out,if_neg (by simp [Co.out])]
  have vS:Hid (uw t=bF (iy t)++[59]):=by rw [Hid,HXT.out,if_neg (by simp [Co.out])]
  have iu:=aa (KC Co.out HZ.out);have yw:Hid (Lib.IsBuilderF 117 5 w2.heap.size w2.heap.size (Lib.byteCells []) w5):=.inl ⟨ah _,_,(bH ng.out _ (by rw [Kv.out];omega)).trans WO.out,⟨rfl,.inl ⟨rfl,rfl⟩⟩,fun e=>by cases e⟩;have aaE:Hid (uv w2.heap.size (w2.heap.size+1) w5):=(bH ng.out _ (by rw [Kv.out];omega)).trans fF.out;have ct:Hid (w2.heap.size+2<=w5.heap.size):=by have:=ng.out.size;rw [Kv.out] at this;exact this
  have HP1:=aa (Rm (base:=g+1) (n:=t.ps.length) (B:=w2.heap.size) (b:=w2.heap.size) (fb:=w2.heap.size+1) (eM Co.out).wf (fun z _=>by have:=oM t z;omega) (by have:=Kv.out;have h2:w4.heap.size<=g:=vz;omega) (by omega) (dx t 0) 0 [] w5 oB (ah _) hF aaE.out yw.out (by
   have:=iu.out;show 0+(bF (iy t)).length<=_
   omega) (by have:=ct.out;omega))
  clear hnl hok hF vz hrow OB mL;refine af.step (i:=3) rfl (by kernel_rfl) (fun K' hK=>?_);go_simp;refine hK.out _ _ (fun _=>⟨ng.out.cell Kz,ng.out.cell Ma,ng.out.cell Mb⟩) (fun hS=>?_);try simp only [aj,aq,au]
  refine af.step (i:=4) rfl (by kernel_rfl) (fun K' hK=>?_);go_simp;refine hK.out _ _ (fun _=>⟨ng.out.cell Kz,ng.out.cell Ma,ng.out.cell Mb⟩) (fun hS=>?_);try simp only [aj,aq,au]
  refine af.step (i:=5) rfl (by kernel_rfl) (fun K' hK=>?_);go_simp;refine HP1.out.mono ?_;rintro e w6 ⟨rfl,h6⟩;refine hK.out _ _ (aS (by kernel_rfl)) (fun hS=>?_);refine af.done (by kernel_rfl) ?_;have HX3:Hid (aV (fU t) (dx t) 0=iy t):=rfl;rw [cw,HX3.out] at h6;have HB6:=aa h6;have WQ:=aa (Dg w2.heap.size w2.heap.size (Lib.byteCells (bF (iy t))) 59 w6 h6.bl (by rw [Lib.byteCells_length];have:=iu.out;omega) (h6.size (by have:=ct.out;omega)));clear h6 HP1 hS hK;go_wp2_with fail;refine WQ.out.mono ?_;rintro e w7 ⟨rfl,h1,h2,h3⟩
  have WR:=aa (HB6.out.byte (x:=59) rfl h1 h2 h3);have HST:=aa (WL w2.heap.size w2.heap.size (bF (iy t)++[59]) w7 WR.out.bl (WR.out.size (by have:=ct.out;omega)));clear h1 h2 h3;go_wp2_with fail;refine HST.out.mono ?_;rintro e w8 ⟨rfl,_,h2,_⟩;have HB8:Hid (Up w2 w8):=fc (kX.out.trans ng.out) (WR.out.up.trans h2);clear h2;go_wp2_with fail;go_ret2;exact ⟨mX.out.trans HB8.out,by rw [lM.out,vS.out];rfl⟩
 ·have B5:(aB t != 0)=true:=by simpa using he
  have lM:Hid (xQ t=1):=by rw [Hid,KD.out,if_pos he]
  have vS:Hid (uw t=[]):=by rw [Hid,HXT.out,if_pos he]
  clear he;generalize aB t=te at *;go_wp2_with fail;go_ret2;exact ⟨mX.out,by rw [lM.out,vS.out];rfl⟩
end
section
theorem WS {c:UInt8} (h:rz c=true):c∉bT:=fun hm=>by
 simp only [bT,bX,List.not_mem_nil,or_false] at hm
 rcases hm with rfl | rfl | rfl | rfl<;>exact absurd h (by decide)
theorem Rt {s:ByteArray} (h:bu s.data.toList=true):s.data.toList≠[]/\∀c∈s.data.toList,c∉bT:=by
 generalize s.data.toList=l at h ⊢;unfold bu at h;have key:∀l:List UInt8,eG l=true->l≠[]/\∀c∈l,c∉bT:=fun l h=>by unfold eG at h;simp only [fe,decide_eq_true_eq,tT] at h;exact ⟨fun e=>by rw [e] at h;simp at h,fun c hc=>WS (h.2 c hc)⟩
 by_cases e:l.getLast? = some 42
 ·rw [if_pos e] at h
  simp only [fe] at h;obtain ⟨h1,h2⟩:=key _ h.1;have hl:l≠[]:=fun e2=>by subst e2;cases e
  refine ⟨hl,fun c hc=>?_⟩;rw [<- List.dropLast_concat_getLast hl,cu,jT] at hc;rcases hc with hc | hc
  ·exact h2 c hc
  ·rw [List.getLast?_eq_some_getLast hl] at e
   have e:=Option.some.inj e;rw [hc,e];decide
 ·rw [if_neg e] at h;exact key l h
theorem kP.kC {r:RT} (h:kP r):l8 r:=fun s hs=>⟨h.Ej s hs,fun hk=>Rt (h.lf s hs hk)⟩
section
variable {t:aF}
theorem WT (h:aB t=0):uw t=bF (iy t)++[59]:=by unfold uw;rw [if_neg (by simp [h])]
theorem Hj (h:aB t=0):∀(d j:Nat),j<=d->j<t.ps.length->q8 t.ps 0 j=true
 | d,j,hd,hj=>by
  by_cases h0:j=0
  ·subst h0;exact G0 0
  ·obtain ⟨_,_,_,hok,_⟩:=aM h
   have hp:=xh hok hj (by omega)
   rw [xm hok hj (by omega)]
   cases d with
   | zero=>omega
   | succ d=>exact Hj h d _ (by omega) (by omega)
theorem Mc (h:aB t=0):(b5 (fU t) (dx t) 0).Perm (List.range t.ps.length):=by
 have h0:=(aM h).1;refine (List.perm_ext_iff_of_nodup (j9 (eM h) (fun i _=>vH t i) h0 (ah _)) List.nodup_range).2 fun j=>?_;rw [cU];constructor
 ·exact iU h
 ·intro hj
  refine (eL (eM h).wf h0 (ah _)).2 ?_;rw [Df h _ 0 j (ah _) h0 hj];exact Hj h j j (ah _) hj
theorem Ui (h:aB t=0):(dr (iy t)).Perm t.ns:=by
 rw [Kn h];have hl:=(aM h).2.2.1;have h1:=(Mc h).map (gs t.ns);rw [<- hl,Q9] at h1;exact h1
theorem Md (h:aB t=0):(gH (iy t)).Perm (p7 t.ns):=(Ui h).filter _
theorem Me {nm:ByteArray} (h:nm.size≠0):gH (.node nm [])=[nm]:=by
 unfold gH;rw [dr,dL];exact List.filter_eq_self.2 fun x hx=>decide_eq_true (by rw [jT.1 hx];exact h)
theorem KF:∀a b:List UInt8,Lib.compareBytes a b<=0↔a<=b
 | [],b=>by
  cases b with
  | nil=>simp [Lib.compareBytes]
  | cons y b=>simp [Lib.compareBytes]
 | x::a,[]=>by simp [Lib.compareBytes]
 | x::a,y::b=>by
  rw [Lib.compareBytes,List.cons_le_cons_iff]
  have ih:=KF a b
  by_cases h1:x<y
  ·simp [h1]
  ·by_cases h2:y<x
   ·have:x≠y:=by rintro rfl;exact h1 h2
    simp [h1,h2,this]
   ·have:x=y:=by
     apply UInt8.toNat.inj
     rw [sk] at h1 h2;omega
    subst this
    simp [ih]
theorem ES {nm:ByteArray} {ks ls:List RT} (h:(ks.map aY).Perm (ls.map aY)) (hg:kP (.node nm ks)):aY (.node nm ks)=aY (.node nm ls):=by
 rw [aY,aY];congr 1;rw [uW,uW];refine Ra h ?_;rw [jS];exact GY hg _ (ur _)
end
end
end Go.Proofs.YthgabkgmkolobaaGreat
