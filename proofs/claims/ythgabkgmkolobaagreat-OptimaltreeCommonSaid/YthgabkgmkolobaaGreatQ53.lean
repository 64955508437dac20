/- The law of OptimaltreeCommon. -/
import Derived.Test.YthgabkgmkolobaaGreatQ52
set_option maxRecDepth 100000
set_option maxHeartbeats 16000000
namespace Go.Proofs.YthgabkgmkolobaaGreat
open Go.RowKit Go.Deep
def pkI (n:Nat) (dh:List Int) (k:Nat):Nat:=(gi dh k).toNat % n
def xF (aac:List ByteArray) (dh:List Int) (k:Nat):List az:=(List.range k).map fun i=>gt (allT aac) (pkI (allT aac).length dh i)
theorem pkT_succ (aac:List ByteArray) (dh:List Int) (k:Nat):xF aac dh (k+1)=xF aac dh k++[gt (allT aac) (pkI (allT aac).length dh k)]:=by simp [xF,List.range_succ]
theorem Kr (aac:List ByteArray) (dh:List Int) (k:Nat):(xF aac dh k).length=k:=by simp [xF]
theorem pkT_gt {aac:List ByteArray} {dh:List Int} {j k:Nat} (hj:j<k):gt (xF aac dh k) j=gt (allT aac) (pkI (allT aac).length dh j):=by simp [gt,xF,hj]
def rB (aac:List ByteArray) (ts:List az):List (List (List Int)):=ts.map fun t=>cW t aac
theorem OY {aac:List ByteArray} {ts:List az} {j:Nat} (hj:j<ts.length):k7 (rB aac ts) j=cW (gt ts j) aac:=by simp [k7,rB,gt,hj]
theorem PZ (aac:List ByteArray) (ts:List az):(rB aac ts).length=ts.length:=by simp [rB]
theorem spL_snoc (aac:List ByteArray) (ts:List az) (t:az):rB aac (ts++[t])=rB aac ts++[cW t aac]:=by simp [rB]
theorem cmB_iff {aac:List ByteArray} {ts:List az} {s:List Int}:CC (rB aac ts) s=true↔∀k,k<ts.length->s∈cW (gt ts k) aac:=by
 unfold CC;rw [Ag,PZ];constructor
 ·intro h k hk
  have:=any_false h hk;rw [OY hk] at this;simpa using this
 ·intro h
  refine any_none fun k hk=>?_;rw [OY hk];simpa using h k hk
theorem comL_cm {aac:List ByteArray} {ts:List az} (h0:0<ts.length):ir ts aac=(k7 (rB aac ts) 0).filter (CC (rB aac ts)):=by
 unfold ir uA;rw [OY h0];refine List.filter_congr fun s _=>?_;rw [lR,cmB_iff,wL];constructor
 ·intro h k hk;exact of_decide_eq_true (h k (bh.2 hk))
 ·intro h k hk;exact decide_eq_true (h k (bh.1 hk))
def Ab (ls:List (List (List Int))) (k:Nat):Nat:=(((k7 ls 0).take k).filter (CC ls)).length
theorem wnK_succ {ls:List (List (List Int))} {k:Nat} (hk:k<(k7 ls 0).length):Ab ls (k+1)=Ab ls k+if CC ls (gl (k7 ls 0) k)=true then 1 else 0:=by
 unfold Ab;rw [jY hk,vg,aZ];have e:gl (k7 ls 0) k=(k7 ls 0)[k]:=by simp [gl,hk]
 rw [e];congr 1;by_cases h:CC ls (k7 ls 0)[k]=true
 ·rw [if_pos h,MZ h];rfl
 ·rw [if_neg h,JQ h];rfl
theorem wnK_le (ls:List (List (List Int))) (k:Nat):Ab ls k<=k:=by
 unfold Ab;exact aJ (pG _ _) (by rw [gV];omega)
def Sc (B bx:Nat) (P N sv:Value) (W:World):Prop:=W.cell? ⟨B,0,none⟩=some P/\W.cell? ⟨B,1,none⟩=some N/\W.cell? ⟨bx,0,none⟩=some sv
section
variable {B bx:Nat} {P N sv tv:Value} {W W' W0:World} {row:Option Nat}
theorem OZ (h:Sc B bx P N sv W) (hu:Up W W'):Sc B bx P N sv W':=⟨hu.cell h.1,hu.cell h.2.1,hu.cell h.2.2⟩
theorem GD {b:Nat} {o:Nat} {x:Value} (hg:W.grownBy W' row) (hc:W.cell? ⟨b,o,none⟩=some x) (hne:row≠some b):W'.cell? ⟨b,o,none⟩=some x:=by
 have hlt:b<W.heap.size:=eG W _ hc;have:=hg.block b hlt fun e=>hne e.symm;unfold World.cell? at hc ⊢;rw [this];exact hc
theorem P3 (h:Sc B bx P N sv W) (hg:W.grownBy W' row) (hne:row≠some B) (_:B<W.heap.size) (hc:W'.cell? ⟨bx,0,none⟩=some sv):Sc B bx P N sv W':=⟨GD hg h.1 hne,GD hg h.2.1 hne,hc⟩
theorem Bg {e:TypeId} {size n:Nat} {vs:List Value} {v:Value} (h:Up W0 W) (hg:W.grownBy W' v.ownBlock) (ho:W.ownsRow (bx+1) e size v n vs) (hb:W0.heap.size=bx):Up W0 W' :=
 zA h hg h.size fun k hk=>by have:=(j8 ho k hk).1;omega
theorem GF {g k cap:Nat} {Wd W1 W2:World} {u:Value} {R:List (List Int)} (h:aR (qz bx tv sv) Wd u R) (hu:Up Wd W) (hg:W.grownBy W1 tv.ownBlock) (dD:tv.ownBlock=some g\/g=W.heap.size) (aK:Up W1 W2) :
  aR (qz bx (.slice (some ⟨g,0,none⟩) k cap) sv) W2 u R:=by
 have h1:=h.keep (hu.kept _)
 have h2:aR (qz bx (.slice (some ⟨g,0,none⟩) k cap) sv) W1 u R:=((h1.sub fun b hb hl=>And.intro hb hl).keep (S:=fun b=>qz bx tv sv b/\b<W.heap.size) fun b hb hl=>hg.block b hl fun e=>hb.1.2.1 e.symm).sub fun b hb _=>⟨hb.1.1,fun e=>by
  injection e with e;have e:g=b:=e;subst e;rcases dD with q | q
  ·exact hb.1.2.1 q
  ·have:=hb.2;omega,hb.1.2.2⟩
 exact h2.keep (aK.kept _)
end
theorem of_small34 {aac:List ByteArray} {t:az} (ho:dK t aac) (hz:∀k,(gs aac k).size<=70000) (k:Nat):(gs t.ns k).size<=70000:=by
 obtain ⟨_,Cn,hl,_,_⟩:=aF ho.te;by_cases hk:k<t.ps.length
 ·by_cases h0:(gs t.ns k).size=0
  ·omega
  ·obtain ⟨b,_,e⟩:=ho.has k hk h0
   rw [<- e];exact hz b
 ·have:gs t.ns k=ByteArray.empty:=by simp [gs,show t.ns.length<=k by omega]
  rw [this];decide
def CmI (w2:World) (bx:Nat) (aac:List ByteArray) (dh:List Int) (k:Nat) (tv:Value) (wr:World):Prop :=
 Up w2 wr/\∃sv es vals,Cm bx wr sv tv sv es vals (rB aac (xF aac dh k))/\es.map (·.2)=xF aac dh k
theorem Xg {T:TypeId} (hT:T≠3) {W:World} {b:Nat} {c:Array Value} {z:Nat×Nat} (h:W.heap[b]? = some (Obj.cells c T z)):¬wF W b:=fun ⟨c',z',h'⟩=>by
 rw [h] at h'
 injection h' with h'
 injection h' with _ h'
 exact hT h'
theorem SD {base size n:Nat} {e:TypeId} {W:World} {v:Value} {vs:List Value} (h:W.ownsRow base e size v n vs) {b:Nat} (hb:v.ownBlock=some b):∃c z,W.heap[b]? = some (Obj.cells c e z):=by
 rcases h.2 with ⟨e1,_⟩ | ⟨g,cap,cur,e1,_,hc,_⟩
 ·rw [e1] at hb;cases hb
 ·rw [e1] at hb
  injection hb with hb;have hb:g=b:=hb;subst hb;exact ⟨_,_,hc⟩
theorem Xh (w:World) (v vp:Value) (aac:List ByteArray) (dh:List Int) (h:au Any w v aac) (hP:ay Any w vp dh.length (fun k=>.int .u8 (gi dh k)))
  (hn:aac.length<=9223372036854775807) (hz:∀k,(gs aac k).size<=9223372036854775807) (hpl:dh.length<=9223372036854775807) (hpb:∀k,0<=gi dh k/\gi dh k<=255) :
  Calls Tryz.prog 10 #[v,vp] w fun e w'=>e=.returned (.bool true)/\Up w w':=by
 obtain ⟨p,cap,rfl,hcap,-⟩:=ay.open h;have h:au Any w (.slice p aac.length cap) aac:=h;obtain ⟨kp,kc,rfl,-,hpc⟩:=ay.open hP;have je:=aa (Sq Any w _ aac h hn hz);have Aa:Hid (∀W,Calls Tryz.prog 26 #[] W fun e w'=>e=.returned (.bool true)/\Up W w'):=Sm;have rz:Hid (zK aac=true->gT aac):=nmd_ok;have HH:=aa h;have ZC:=aa hpc;have ED:=aa hpb;have jW:(dh.length:Int)<=9223372036854775807:=by omega
 clear h hz hn hP hpc hpb
 go_enter Tryz.func10,Tryz.ntmps10
 go_wp2_with fail;refine je.out.mono ?_;rintro e w1 ⟨rfl,bA⟩;have cA:=aa bA;clear je;by_cases Gh:¬(zK aac=true/\dh.length≠0/\¬6<dh.length)
 ·cases hf:zK aac
  ·clear hf rz bA Gh
   go_wp2_with fail;refine (Aa.out _).mono ?_;rintro e w' ⟨rfl,dX⟩;go_wp2_with fail;go_ret;exact ⟨rfl,cA.out.trans dX⟩
  ·by_cases h0:dh.length=0
   ·have d0:((dh.length:Int)==0)=true:=by simp [h0]
    clear hf rz bA Gh;go_wp2_with fail;refine (Aa.out _).mono ?_;rintro e w' ⟨rfl,dX⟩;go_wp2_with fail;go_ret;exact ⟨rfl,cA.out.trans dX⟩
   ·have h6:6<dh.length:=by
     refine tK fun q=>Gh ⟨hf,h0,q⟩
    have d0:((dh.length:Int)==0)=false:=beq_eq_false_iff_ne.2 (by omega)
    have d6:decide ((6:Int)<(dh.length:Int))=true:=decide_eq_true (by omega)
    clear hf rz bA Gh
    go_wp2_with fail
    refine (Aa.out _).mono ?_
    rintro e w' ⟨rfl,dX⟩
    go_wp2_with fail
    go_ret
    exact ⟨rfl,cA.out.trans dX⟩
 obtain ⟨hf,h0,h6⟩:=Fo.1 Gh;have hnm:=rz.out hf;have uv:=hnm.hi;have hnl:=hnm.lo;have HN:=aa hnm;have HZ:Hid (∀k,(gs aac k).size<=70000):=fun k=>aJ (lF (M:=20) (fun x hx=>tT (hnm.nm x hx)) k) (by decide);have kM:=aa (PL Any w1 _ aac (au.keep HH.out (bA.kept _)) (by omega) HZ.out (.inl uv));unfold tV at kM;rw [(mQ uv).2 hnm,if_pos rfl] at kM;have uo:Hid (0<(allT aac).length/\(allT aac).length<=15):=by unfold Hid allT;rw [aG,rO hnm];split<;>(try split)<;>(try split)<;>omega
 have iu:=aa (And.intro hnl uv);have fN:=aa (And.intro h0 h6);rw [hf];have d0:((dh.length:Int)==0)=false:=beq_eq_false_iff_ne.2 (by omega);have d6:decide ((6:Int)<(dh.length:Int))=false:=decide_eq_false (by omega);have hal0:(((allT aac).length:Int)==0)=false:=beq_eq_false_iff_ne.2 (by have:=uo.out.1;omega)
 have HTF:Hid (∀j,j<(allT aac).length->dK (gt (allT aac) j) aac/\(gt (allT aac) j).ps.length<=1000000/\(gt (allT aac) j).ns.length<=1000000/\∀k,(gs (gt (allT aac) j).ns k).size<=70000):=fun j hj=>by have ho:=(mM hnm (pZ hj)).1;obtain ⟨_,Cn,hl,_,_⟩:=aF ho.te;exact ⟨ho,by omega,by omega,(Pw hnm (k:=j) (by have h:=hj;unfold allT at h;rwa [aG] at h)).2.2⟩
 clear hf h0 h6 hnm uv hnl bA rz;go_wp2_with fail;refine kM.out.mono ?_;rintro e w2 ⟨aK,v2,rfl,ht2⟩;obtain ⟨p2,c2,rfl,-⟩:=iM ht2;have bD:=aa (cA.out.trans aK);have uj:=aa ht2;obtain ⟨bx,iT⟩:∃bx,w2.heap.size=bx:=⟨_,rfl⟩;have dz:=aa iT;have hst:=Cm.start w2;rw [iT] at hst;have qP:Hid (CmI w2 bx aac dh 0 (.slice none 0 0) (w2.alloc (.cells #[.slice none 0 0] 78))):=⟨Up.alloc _ _,_,_,_,hst,rfl⟩;clear aK ht2 kM hst d0 d6;go_wp2_with fail;clear hal0 iT
 go_loopw [7,10,11,12,13,50] (fun tv _ _ _ _ i wr=>∃k:Nat,k<=dh.length/\i=.int .i64 k/\Hid (CmI w2 bx aac dh k tv wr)) (fun _ _ _ _ _ i _=>dh.length - (intOf i).toNat)
 case atStart=>exact ⟨0,aL _,rfl,qP.out⟩
 case round =>
  obtain ⟨k,hk,rfl,hI⟩:=hrel;obtain ⟨wo,rfl⟩:∃wo:World,wo=wr:=⟨_,rfl⟩;obtain ⟨hU,sv,es,vals,hC,hem⟩:=hI.out;obtain ⟨⟨tp,tc,rfl⟩,sp,sc,rfl⟩:=hC.form;by_cases hlt:k<dh.length
  ·obtain ⟨kb,ko,rfl,qX⟩:=ZC.out k hlt
   replace qX:=(bD.out.trans hU).cell qX;obtain ⟨hb0,hb1⟩:=ED.out k;obtain ⟨d,hd⟩:∃d:Nat,gi dh k=(d:Int):=⟨(gi dh k).toNat,by omega⟩;rw [hd] at qX;obtain ⟨j,hj⟩:∃j,j=d % (allT aac).length:=⟨_,rfl⟩;(have hjl:j<(allT aac).length:=by rw [hj];exact Nat.mod_lt _ uo.out.1);(have Ho:(d:Int).tmod ((allT aac).length:Int)=(j:Int):=by rw [Int.tmod_eq_emod_of_nonneg (by omega),hj];push_cast;rfl);(have hse2:(d:Int) % ((allT aac).length:Int)=(j:Int):=by rw [hj];push_cast;rfl);have hpi:pkI (allT aac).length dh k=j:=by unfold pkI;rw [hd,cZ,hj]
   (have HTT:Hid (xF aac dh (k+1)=xF aac dh k++[gt (allT aac) j]):=by unfold Hid;rw [pkT_succ,hpi]);(have vT:Hid (rB aac (xF aac dh (k+1))=rB aac (xF aac dh k)++[cW (gt (allT aac) j) aac]):=by unfold Hid;rw [HTT.out,spL_snoc]);(have hd256:(d:Int)<256:=by omega);(have hd0:(0:Int)<=(d:Int):=by omega);have hwd:IntKind.i64.wrap (d:Int)=(d:Int):=IntWalk.i64_in _ (by omega);(have hl0:((allT aac).length:Int)≠0:=by have:=uo.out.1;omega);have d0:(((allT aac).length:Int)==0)=false:=beq_eq_false_iff_ne.2 hl0;have j0:(0:Int)<=(j:Int):=by omega
   (have j1:(j:Int)<((allT aac).length:Int):=by omega);(have j2:(j:Int)<16:=by have:=uo.out.2;omega);(have i1:(0:Int)<=(k:Int):=by omega);(have i2:(k:Int)<(dh.length:Int):=by omega);obtain ⟨tb,toff,pp,pc,np,nc,rfl,c0,c1,CA⟩:=qd uj.out hjl;replace c0:=hU.cell c0;replace c1:=hU.cell c1;obtain ⟨ho,z1,z2,z3⟩:=HTF.out j hjl;obtain ⟨B,hB⟩:∃B,wo.heap.size=B:=⟨_,rfl⟩;have dX:=Up.alloc wo (.cells #[.slice pp (gt (allT aac) j).ps.length pc,.slice np (gt (allT aac) j).ns.length nc] 39)
   obtain ⟨q0,q1,-,-⟩:=boxed (gp (w:=wo) (P:=.slice pp (gt (allT aac) j).ps.length pc) (N:=.slice np (gt (allT aac) j).ns.length nc) (T:=39));rw [hB] at q0 q1;(have hTs:aI (fun b=>b<bx) w2 (.agg #[.slice pp (gt (allT aac) j).ps.length pc,.slice np (gt (allT aac) j).ns.length nc]) (gt (allT aac) j):=CA.sub fun b _ hb=>by have:=dz.out;omega);have Sn:=aa hTs
   have oC:=aa (Mp Any _ _ (.slice p aac.length cap) (gt (allT aac) j) aac (CA.keep ((hU.trans dX).kept _)) (au.keep HH.out (((bD.out.trans hU).trans dX).kept _)) z1 z2 z3 (by have:=iu.out;omega));unfold Ki at oC;rw [kV.2 ho] at oC;have tH:=aa (hU.trans dX);have xM:=aa dX;have HB:=aa hB;have HC:=aa hC;have Oc:=aa hem;have bu:=aa hlt;have P9:Hid (∀b,(Value.slice tp es.length tc).ownBlock=some b->b<B):=fun b hb=>by have:=(j8 hC.tr b hb).2;omega
   (have HSLT:Hid (∀b,(Value.slice sp (rB aac (xF aac dh k)).length sc).ownBlock=some b->b<B):=fun b hb=>by have:=(av hC.so hb).2;omega);(have hel:es.length=k:=by have:=congrArg List.length hem;rw [aG,Kr] at this;exact this);(have HEL:Hid (es.length<=1000000):=by have:=fN.out;unfold Hid;omega);(have QV:Hid (vals.length<=1000000):=by have:=hC.ln;rw [PZ,Kr] at this;have:=fN.out;unfold Hid;omega);clear hI hU hC hem hlt hk hb0 hb1 hd hj hjl hpi CA ho z1 z2 z3 dX hTs hel;generalize cW (gt (allT aac) j) aac=R at *;generalize gt (allT aac) j=t at *
   go_wp2_with fail;clear hB;generalize wo.alloc (.cells #[.slice pp t.ps.length pc,.slice np t.ns.length nc] 39)=wa at *;refine oC.out.mono ?_;rintro e w5 ⟨ey,u5,rfl,f5,hf5,hg5⟩;obtain ⟨lp,lc,rfl,-,-⟩:=ay.open hf5;replace q0:=ey.cell q0;replace q1:=ey.cell q1;have SE:=HC.out.up (xM.out.trans ey);have hdr:Up w5 w5.drew:=Up.drewN w5 1;have HCd:=aa (SE.up hdr);have Nt:Hid (aI (qz bx (.slice tp es.length tc) (.slice sp (rB aac (xF aac dh k)).length sc)) w5.drew (.agg #[.slice pp t.ps.length pc,.slice np t.ns.length nc]) t) :=
    (Sn.out.keep (((tH.out.trans ey).trans hdr).kept _)).sub fun b hb _=>⟨by have hb:b<bx:=hb;omega,fun e=>by have:=(j8 SE.tr b e).1;have hb:b<bx:=hb;omega,fun e=>by have:=(av SE.so e).1;have hb:b<bx:=hb;omega⟩
   have zS:Hid (aR (qz bx (.slice tp es.length tc) (.slice sp (rB aac (xF aac dh k)).length sc)) w5.drew (.slice lp R.length lc) R):=by
    (have hBs:B<=wa.heap.size:=by rw [<- HB.out];exact xM.out.size);(have hbB:bx<B:=by have:=HC.out.lt;have:=HB.out;omega);refine ⟨f5,(hf5.keep (hdr.kept _)).sub fun b hb _=>⟨?_,fun e=>?_,fun e=>?_⟩,fun i hi=>((hg5 i hi).keep (hdr.kept _)).sub fun b hb _=>⟨fun e=>?_,fun e=>?_,fun e=>?_⟩⟩
    ·have hb:wa.heap.size<=b:=hb
     omega
    ·have:=P9.out b e;have hb:wa.heap.size<=b:=hb;omega
    ·have:=HSLT.out b e;have hb:wa.heap.size<=b:=hb;omega
    ·subst e;exact Xg (by decide) SE.box hb
    ·obtain ⟨c,z,hc⟩:=SD SE.tr e;exact Xg (by decide) hc hb
    ·obtain ⟨c,z,hc⟩:=SD SE.so e;exact Xg (by decide) hc hb
   have HSd:Hid (Sc B bx (.slice pp t.ps.length pc) (.slice np t.ns.length nc) (.slice sp (rB aac (xF aac dh k)).length sc) w5.drew):=⟨hdr.cell q0,hdr.cell q1,HCd.out.cell.1⟩;have HUd:Hid (Up w2 w5.drew):=(tH.out.trans ey).trans hdr;have kP:Hid (B<w5.drew.heap.size):=eG _ _ (hdr.cell q0);have hbc:=SE.cell.1;clear ey hf5 hg5 SE hdr oC tH xM c0 c1 qX;go_wp2_with fail;obtain ⟨sl,jf⟩:∃sl,(rB aac (xF aac dh k)).length=sl:=⟨_,rfl⟩;rw [jf] at HCd Nt zS HSd hbc HSLT
   refine gQ (by kernel_rfl) 8 (fun w'=>w'.cell? ⟨B,0,none⟩=some (.slice pp t.ps.length pc)/\w'.cell? ⟨B,1,none⟩=some (.slice np t.ns.length nc)/\w'.cell? ⟨bx,0,none⟩=some (.slice sp sl sc)) ⟨q0,q1,hbc⟩ (fun hS=>?_);simp only [eW,aT,dO,Nat.reduceAdd,ji,jk,eV,cH,cr];clear q0 q1 hbc jf;generalize w5.drew=Wd at *;refine aj.tk 0 hS ?_;(try simp only [Act.put,aA,aB,aC]);refine aj.tk 1 hS ?_
   (try simp only [Act.put,aA,aB,aC]);refine aj.tk 4 hS ?_;(try simp only [Act.put,aA,aB,aC]);refine aj.tk 5 hS ?_;(try simp only [Act.put,aA,aB,aC]);refine aj.yG (i:=2) (i2:=6) rfl rfl (by kernel_rfl) (fun K' hK=>?_) (fun K' hK=>?_)
   ·go_simp
    have cE:=Up.alloc Wd (.cells #[.slice pp t.ps.length pc,.slice np t.ns.length nc] 39);have Xi:=aa (HCd.out.up cE);have HUPHCa:=aa cE;have HSa:=aa (OZ HSd.out cE);have BX:=aS Wd #[.slice pp t.ps.length pc,.slice np t.ns.length nc] 39 0;have kY:=aS Wd #[.slice pp t.ps.length pc,.slice np t.ns.length nc] 39 1;refine hK.out _ _ (fun _=>HSa.out) (fun _=>?_);(try simp only [aA,aB,aC]);refine aj.yG (i:=3) (i2:=6) rfl rfl (by kernel_rfl) (fun K' hK=>?_) (fun K' hK=>?_)
    ·refine GC (by rfl) _ _ _ (by rfl) (bx+1) 39 _ 48 Tryz.underlying33 Tryz.infoTree (by rfl) (by decide) (by rfl) Xi.out.tr (.slice pp t.ps.length pc) (.slice np t.ns.length nc) Wd.heap.size (by rfl) BX kY (by rfl) (by rfl) HEL.out (Xi.out.lt) ?_
     intro g1 Ij iO og gA hrg1;have Hp:=aa (Cm.tree (G:=((.slice pp t.ps.length pc,.slice np t.ns.length nc),t)) Xi.out og gA hrg1 (Nt.out.keep (HUPHCa.out.kept _)));have SF:Hid (Sc B bx (.slice pp t.ps.length pc) (.slice np t.ns.length nc) (.slice sp sl sc) iO):=P3 HSa.out gA (fun e=>absurd (P9.out _ e) (mU _)) (js kP.out cE.size) Hp.out.cell.1;have cA:Hid (Up w2 iO):=Bg (HUd.out.trans cE) gA Xi.out.tr dz.out;refine hK.out _ _ (fun _=>SF.out) (fun _=>?_)
     (try simp only [Act.put,aA,aB,aC]);refine aj.step (i:=6) rfl (by kernel_rfl) (fun K' hK=>?_);go_simp;have tj:=Up.alloc iO (.cells #[.slice lp R.length lc] 23);have Ac:=aa (Hp.out.up tj);have Ja:=aS iO #[.slice lp R.length lc] 23 0;refine hK.out _ _ (fun _=>OZ SF.out tj) (fun _=>?_);(try simp only [aA,aB,aC]);refine aj.step (i:=7) rfl (by kernel_rfl) (fun K' hK=>?_)
     refine fF (by rfl) _ _ _ (by rfl) (bx+1) 23 _ 24 Tryz.underlying78 Tryz.Xf (by rfl) (by decide) (by rfl) Ac.out.so (.slice lp R.length lc) iO.heap.size (by rfl) Ja (by rfl) QV.out (Ac.out.lt) ?_;intro g2 y9 Wf oh kQ hrg2 _;have nM:=aa (Cm.rows Ac.out oh kQ hrg2 (GF zS.out (HUPHCa.out) gA hrg1 tj));have IG:Hid (Up w2 Wf):=Bg (cA.out.trans tj) kQ Ac.out.so dz.out;refine hK.out _ _ (aO (by kernel_rfl)) (fun _=>?_);(try simp only [Act.put,aA,aB,aC]);obtain ⟨hbc,QB⟩:=nM.out.cell
     have jr:=aa (nM.out.store (.slice (some ⟨g2,0,none⟩) (vals.length+1) y9));have Xj:Hid (Up w2 (Wf.setCell ⟨bx,0,none⟩ (.slice (some ⟨g2,0,none⟩) (vals.length+1) y9))):=yC IG.out (by show w2.heap.size<=bx;exact fB dz.out) _;refine aj.step (i:=8) rfl (by kernel_rfl) (fun K' hK=>?_);go_simp;refine hK.out _ _ (aO (by kernel_rfl)) (fun _=>?_);(try simp only [aA,aB,aC]);refine aj.step (i:=9) rfl (by kernel_rfl) (fun K' hK=>?_);go_simp;refine hK.out _ _ (aO (by kernel_rfl)) (fun _=>?_)
     refine aj.done (by kernel_rfl) ?_;go_wp2_with fail
     go_roundw
     case rel=>exact ⟨k+1,bu.out,by go_num,Xj.out,_,_,_,by rw [vT.out];exact jr.out,by rw [cg,Oc.out,HTT.out];rfl⟩
     case measure=>have:=bu.out;simp [intOf];omega
    ·go_simp
     have tj:=Up.alloc (Wd.alloc (.cells #[.slice pp t.ps.length pc,.slice np t.ns.length nc] 39)) (.cells #[.slice lp R.length lc] 23);have Hp:=aa (Xi.out.up tj);have xG:=aa (cE.trans tj);have Ja:=aS (Wd.alloc (.cells #[.slice pp t.ps.length pc,.slice np t.ns.length nc] 39)) #[.slice lp R.length lc] 23 0;rw [aQ] at Ja;have BX:=tj.cell BX;have kY:=tj.cell kY;have SF:=aa (OZ HSa.out tj);refine hK.out _ _ (fun _=>SF.out) (fun _=>?_);try simp only [aA,aB,aC]
     refine aj.step (i:=3) rfl (by kernel_rfl) (fun K' hK=>?_);refine GC (by rfl) _ _ _ (by rfl) (bx+1) 39 _ 48 Tryz.underlying33 Tryz.infoTree (by rfl) (by decide) (by rfl) Hp.out.tr (.slice pp t.ps.length pc) (.slice np t.ns.length nc) Wd.heap.size (by rfl) BX kY (by rfl) (by rfl) HEL.out (Hp.out.lt) ?_;intro g1 Ij iO og gA hrg1;have Ac:=aa (Cm.tree (G:=((.slice pp t.ps.length pc,.slice np t.ns.length nc),t)) Hp.out og gA hrg1 (Nt.out.keep (xG.out.kept _)));have Ts:=GD gA Ja (fun e=>by have:=P9.out _ e;have:=kP.out;omega)
     have HSc:Hid (Sc B bx (.slice pp t.ps.length pc) (.slice np t.ns.length nc) (.slice sp sl sc) iO):=P3 SF.out gA (fun e=>absurd (P9.out _ e) (mU _)) (js kP.out xG.out.size) Ac.out.cell.1;have cA:Hid (Up w2 iO):=Bg (HUd.out.trans xG.out) gA Hp.out.tr dz.out;refine hK.out _ _ (fun _=>HSc.out) (fun _=>?_);(try simp only [Act.put,aA,aB,aC]);refine aj.step (i:=7) rfl (by kernel_rfl) (fun K' hK=>?_)
     refine fF (by rfl) _ _ _ (by rfl) (bx+1) 23 _ 24 Tryz.underlying78 Tryz.Xf (by rfl) (by decide) (by rfl) Ac.out.so (.slice lp R.length lc) (Wd.heap.size+1) (by rfl) Ts (by rfl) QV.out (Ac.out.lt) ?_;intro g2 y9 Wf oh kQ hrg2 _;have nM:=aa (Cm.rows Ac.out oh kQ hrg2 (GF zS.out (xG.out) gA hrg1 (Up.refl _)));have IG:Hid (Up w2 Wf):=Bg cA.out kQ Ac.out.so dz.out;refine hK.out _ _ (aO (by kernel_rfl)) (fun _=>?_);(try simp only [Act.put,aA,aB,aC]);obtain ⟨hbc,QB⟩:=nM.out.cell
     have jr:=aa (nM.out.store (.slice (some ⟨g2,0,none⟩) (vals.length+1) y9));have Xj:Hid (Up w2 (Wf.setCell ⟨bx,0,none⟩ (.slice (some ⟨g2,0,none⟩) (vals.length+1) y9))):=yC IG.out (by show w2.heap.size<=bx;exact fB dz.out) _;refine aj.step (i:=8) rfl (by kernel_rfl) (fun K' hK=>?_);go_simp;refine hK.out _ _ (aO (by kernel_rfl)) (fun _=>?_);(try simp only [aA,aB,aC]);refine aj.step (i:=9) rfl (by kernel_rfl) (fun K' hK=>?_);go_simp;refine hK.out _ _ (aO (by kernel_rfl)) (fun _=>?_)
     refine aj.done (by kernel_rfl) ?_;go_wp2_with fail
     go_roundw
     case rel=>exact ⟨k+1,bu.out,by go_num,Xj.out,_,_,_,by rw [vT.out];exact jr.out,by rw [cg,Oc.out,HTT.out];rfl⟩
     case measure=>have:=bu.out;simp [intOf];omega
   ·go_simp
    have cE:=Up.alloc Wd (.cells #[.slice lp R.length lc] 23);have Xi:=aa (HCd.out.up cE);have Ja:=aS Wd #[.slice lp R.length lc] 23 0;have HSa:=aa (OZ HSd.out cE);refine hK.out _ _ (fun _=>HSa.out) (fun _=>?_);(try simp only [aA,aB,aC]);refine aj.step (i:=2) rfl (by kernel_rfl) (fun K' hK=>?_);go_simp;have tj:=Up.alloc (Wd.alloc (.cells #[.slice lp R.length lc] 23)) (.cells #[.slice pp t.ps.length pc,.slice np t.ns.length nc] 39);have Hp:=aa (Xi.out.up tj);have xG:=aa (cE.trans tj)
    have BX:=aS (Wd.alloc (.cells #[.slice lp R.length lc] 23)) #[.slice pp t.ps.length pc,.slice np t.ns.length nc] 39 0;have kY:=aS (Wd.alloc (.cells #[.slice lp R.length lc] 23)) #[.slice pp t.ps.length pc,.slice np t.ns.length nc] 39 1;rw [aQ] at BX kY;have Ja:=tj.cell Ja;have SF:=aa (OZ HSa.out tj);refine hK.out _ _ (fun _=>SF.out) (fun _=>?_);(try simp only [aA,aB,aC]);refine aj.step (i:=3) rfl (by kernel_rfl) (fun K' hK=>?_)
    refine GC (by rfl) _ _ _ (by rfl) (bx+1) 39 _ 48 Tryz.underlying33 Tryz.infoTree (by rfl) (by decide) (by rfl) Hp.out.tr (.slice pp t.ps.length pc) (.slice np t.ns.length nc) (Wd.heap.size+1) (by rfl) BX kY (by rfl) (by rfl) HEL.out (Hp.out.lt) ?_;intro g1 Ij iO og gA hrg1;have Ac:=aa (Cm.tree (G:=((.slice pp t.ps.length pc,.slice np t.ns.length nc),t)) Hp.out og gA hrg1 (Nt.out.keep (xG.out.kept _)));have Ts:=GD gA Ja (fun e=>by have:=P9.out _ e;have:=kP.out;omega)
    have HSc:Hid (Sc B bx (.slice pp t.ps.length pc) (.slice np t.ns.length nc) (.slice sp sl sc) iO):=P3 SF.out gA (fun e=>absurd (P9.out _ e) (mU _)) (js kP.out xG.out.size) Ac.out.cell.1;have cA:Hid (Up w2 iO):=Bg (HUd.out.trans xG.out) gA Hp.out.tr dz.out;refine hK.out _ _ (fun _=>HSc.out) (fun _=>?_);(try simp only [Act.put,aA,aB,aC]);refine aj.step (i:=7) rfl (by kernel_rfl) (fun K' hK=>?_)
    refine fF (by rfl) _ _ _ (by rfl) (bx+1) 23 _ 24 Tryz.underlying78 Tryz.Xf (by rfl) (by decide) (by rfl) Ac.out.so (.slice lp R.length lc) Wd.heap.size (by rfl) Ts (by rfl) QV.out (Ac.out.lt) ?_;intro g2 y9 Wf oh kQ hrg2 _;have nM:=aa (Cm.rows Ac.out oh kQ hrg2 (GF zS.out (xG.out) gA hrg1 (Up.refl _)));have IG:Hid (Up w2 Wf):=Bg cA.out kQ Ac.out.so dz.out;refine hK.out _ _ (aO (by kernel_rfl)) (fun _=>?_);(try simp only [Act.put,aA,aB,aC]);obtain ⟨hbc,QB⟩:=nM.out.cell
    have jr:=aa (nM.out.store (.slice (some ⟨g2,0,none⟩) (vals.length+1) y9));have Xj:Hid (Up w2 (Wf.setCell ⟨bx,0,none⟩ (.slice (some ⟨g2,0,none⟩) (vals.length+1) y9))):=yC IG.out (by show w2.heap.size<=bx;exact fB dz.out) _;refine aj.step (i:=8) rfl (by kernel_rfl) (fun K' hK=>?_);go_simp;refine hK.out _ _ (aO (by kernel_rfl)) (fun _=>?_);(try simp only [aA,aB,aC]);refine aj.step (i:=9) rfl (by kernel_rfl) (fun K' hK=>?_);go_simp;refine hK.out _ _ (aO (by kernel_rfl)) (fun _=>?_)
    refine aj.done (by kernel_rfl) ?_;go_wp2_with fail
    go_roundw
    case rel=>exact ⟨k+1,bu.out,by go_num,Xj.out,_,_,_,by rw [vT.out];exact jr.out,by rw [cg,Oc.out,HTT.out];rfl⟩
    case measure=>have:=bu.out;simp [intOf];omega
  ·obtain rfl:k=dh.length:=by omega
   obtain ⟨ts,hts⟩:∃ts,xF aac dh dh.length=ts:=⟨_,rfl⟩;(have HTSL:Hid (ts.length=dh.length):=by unfold Hid;rw [<- hts,Kr]);(have hmem:∀j,j<ts.length->gt ts j∈allT aac:=fun j hj=>by rw [<- hts] at hj ⊢;rw [Kr] at hj;rw [pkT_gt hj];exact pZ (Nat.mod_lt _ uo.out.1));rw [hts] at hem hC;have hpos:0<ts.length:=by have:=HTSL.out;have:=fN.out;omega
   have htz:∀j,(gt ts j).ps.length<=1000000/\(gt ts j).ns.length<=1000000/\∀i,(gs (gt ts j).ns i).size<=70000:=fun j=>by
    by_cases hj:j<ts.length
    ·obtain ⟨a,ha,e⟩:=Jc (hmem j hj)
     rw [<- e];exact (HTF.out a ha).2
    ·have:gt ts j=⟨[],[]⟩:=by simp [gt,hj]
     rw [this];exact ⟨aL _,aL _,fun i=>by simp [gs]⟩
   have htr:=hC.trees;rw [hem] at htr;(have hel:es.length=ts.length:=by rw [<- hem,aG]);rw [hel] at htr ⊢;have jw:=aa (bD.out.trans hU);have nM:=aa (Gr HN.out hpos hmem);have Gy:=aa (WN Any wo _ _ aac ts (au.keep HH.out (jw.out.kept _)) (by have:=iu.out;omega) HZ.out (.inl iu.out.2) htr (by have:=HTSL.out;have:=fN.out;omega) htz);unfold Cz at Gy;rw [nM.out.2.1,nM.out.2.2.1] at Gy;have QZ:Hid (dK (iz aac (ir ts aac)) aac):=nM.out.2.2.2.1
   have nH:Hid (cW (iz aac (ir ts aac)) aac=ir ts aac):=nM.out.2.2.2.2;have IB:=aa (comL_cm (aac:=aac) hpos);have Ev:=aa hC.lists;have hbc:=hC.cell.1;have Qa:Hid (∀i,(k7 (rB aac ts) i).length<=1000000/\∀j,(gl (k7 (rB aac ts) i) j).length<=1000000):=fun i=>by
    by_cases hi:i<ts.length
    ·rw [OY hi]
     exact ⟨aJ (tG _ aac) (htz i).1,fun j=>aJ (vQ _ aac j) (by decide)⟩
    ·have:k7 (rB aac ts) i=[]:=by simp [k7,rB,hi]
     rw [this];exact ⟨aL _,fun j=>by simp [gl]⟩
   have jf:(rB aac ts).length=ts.length:=PZ aac ts;have gH:Hid ((rB aac ts).length<=6/\0<(rB aac ts).length):=by have:=HTSL.out;have:=fN.out;unfold Hid;omega
   (have Xa:Hid (∀W v t,Up wo W->aI Any W v t->dK t aac->Calls Tryz.prog 20 #[v,.slice p aac.length cap] W fun e w'=>Up W w'/\∃u,e=.returned (.tuple #[u,.int .i64 0])/\aR Any w' u (cW t aac)):=fun W v t hW ht ho=>by obtain ⟨_,Cn,hl,_,_⟩:=aF ho.te;have h:=PJ Any W v _ t aac ht (au.keep HH.out ((jw.out.trans hW).kept _)) (by omega) (by omega) (of_small34 ho HZ.out) (by have:=iu.out;omega);unfold OH at h;rw [kV.2 ho] at h;exact h);have hsf:=hC.form.2;rw [hts] at *;clear hI hU hC hem hlt hk htr hmem htz hts hel hpos HTF uj ZC ED
   generalize hLS:rB aac ts=ls at *;generalize iz aac (ir ts aac)=C at *;generalize ir ts aac=LC at *;clear hLS;go_wp2_with fail;refine Gy.out.mono ?_;rintro e w4 ⟨di,_,rfl,P4,N4,rfl,iB,iC⟩;obtain ⟨p4,c4,rfl,-,-⟩:=ay.open iB;obtain ⟨n4,d4,rfl,-,-⟩:=ay.open iC;have dX:=Up.alloc w4 (.cells #[.slice p4 C.ps.length c4,.slice n4 C.ns.length d4] 39);obtain ⟨q0,q1,-,-⟩:=boxed (gp (w:=w4) (P:=.slice p4 C.ps.length c4) (N:=.slice n4 C.ns.length d4) (T:=39));have Xb:=aa (Xa.out _ _ C (di.trans dX) (aI.keep ⟨_,_,rfl,iB,iC⟩ (dX.kept _)) QZ.out)
   have iw:=aa (di.trans dX);clear di dX Gy iB iC Xa;go_wp2_with fail;generalize w4.alloc (.cells #[.slice p4 C.ps.length c4,.slice n4 C.ns.length d4] 39)=w5 at *;refine Xb.out.mono ?_;rintro e w7 ⟨qa,u7,rfl,hr7⟩;rw [nH.out] at hr7;obtain ⟨f7,Xc,CS⟩:=hr7;obtain ⟨p7,c7,rfl,-,-⟩:=ay.open Xc;have Da:=Up.alloc w7 (.cells #[.func (.func 51) #[] #[.pointer (some ⟨bx,0,none⟩)]] 47);have IV:=aS w7 #[.func (.func 51) #[] #[.pointer (some ⟨bx,0,none⟩)]] 47 0;simp only [List.getElem?_toArray,List.getElem?_cons_zero] at IV;have gK:=(iw.out.trans qa).trans Da
   replace hbc:=gK.cell hbc;have hl8:=Ev.out.keep (gK.kept _);obtain ⟨lf,kI,hl2⟩:=hl8;obtain ⟨sq,sc2,e9,-,GU⟩:=ay.open kI;injection e9 with e1 e2 e3;subst e1;subst e3;obtain ⟨sb,so,rfl,hs0⟩:=GU 0 gH.out.2;obtain ⟨rp,rc,hlf,-,-⟩:=dW (hl2 0 gH.out.2);have G8:=aa (hl2 0 gH.out.2);rw [hlf] at hs0 G8;rw [jZ] at hs0;have HBC:=aa hbc;have HFC:=aa IV;have HL8:=aa (Ev.out.keep (gK.kept _));have qQ:=aa ((jw.out.trans iw.out).trans (qa.trans Da))
   have HR7:Hid (∃f,ay Any (w7.alloc (.cells #[.func (.func 51) #[] #[.pointer (some ⟨bx,0,none⟩)]] 47)) (.slice p7 LC.length c7) LC.length f/\∀k,k<LC.length->ah Any (w7.alloc (.cells #[.func (.func 51) #[] #[.pointer (some ⟨bx,0,none⟩)]] 47)) (f k) (gl LC k)):=⟨f7,Xc.keep (Da.kept _),fun k hk=>(CS k hk).keep (Da.kept _)⟩;(have hls6:(0:Int)<(ls.length:Int):=by have:=gH.out.2;omega);have hls0:0<ls.length:=gH.out.2;clear qa Xc CS Da gK kI hl2 GU Ev Xb q0 q1 e2 jw iw hlf hsf;go_wp2_with fail
   generalize w7.alloc (.cells #[.func (.func 51) #[] #[.pointer (some ⟨bx,0,none⟩)]] 47)=w8 at *;obtain ⟨bf,QB⟩:∃bf,w7.heap.size=bf:=⟨_,rfl⟩;(have HFC2:Hid (w8.cell? ⟨bf,0,none⟩=some (.func (.func 51) #[] #[.pointer (some ⟨bx,0,none⟩)])):=by rw [<- QB];exact HFC.out);rw [QB];clear hbc IV hs0 HFC hls6 hls0 QB;have HCMO:Hid (∀W s v,Up w8 W->ah Any W v s->s.length<=1000000->Calls Tryz.prog 51 #[v,.pointer (some ⟨bx,0,none⟩)] W fun e w'=>e=.returned (.bool (CC ls s))/\Up W w'):=fun W s v hW hv hl =>
    cmOut_t Any Any W bx v _ s ls (hW.cell HBC.out) (HL8.out.keep (hW.kept _)) hv hl (by have:=gH.out.1;omega) Qa.out
   have HCMN:Hid (∀W s v,Up w8 W->ah Any W v s->s.length<=1000000->Calls Tryz.prog 55 #[v,.pointer (some ⟨bf,0,none⟩)] W fun e w'=>e=.returned (.bool (!CC ls s))/\Up W w'):=fun W s v hW hv hl =>
    cmNot_t Any Any W bf bx v _ s ls (hW.cell HFC2.out) (hW.cell HBC.out) (HL8.out.keep (hW.kept _)) hv hl (by have:=gH.out.1;omega) Qa.out
   go_loopw [19,21,102] (fun a _ i wr=>∃k:Nat,k<=(k7 ls 0).length/\i=.int .i64 k/\a=.int .i64 (Ab ls k:Nat)/\Hid (Up w8 wr)) (fun _ _ i _=>(k7 ls 0).length - (intOf i).toNat)
   case atStart=>exact ⟨0,aL _,rfl,by simp [Ab],Up.refl _⟩
   case round =>
    obtain ⟨k,hk,rfl,rfl,hU⟩:=hrel;obtain ⟨wi,rfl⟩:∃wi:World,wi=wr:=⟨_,rfl⟩;by_cases hlt:k<(k7 ls 0).length
    ·obtain ⟨xb,xo,xq,xc,rfl,xI,hix⟩:=gP (G8.out.keep (hU.out.kept _)) hlt
     have jG:=aa (HCMO.out wi (gl (k7 ls 0) k) _ hU.out hix ((Qa.out 0).2 k));have IV:=hU.out.cell HFC2.out;have Xk:=aa (wnK_succ hlt);have hwl:=wnK_le ls k;have hl9:=(Qa.out 0).1;(have i1:(0:Int)<=(k:Int):=by omega);(have i2:(k:Int)<((k7 ls 0).length:Int):=by omega);(have i3:(k:Int)<1000000:=by omega);(have i4:(Ab ls k:Int)<1000000:=by omega);(have i5:(0:Int)<=(Ab ls k:Int):=by omega);have bu:=aa hlt;have Ze:=aa hU.out;clear hix hU hlt hk hwl hl9;generalize gl (k7 ls 0) k=g at *;obtain ⟨wn,hwn⟩:∃wn,Ab ls k=wn:=⟨_,rfl⟩;rw [hwn] at Xk i4 i5 ⊢;clear hwn
     by_cases hc:CC ls g=true
     ·have lN:Hid (Ab ls (k+1)=wn+1):=by unfold Hid;rw [Xk.out,if_pos hc]
      rw [hc] at jG;clear hc Xk;go_wp2_with fail;refine jG.out.mono ?_;rintro e w9 ⟨rfl,kN⟩;have zX:=aa (Ze.out.trans kN);clear kN jG;go_wp2_with fail
      go_roundw
      case rel=>exact ⟨k+1,bu.out,by go_num,by rw [lN.out];go_num,zX.out⟩
      case measure=>have:=bu.out;simp [intOf];omega
     ·have lN:Hid (Ab ls (k+1)=wn):=by unfold Hid;rw [Xk.out,if_neg hc,jZ]
      rw [Bool.not_eq_true] at hc;rw [hc] at jG;clear hc Xk;go_wp2_with fail;refine jG.out.mono ?_;rintro e w9 ⟨rfl,kN⟩;have zX:=aa (Ze.out.trans kN);clear kN jG;go_wp2_with fail
      go_roundw
      case rel=>exact ⟨k+1,bu.out,by go_num,by rw [lN.out],zX.out⟩
      case measure=>have:=bu.out;simp [intOf];omega
    ·obtain rfl:k=(k7 ls 0).length:=by omega
     (have hwf:LC.length=Ab ls (k7 ls 0).length:=by rw [IB.out];unfold Ab;rw [gh]);(have zg:Hid (∀j,j<LC.length->CC ls (gl LC j)=true/\(gl LC j).length<=1000000):=fun j hj=>by have hm:gl LC j∈LC:=oM hj;rw [IB.out] at hm;obtain ⟨h1,h2⟩:=fL.1 hm;refine ⟨by rw [<- IB.out] at h2;exact h2,?_⟩;obtain ⟨i,hi,e⟩:=vk h1;have h3:=(Qa.out 0).2 i;rw [show gl (k7 ls 0) i=gl LC j by rw [IB.out,<- e];simp [gl,hi]] at h3;exact h3);have gG:Hid (LC.length<=1000000):=by rw [Hid,hwf];exact aJ (wnK_le _ _) (Qa.out 0).1
     have sD:Hid (Calls Tryz.prog 22 #[.slice p7 LC.length c7,.func (.func 55) #[] #[.pointer (some ⟨bf,0,none⟩)]] wi fun e w'=>e=.returned (.bool false)/\Up wi w'):=by
      obtain ⟨f,nE,hf2⟩:=HR7.out;(have e0:((List.range LC.length).any fun _=>false)=false:=by simp);rw [<- e0];refine OS 55 #[.pointer (some ⟨bf,0,none⟩)] (enters_of Tryz.func55 (by kernel_rfl) rfl) Any wi _ LC.length f (fun _=>false) (nE.keep (hU.out.kept _)) gG.out fun j W hj hW=>?_;have h:=HCMN.out W (gl LC j) (f j) (hU.out.trans hW) ((hf2 j hj).keep ((hU.out.trans hW).kept _)) (zg.out j hj).2;rw [(zg.out j hj).1] at h;exact h
     (have d1:((LC.length:Int)==((Ab ls (k7 ls 0).length:Nat):Int))=true:=by rw [hwf];simp);have HUE:=aa (qQ.out.trans hU.out);obtain ⟨wn,hwn⟩:∃wn,Ab ls (k7 ls 0).length=wn:=⟨_,rfl⟩;rw [hwn] at d1 ⊢;clear hwf hwn hU hlt hk zg gG IB;go_wp2_with fail;refine sD.out.mono ?_;rintro e w9 ⟨rfl,kN⟩;have zX:=aa (HUE.out.trans kN);clear kN sD;go_wp2_with fail;refine (Aa.out _).mono ?_;rintro e w' ⟨rfl,dX⟩;go_wp2_with fail;go_ret;exact ⟨rfl,zX.out.trans dX⟩
end Go.Proofs.YthgabkgmkolobaaGreat
