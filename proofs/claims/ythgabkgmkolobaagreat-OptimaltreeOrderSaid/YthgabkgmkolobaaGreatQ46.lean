/- The contract of layer 31's reference's Parse. The contract of layer 31's reference's .. -/
import Derived.Test.YthgabkgmkolobaaGreatQ45
import Derived.Test.YthgabkgmkolobaaGreatQ39
set_option maxRecDepth 100000
set_option maxHeartbeats 4000000
namespace Go.Proofs.YthgabkgmkolobaaGreat
section
open Go.RowKit Go.Deep
theorem Jl {s:List UInt8} (h:∀r,gZ s≠some (r,[59])):jM s=none:=by
 cases e:jM s with
 | none=>rfl
 | some r=>exact absurd (DF.2 e) (h r)
theorem MI (w:World) (s:ByteArray) (hs:s.size<=1000):Calls Tryz.prog 146 #[.string s] w (yZ w s):=by
 have hrb:=jv (w:=w) (P:=.slice none 0 0) (N:=.slice none 0 0) (T:=39);have hu:=Up.alloc w (.cells #[.slice none 0 0,.slice none 0 0] 39);have hsz:(w.alloc (.cells #[.slice none 0 0,.slice none 0 0] 39)).heap.size=w.heap.size+1:=aL _ _;have HU:=aa hu;have dm:=aa hsz;have mI:=aa hrb;have kV:=aa hs;have d1:decide ((65536:Int)<(s.size:Int))=false:=decide_eq_false (by omega);have S9:¬65536<s.size:=by omega
 have PM:=aa (fun W=>Ff s.size s rfl hs W 0 (by omega));clear hrb hu hsz hs
 go_enter Tryz.func146,Tryz.ntmps146
 go_wp2_with fail;clear d1 S9;generalize w.alloc (.cells #[.slice none 0 0,.slice none 0 0] 39)=w1 at *;refine (PM.out w1).mono ?_;rintro e w2 ⟨aJ,hm⟩;have bY:=aa (HU.out.trans aJ);have ki:=aa ((bH aJ w.heap.size (by rw [dm.out];omega)).trans mI.out);have mM:Hid (w.heap.size+1<=w2.heap.size):=by have:=aJ.size;rw [dm.out] at this;exact this
 clear aJ PM HU dm mI;cases hr:gZ s.data.toList with
 | none =>
  rw [hr] at hm;subst hm;have HST:=aa (kz bY.out ki.out (Jl fun r e=>by rw [hr] at e;cases e));obtain ⟨q0,q1,q2,q3⟩:=boxed ki.out;clear hr;go_wp2_with fail;obtain ⟨s1,s2,s3⟩:=HST.out;exact ⟨rfl,.tuple #[.agg #[.slice none 0 0,.slice none 0 0],.int .i64 3],by simp [results,Tryz.results146,go_sem,s1,s2],s3⟩
 | some q =>
  obtain ⟨r,l⟩:=q;rw [hr] at hm;obtain ⟨v2,rfl,hr2⟩:=hm;obtain ⟨b2,rfl⟩:=pY hr2;by_cases hl:l=[59]
  ·subst hl
   have mY:jM s.data.toList=some r:=DF.1 hr;(have iO:s.data.toList.length=s.size:=by rw [sj];rfl);obtain ⟨Cs,Ct,ET⟩:=yX mY;have PN:=Jj hr;rw [iO] at Cs Ct PN;(have Hv:Hid ((flat r).ps.length<=1000000):=by unfold Hid;have:=kV.out;omega);(have Hw:Hid ((flat r).ns.length<=1000000):=by unfold Hid;have:=kV.out;omega);(have Hx:Hid (∀k,(gs (flat r).ns k).size<=70000):=fun j=>by have:=ET j;rw [iO] at this;have:=kV.out;omega);have nV:=aa (A9 _ w2 _ r hr2 (by have:=kV.out;omega));have xR:=aa mY
   (have t1:(bL [59]).toList=[59]:=by rw [toList_data];rfl);(have t2:((bL [59]).toList==[59])=true:=by rw [t1];rfl);generalize bL [59]=ub at *;obtain ⟨q0,q1,q2,q3⟩:=boxed ki.out;clear Cs Ct ET PN iO mY hr hr2;go_wp2_with fail;refine nV.out.mono ?_;rintro e w4 ⟨dQ,_,rfl,P4,N4,rfl,fD,fE⟩;obtain ⟨pp,pc,rfl,-,-⟩:=aA.open fD;obtain ⟨np,nc,rfl,-,-⟩:=aA.open fE;have fD:ay _ w4 (.slice pp (flat r).ps.length pc) (flat r).ps:=fD;have fE:av _ w4 (.slice np (flat r).ns.length nc) (flat r).ns:=fE
   have bq:=Up.alloc w4 (.cells #[.slice pp (flat r).ps.length pc,.slice np (flat r).ns.length nc] 39);have b0:=fO w4 (.slice pp (flat r).ps.length pc) (.slice np (flat r).ns.length nc) 39;have b1:=fP w4 (.slice pp (flat r).ps.length pc) (.slice np (flat r).ns.length nc) 39;have jK:=aa b0;have gT:=aa b1;have y5:=(bH (dQ.trans bq) w.heap.size (by have:=mM.out;omega)).trans ki.out;have Hy:=aa y5;have Hz:=aa (bY.out.trans (dQ.trans bq))
   have tB:Hid (aC (fun b=>w2.heap.size<=b) (w4.alloc (.cells #[.slice pp (flat r).ps.length pc,.slice np (flat r).ns.length nc] 39)) (.agg #[.slice pp (flat r).ps.length pc,.slice np (flat r).ns.length nc]) (flat r)):=aC.keep ⟨_,_,rfl,fD,fE⟩ (bq.kept _);have ir:=aa (wY _ _ _ (flat r) tB.out Hv.out Hw.out Hx.out);have OJ:Hid (w2.heap.size<=(w4.alloc (.cells #[.slice pp (flat r).ps.length pc,.slice np (flat r).ns.length nc] 39)).heap.size):=(dQ.trans bq).size;clear dQ fD fE bq nV y5 ki bY q0 q1 q2 q3 t1 t2;go_wp2_with fail
   generalize w4.alloc (.cells #[.slice pp (flat r).ps.length pc,.slice np (flat r).ns.length nc] 39)=w5 at *;refine ir.out.mono ?_;rintro e w6 ⟨rfl,fB⟩;have fB:Up w5 w6:=fB;have b0:=fB.cell jK.out;have b1:=fB.cell gT.out;have tC:=(bH fB w.heap.size (by have:=mM.out;have:=OJ.out;omega)).trans Hy.out;have Bc:=aa tC;have Bd:=aa (Hz.out.trans fB);have EU:=aa (tB.out.keep (fB.kept _));obtain ⟨q0,q1,q2,q3⟩:=boxed tC;have y6:Hid (ux s=aB (flat r)):=by unfold Hid ux;rw [xR.out]
   (have vL:Hid (rE s=if aB (flat r)≠0 then ⟨[],[]⟩ else flat r):=by unfold Hid rE;rw [xR.out]);clear fB tC ir;by_cases he:aB (flat r)=0
   ·have Bf:Hid (rE s=flat r):=by unfold Hid;rw [vL.out,if_neg (by simp [he])]
    (have Rx:Hid (ux s=0):=by unfold Hid;rw [y6.out,he]);rw [he];have HST:=aa (eW (w:=w) (p:=.slice pp (flat r).ps.length pc) (q:=.slice np (flat r).ns.length nc) Bc.out (ah _) Bd.out);clear he;go_wp2_with fail;obtain ⟨s1,s2,s3,s4⟩:=HST.out;obtain ⟨P7,N7,e7,BV,OL⟩:=EU.out;(have e8:P7=.slice pp (flat r).ps.length pc/\N7=.slice np (flat r).ns.length nc:=by injection e7 with e7;have:=congrArg Array.toList e7;simp at this;exact ⟨this.1.symm,this.2.symm⟩);obtain ⟨rfl,rfl⟩:=e8;have hsw:=mM.out
    refine ⟨rfl,.tuple #[.agg #[.slice pp (flat r).ps.length pc,.slice np (flat r).ns.length nc],.int .i64 0],by simp [results,Tryz.results146,go_sem,s2,s3],?_⟩;refine ⟨s1,_,by rw [Rx.out],?_⟩;rw [Bf.out];exact ⟨_,_,rfl,(ay.keep BV fun b hb _=>s4 b (by have:w2.heap.size<=b:=hb;omega)).sub fun _ _ _=>trivial,(av.keep OL fun b hb _=>s4 b (by have:w2.heap.size<=b:=hb;omega)).sub fun _ _ _=>trivial⟩
   ·have B5:(aB (flat r) != 0)=true:=by simpa using he
    (have Bf:Hid (rE s=⟨[],[]⟩):=by unfold Hid;rw [vL.out,if_pos he]);have HST:=aa (eW (w:=w) (p:=.slice none 0 0) (q:=.slice none 0 0) Bc.out (ah _) Bd.out);clear he;generalize hte:aB (flat r)=te at *;go_wp2_with fail;obtain ⟨s1,s2,s3,s4⟩:=HST.out;refine ⟨rfl,.tuple #[.agg #[.slice none 0 0,.slice none 0 0],.int .i64 te],by simp [results,Tryz.results146,go_sem,s2,s3],?_⟩;refine ⟨s1,_,by rw [y6.out],?_⟩;rw [Bf.out];exact Bb _
  ·have HST:=aa (kz bY.out ki.out (Jl fun r' e=>by rw [hr] at e;injection e with e;injection e with _ e;exact hl e))
   obtain ⟨q0,q1,q2,q3⟩:=boxed ki.out;(have t1:((bL l).toList==[59])=false:=by rw [beq_eq_false_iff_ne,toList_data];exact hl);(have t2:¬(bL l).toList=[59]:=by rw [toList_data];exact hl);clear hr hr2 hl;generalize bL l=ub at *;go_wp2_with fail;obtain ⟨s1,s2,s3⟩:=HST.out;exact ⟨rfl,.tuple #[.agg #[.slice none 0 0,.slice none 0 0],.int .i64 3],by simp [results,Tryz.results146,go_sem,s1,s2],s3⟩
theorem JV (w:World) (s:ByteArray) (hs:s.size<=1000) {r:RT} (YE:jM s.data.toList=some r) (he0:aB (flat r)=0):Calls Tryz.prog 146 #[.string s] w fun e w'=>Up w w'/\∃v,e=.returned (.tuple #[v,.int .i64 0])/\aC (fun b=>w.heap.size<=b) w' v (flat r):=by
 have Yz:=aa he0;have YF:=aa YE;clear he0 YE;have hrb:=jv (w:=w) (P:=.slice none 0 0) (N:=.slice none 0 0) (T:=39);have hu:=Up.alloc w (.cells #[.slice none 0 0,.slice none 0 0] 39);have hsz:(w.alloc (.cells #[.slice none 0 0,.slice none 0 0] 39)).heap.size=w.heap.size+1:=aL _ _;have HU:=aa hu;have dm:=aa hsz;have mI:=aa hrb;have kV:=aa hs;have d1:decide ((65536:Int)<(s.size:Int))=false:=decide_eq_false (by omega);have S9:¬65536<s.size:=by omega
 have PM:=aa (fun W=>Ff s.size s rfl hs W 0 (by omega));clear hrb hu hsz hs
 go_enter Tryz.func146,Tryz.ntmps146
 go_wp2_with fail;clear d1 S9;generalize w.alloc (.cells #[.slice none 0 0,.slice none 0 0] 39)=w1 at *;refine (PM.out w1).mono ?_;rintro e w2 ⟨aJ,hm⟩;have bY:=aa (HU.out.trans aJ);have ki:=aa ((bH aJ w.heap.size (by rw [dm.out];omega)).trans mI.out);have mM:Hid (w.heap.size+1<=w2.heap.size):=by have:=aJ.size;rw [dm.out] at this;exact this
 clear aJ PM HU dm mI;have hr:gZ s.data.toList=some (r,[59]):=DF.2 YF.out;rw [hr] at hm;obtain ⟨v2,rfl,hr2⟩:=hm;obtain ⟨b2,rfl⟩:=pY hr2;have mY:jM s.data.toList=some r:=YF.out;have iO:s.data.toList.length=s.size:=by rw [sj];rfl
 obtain ⟨Cs,Ct,ET⟩:=yX mY;have PN:=Jj hr;rw [iO] at Cs Ct PN;have Hv:Hid ((flat r).ps.length<=1000000):=by unfold Hid;have:=kV.out;omega
 have Hw:Hid ((flat r).ns.length<=1000000):=by unfold Hid;have:=kV.out;omega
 have Hx:Hid (∀k,(gs (flat r).ns k).size<=70000):=fun j=>by have:=ET j;rw [iO] at this;have:=kV.out;omega
 have nV:=aa (A9 _ w2 _ r hr2 (by have:=kV.out;omega));have xR:=aa mY;have t1:(bL [59]).toList=[59]:=by rw [toList_data];rfl
 have t2:((bL [59]).toList==[59])=true:=by rw [t1];rfl
 generalize bL [59]=ub at *;obtain ⟨q0,q1,q2,q3⟩:=boxed ki.out;clear Cs Ct ET PN iO mY hr hr2;go_wp2_with fail;refine nV.out.mono ?_;rintro e w4 ⟨dQ,_,rfl,P4,N4,rfl,fD,fE⟩;obtain ⟨pp,pc,rfl,-,-⟩:=aA.open fD;obtain ⟨np,nc,rfl,-,-⟩:=aA.open fE;have fD:ay _ w4 (.slice pp (flat r).ps.length pc) (flat r).ps:=fD;have fE:av _ w4 (.slice np (flat r).ns.length nc) (flat r).ns:=fE;have bq:=Up.alloc w4 (.cells #[.slice pp (flat r).ps.length pc,.slice np (flat r).ns.length nc] 39);have b0:=fO w4 (.slice pp (flat r).ps.length pc) (.slice np (flat r).ns.length nc) 39
 have b1:=fP w4 (.slice pp (flat r).ps.length pc) (.slice np (flat r).ns.length nc) 39;have jK:=aa b0;have gT:=aa b1;have y5:=(bH (dQ.trans bq) w.heap.size (by have:=mM.out;omega)).trans ki.out;have Hy:=aa y5;have Hz:=aa (bY.out.trans (dQ.trans bq));have tB:Hid (aC (fun b=>w2.heap.size<=b) (w4.alloc (.cells #[.slice pp (flat r).ps.length pc,.slice np (flat r).ns.length nc] 39)) (.agg #[.slice pp (flat r).ps.length pc,.slice np (flat r).ns.length nc]) (flat r)):=aC.keep ⟨_,_,rfl,fD,fE⟩ (bq.kept _)
 have ir:=aa (wY _ _ _ (flat r) tB.out Hv.out Hw.out Hx.out);have OJ:Hid (w2.heap.size<=(w4.alloc (.cells #[.slice pp (flat r).ps.length pc,.slice np (flat r).ns.length nc] 39)).heap.size):=(dQ.trans bq).size;clear dQ fD fE bq nV y5 ki bY q0 q1 q2 q3 t1 t2;go_wp2_with fail;generalize w4.alloc (.cells #[.slice pp (flat r).ps.length pc,.slice np (flat r).ns.length nc] 39)=w5 at *;refine ir.out.mono ?_;rintro e w6 ⟨rfl,fB⟩;have fB:Up w5 w6:=fB;have b0:=fB.cell jK.out;have b1:=fB.cell gT.out
 have tC:=(bH fB w.heap.size (by have:=mM.out;have:=OJ.out;omega)).trans Hy.out;have Bc:=aa tC;have Bd:=aa (Hz.out.trans fB);have EU:=aa (tB.out.keep (fB.kept _));obtain ⟨q0,q1,q2,q3⟩:=boxed tC;clear fB tC ir;rw [Yz.out];have HST:=aa (eW (w:=w) (p:=.slice pp (flat r).ps.length pc) (q:=.slice np (flat r).ns.length nc) Bc.out (ah _) Bd.out);go_wp2_with fail;obtain ⟨s1,s2,s3,s4⟩:=HST.out;obtain ⟨P7,N7,e7,BV,OL⟩:=EU.out
 have e8:P7=.slice pp (flat r).ps.length pc/\N7=.slice np (flat r).ns.length nc:=by injection e7 with e7;have:=congrArg Array.toList e7;simp at this;exact ⟨this.1.symm,this.2.symm⟩
 obtain ⟨rfl,rfl⟩:=e8;have hsw:=mM.out;refine ⟨rfl,.tuple #[.agg #[.slice pp (flat r).ps.length pc,.slice np (flat r).ns.length nc],.int .i64 0],by simp [results,Tryz.results146,go_sem,s2,s3],?_⟩;refine ⟨s1,_,rfl,?_⟩;exact ⟨_,_,rfl,(ay.keep BV fun b hb _=>s4 b (by have:w2.heap.size<=b:=hb;omega)).sub fun b hb _=>by have:w2.heap.size<=b:=hb;omega,(av.keep OL fun b hb _=>s4 b (by have:w2.heap.size<=b:=hb;omega)).sub fun b hb _=>by have:w2.heap.size<=b:=hb;omega⟩
structure xF (w:World) (B:Nat) (W:World) (t:aF):Prop where
 up:Up w W
 lo:w.heap.size<=B/\B<W.heap.size
 ex:∃pp pc np nc,W.heap[B]? = some (Obj.cells #[.slice pp t.ps.length pc,.slice np t.ns.length nc] 39 (0,0))/\aC (fun b=>b≠B) W (.agg #[.slice pp t.ps.length pc,.slice np t.ns.length nc]) t
theorem JW {w4:World} {B:Nat} {x y p q:Value} {T:TypeId} (hb:w4.heap[B]? = some (Obj.cells #[x,y] T (0,0))):((w4.setCell ⟨B,0,none⟩ p).setCell ⟨B,1,none⟩ q).heap[B]? = some (Obj.cells #[p,q] T (0,0)):=by
 simp [World.setCell,Array.getElem?_modify,hb]
theorem xF.Jm {w w4:World} {B:Nat} {x y:Value} {t:aF} {pp np:Option Addr} {pc nc:Nat} (hb:w4.heap[B]? = some (Obj.cells #[x,y] 39 (0,0))) (hB:w.heap.size<=B) (hu:Up w w4) (hT:aC (fun b=>b≠B) w4 (.agg #[.slice pp t.ps.length pc,.slice np t.ns.length nc]) t) :
  xF w B ((w4.setCell ⟨B,0,none⟩ (.slice pp t.ps.length pc)).setCell ⟨B,1,none⟩ (.slice np t.ns.length nc)) t:=by
 obtain ⟨s1,_,_,s4⟩:=eW (p:=.slice pp t.ps.length pc) (q:=.slice np t.ns.length nc) hb hB hu;have hlt:=(fW.1 hb).1;refine ⟨s1,⟨hB,by simpa using hlt⟩,pp,pc,np,nc,JW hb,hT.keep fun b hb _=>s4 b hb⟩
theorem xF.Sc {w w2:World} {t:aF} {pp np:Option Addr} {pc nc:Nat} (hu:Up w w2) (hT:aC Any w2 (.agg #[.slice pp t.ps.length pc,.slice np t.ns.length nc]) t):xF w w2.heap.size (w2.alloc (.cells #[.slice pp t.ps.length pc,.slice np t.ns.length nc] 39)) t:=by
 have bq:=Up.alloc w2 (.cells #[.slice pp t.ps.length pc,.slice np t.ns.length nc] 39);refine ⟨hu.trans bq,⟨hu.size,by rw [aL];omega⟩,pp,pc,np,nc,jv,?_⟩;exact ((hT.sub fun b _ hl=>(show b<w2.heap.size from hl)).keep (bq.kept _)).sub fun b hb _=>by omega
theorem JX {W:World} {B:Nat} {v:Value} {xs:List Int} (h:ay Any W v xs) (hb:W.heap[B]? = some (Obj.cells #[.slice none 0 0,.slice none 0 0] 39 (0,0))):ay (fun b=>b≠B) W v xs:=by
 obtain ⟨p,c,e,hc,h⟩:=h;refine ⟨p,c,e,hc,?_⟩;rcases h with h | ⟨b,off,e2,_,h⟩
 ·exact .inl h
 ·by_cases h0:xs.length=0
  ·exact .inl h0
  ·refine .inr ⟨b,off,e2,fun eb=>?_,h⟩
   subst eb;have h1:=h 0 (by omega);rw [nA] at h1;simp only [World.cell?,hb] at h1
   match off,h1 with
   | 0,h1=>simp at h1
   | 1,h1=>simp at h1
   | off+2,h1=>simp at h1
theorem JY {W:World} {B:Nat} {v:Value} {xs:List ByteArray} (h:av Any W v xs) (hb:W.heap[B]? = some (Obj.cells #[.slice none 0 0,.slice none 0 0] 39 (0,0))):av (fun b=>b≠B) W v xs:=by
 obtain ⟨p,c,e,hc,h⟩:=h;refine ⟨p,c,e,hc,?_⟩;rcases h with h | ⟨b,off,e2,_,h⟩
 ·exact .inl h
 ·by_cases h0:xs.length=0
  ·exact .inl h0
  ·refine .inr ⟨b,off,e2,fun eb=>?_,h⟩
   subst eb;have h1:=h 0 (by omega);rw [nA] at h1;simp only [World.cell?,hb] at h1
   match off,h1 with
   | 0,h1=>simp at h1
   | 1,h1=>simp at h1
   | off+2,h1=>simp at h1
theorem JZ {W:World} {B:Nat} {v:Value} {t:aF} (h:aC Any W v t) (hb:W.heap[B]? = some (Obj.cells #[.slice none 0 0,.slice none 0 0] 39 (0,0))):aC (fun b=>b≠B) W v t:=by
 obtain ⟨P,N,e,hP,hN⟩:=h;exact ⟨P,N,e,JX hP hb,JY hN hb⟩
end
end Go.Proofs.YthgabkgmkolobaaGreat
