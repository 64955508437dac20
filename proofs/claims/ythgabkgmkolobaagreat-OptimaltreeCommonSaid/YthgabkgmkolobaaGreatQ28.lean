/- The contract of layer 31's reference's Parse. The contract of layer 31's reference's .. -/
import Derived.Test.YthgabkgmkolobaaGreatQ27
import Derived.Test.YthgabkgmkolobaaGreatQ26
set_option maxRecDepth 100000
set_option maxHeartbeats 8000000
namespace Go.Proofs.YthgabkgmkolobaaGreat
section
open Go.RowKit Go.Deep
theorem VH {s:List UInt8} (h:∀r,mN s≠some (r,[59])):qw s=none:=by
 cases e:qw s with
 | none=>rfl
 | some r=>exact absurd (PA.2 e) (h r)
theorem parse31R_t (w:World) (s:ByteArray) (hs:s.size<=1000):Calls Tryz.prog 146 #[.string s] w (I6 w s):=by
 have hrb:=gp (w:=w) (P:=.slice none 0 0) (N:=.slice none 0 0) (T:=39);have hu:=Up.alloc w (.cells #[.slice none 0 0,.slice none 0 0] 39);have hsz:(w.alloc (.cells #[.slice none 0 0,.slice none 0 0] 39)).heap.size=w.heap.size+1:=aQ _ _;have HU:=aa hu;have fA:=aa hsz;have lJ:=aa hrb;have kP:=aa hs;have d1:decide ((65536:Int)<(s.size:Int))=false:=decide_eq_false (by omega);have d1n:¬65536<s.size:=by omega
 have VI:=aa (fun W=>RM s.size s rfl hs W 0 (by omega));clear hrb hu hsz hs
 go_enter Tryz.func146,Tryz.ntmps146
 go_wp2_with fail;clear d1 d1n;generalize w.alloc (.cells #[.slice none 0 0,.slice none 0 0] 39)=w1 at *;refine (VI.out w1).mono ?_;rintro e w2 ⟨aK,hm⟩;have bD:=aa (HU.out.trans aK);have mP:=aa ((bI aK w.heap.size (by rw [fA.out];omega)).trans lJ.out);have oQ:Hid (w.heap.size+1<=w2.heap.size):=by have:=aK.size;rw [fA.out] at this;exact this
 clear aK VI HU fA lJ;cases hr:mN s.data.toList with
 | none =>
  rw [hr] at hm;subst hm;have HST:=aa (qN bD.out mP.out (VH fun r e=>by rw [hr] at e;cases e));obtain ⟨q0,q1,q2,q3⟩:=boxed mP.out;clear hr;go_wp2_with fail;obtain ⟨s1,s2,s3⟩:=HST.out;exact ⟨rfl,.tuple #[.agg #[.slice none 0 0,.slice none 0 0],.int .i64 3],by simp [results,Tryz.results146,go_sem,s1,s2],s3⟩
 | some q =>
  obtain ⟨r,l⟩:=q;rw [hr] at hm;obtain ⟨v2,rfl,hr2⟩:=hm;obtain ⟨b2,rfl⟩:=xZ hr2;by_cases hl:l=[59]
  ·subst hl
   have za:qw s.data.toList=some r:=PA.1 hr;(have jf:s.data.toList.length=s.size:=by rw [Bh];rfl);obtain ⟨NX,NY,Rk⟩:=IX za;have hsr:=VF hr;rw [jf] at NX NY hsr;(have UT:Hid ((flat r).ps.length<=1000000):=by unfold Hid;have:=kP.out;omega);(have UU:Hid ((flat r).ns.length<=1000000):=by unfold Hid;have:=kP.out;omega);(have UW:Hid (∀k,(gs (flat r).ns k).size<=70000):=fun j=>by have:=Rk j;rw [jf] at this;have:=kP.out;omega);have uk:=aa (LN _ w2 _ r hr2 (by have:=kP.out;omega));have zV:=aa za
   (have t1:(bL [59]).toList=[59]:=by rw [toList_data];rfl);(have t2:((bL [59]).toList==[59])=true:=by rw [t1];rfl);generalize bL [59]=ub at *;obtain ⟨q0,q1,q2,q3⟩:=boxed mP.out;clear NX NY Rk hsr jf za hr hr2;go_wp2_with fail;refine uk.out.mono ?_;rintro e w4 ⟨di,_,rfl,P4,N4,rfl,iB,iC⟩;obtain ⟨pp,pc,rfl,-,-⟩:=ay.open iB;obtain ⟨np,nc,rfl,-,-⟩:=ay.open iC;have iB:ah _ w4 (.slice pp (flat r).ps.length pc) (flat r).ps:=iB;have iC:au _ w4 (.slice np (flat r).ns.length nc) (flat r).ns:=iC
   have cE:=Up.alloc w4 (.cells #[.slice pp (flat r).ps.length pc,.slice np (flat r).ns.length nc] 39);have b0:=iU w4 (.slice pp (flat r).ps.length pc) (.slice np (flat r).ns.length nc) 39;have b1:=iV w4 (.slice pp (flat r).ps.length pc) (.slice np (flat r).ns.length nc) 39;have mX:=aa b0;have lK:=aa b1;have zH:=(bI (di.trans cE) w.heap.size (by have:=oQ.out;omega)).trans mP.out;have UX:=aa zH;have UY:=aa (bD.out.trans (di.trans cE))
   have uQ:Hid (aI (fun b=>w2.heap.size<=b) (w4.alloc (.cells #[.slice pp (flat r).ps.length pc,.slice np (flat r).ns.length nc] 39)) (.agg #[.slice pp (flat r).ps.length pc,.slice np (flat r).ns.length nc]) (flat r)):=aI.keep ⟨_,_,rfl,iB,iC⟩ (cE.kept _);have gy:=aa (BW _ _ _ (flat r) uQ.out UT.out UU.out UW.out);have xy:Hid (w2.heap.size<=(w4.alloc (.cells #[.slice pp (flat r).ps.length pc,.slice np (flat r).ns.length nc] 39)).heap.size):=(di.trans cE).size;clear di iB iC cE uk zH mP bD q0 q1 q2 q3 t1 t2;go_wp2_with fail
   generalize w4.alloc (.cells #[.slice pp (flat r).ps.length pc,.slice np (flat r).ns.length nc] 39)=w5 at *;refine gy.out.mono ?_;rintro e w6 ⟨rfl,dL⟩;have dL:Up w5 w6:=dL;have b0:=dL.cell mX.out;have b1:=dL.cell lK.out;have tB:=(bI dL w.heap.size (by have:=oQ.out;have:=xy.out;omega)).trans UX.out;have B5:=aa tB;have LU:=aa (UY.out.trans dL);have Dg:=aa (uQ.out.keep (dL.kept _));obtain ⟨q0,q1,q2,q3⟩:=boxed tB;have I7:Hid (Df s=aH (flat r)):=by unfold Hid Df;rw [zV.out]
   (have EG:Hid (zU s=if aH (flat r)≠0 then ⟨[],[]⟩ else flat r):=by unfold Hid zU;rw [zV.out]);clear dL tB gy;by_cases he:aH (flat r)=0
   ·have LV:Hid (zU s=flat r):=by unfold Hid;rw [EG.out,if_neg (by simp [he])]
    (have HPE0:Hid (Df s=0):=by unfold Hid;rw [I7.out,he]);rw [he];have HST:=aa (gq (w:=w) (p:=.slice pp (flat r).ps.length pc) (q:=.slice np (flat r).ns.length nc) B5.out (af _) LU.out);clear he;go_wp2_with fail;obtain ⟨s1,s2,s3,s4⟩:=HST.out;obtain ⟨P7,N7,e7,Nj,hN7⟩:=Dg.out;(have e8:P7=.slice pp (flat r).ps.length pc/\N7=.slice np (flat r).ns.length nc:=by injection e7 with e7;have:=congrArg Array.toList e7;simp at this;exact ⟨this.1.symm,this.2.symm⟩);obtain ⟨rfl,rfl⟩:=e8;have hsw:=oQ.out
    refine ⟨rfl,.tuple #[.agg #[.slice pp (flat r).ps.length pc,.slice np (flat r).ns.length nc],.int .i64 0],by simp [results,Tryz.results146,go_sem,s2,s3],?_⟩;refine ⟨s1,_,by rw [HPE0.out],?_⟩;rw [LV.out];exact ⟨_,_,rfl,(ah.keep Nj fun b hb _=>s4 b (by have:w2.heap.size<=b:=hb;omega)).sub fun _ _ _=>trivial,(au.keep hN7 fun b hb _=>s4 b (by have:w2.heap.size<=b:=hb;omega)).sub fun _ _ _=>trivial⟩
   ·have Nu:(aH (flat r) != 0)=true:=by simpa using he
    (have LV:Hid (zU s=⟨[],[]⟩):=by unfold Hid;rw [EG.out,if_pos he]);have HST:=aa (gq (w:=w) (p:=.slice none 0 0) (q:=.slice none 0 0) B5.out (af _) LU.out);clear he;generalize hte:aH (flat r)=te at *;go_wp2_with fail;obtain ⟨s1,s2,s3,s4⟩:=HST.out;refine ⟨rfl,.tuple #[.agg #[.slice none 0 0,.slice none 0 0],.int .i64 te],by simp [results,Tryz.results146,go_sem,s2,s3],?_⟩;refine ⟨s1,_,by rw [I7.out],?_⟩;rw [LV.out];exact x6 _
  ·have HST:=aa (qN bD.out mP.out (VH fun r' e=>by rw [hr] at e;injection e with e;injection e with _ e;exact hl e))
   obtain ⟨q0,q1,q2,q3⟩:=boxed mP.out;(have t1:((bL l).toList==[59])=false:=by rw [beq_eq_false_iff_ne,toList_data];exact hl);(have t2:¬(bL l).toList=[59]:=by rw [toList_data];exact hl);clear hr hr2 hl;generalize bL l=ub at *;go_wp2_with fail;obtain ⟨s1,s2,s3⟩:=HST.out;exact ⟨rfl,.tuple #[.agg #[.slice none 0 0,.slice none 0 0],.int .i64 3],by simp [results,Tryz.results146,go_sem,s1,s2],s3⟩
theorem XY (w:World) (s:ByteArray) (hs:s.size<=1000) {r:RT} (hpr0:qw s.data.toList=some r) (he0:aH (flat r)=0):Calls Tryz.prog 146 #[.string s] w fun e w'=>Up w w'/\∃v,e=.returned (.tuple #[v,.int .i64 0])/\aI (fun b=>w.heap.size<=b) w' v (flat r):=by
 have Hi:=aa he0;have HPR0:=aa hpr0;clear he0 hpr0;have hrb:=gp (w:=w) (P:=.slice none 0 0) (N:=.slice none 0 0) (T:=39);have hu:=Up.alloc w (.cells #[.slice none 0 0,.slice none 0 0] 39);have hsz:(w.alloc (.cells #[.slice none 0 0,.slice none 0 0] 39)).heap.size=w.heap.size+1:=aQ _ _;have HU:=aa hu;have fA:=aa hsz;have lJ:=aa hrb;have kP:=aa hs;have d1:decide ((65536:Int)<(s.size:Int))=false:=decide_eq_false (by omega);have d1n:¬65536<s.size:=by omega
 have VI:=aa (fun W=>RM s.size s rfl hs W 0 (by omega));clear hrb hu hsz hs
 go_enter Tryz.func146,Tryz.ntmps146
 go_wp2_with fail;clear d1 d1n;generalize w.alloc (.cells #[.slice none 0 0,.slice none 0 0] 39)=w1 at *;refine (VI.out w1).mono ?_;rintro e w2 ⟨aK,hm⟩;have bD:=aa (HU.out.trans aK);have mP:=aa ((bI aK w.heap.size (by rw [fA.out];omega)).trans lJ.out);have oQ:Hid (w.heap.size+1<=w2.heap.size):=by have:=aK.size;rw [fA.out] at this;exact this
 clear aK VI HU fA lJ;have hr:mN s.data.toList=some (r,[59]):=PA.2 HPR0.out;rw [hr] at hm;obtain ⟨v2,rfl,hr2⟩:=hm;obtain ⟨b2,rfl⟩:=xZ hr2;have za:qw s.data.toList=some r:=HPR0.out;have jf:s.data.toList.length=s.size:=by rw [Bh];rfl
 obtain ⟨NX,NY,Rk⟩:=IX za;have hsr:=VF hr;rw [jf] at NX NY hsr;have UT:Hid ((flat r).ps.length<=1000000):=by unfold Hid;have:=kP.out;omega
 have UU:Hid ((flat r).ns.length<=1000000):=by unfold Hid;have:=kP.out;omega
 have UW:Hid (∀k,(gs (flat r).ns k).size<=70000):=fun j=>by have:=Rk j;rw [jf] at this;have:=kP.out;omega
 have uk:=aa (LN _ w2 _ r hr2 (by have:=kP.out;omega));have zV:=aa za;have t1:(bL [59]).toList=[59]:=by rw [toList_data];rfl
 have t2:((bL [59]).toList==[59])=true:=by rw [t1];rfl
 generalize bL [59]=ub at *;obtain ⟨q0,q1,q2,q3⟩:=boxed mP.out;clear NX NY Rk hsr jf za hr hr2;go_wp2_with fail;refine uk.out.mono ?_;rintro e w4 ⟨di,_,rfl,P4,N4,rfl,iB,iC⟩;obtain ⟨pp,pc,rfl,-,-⟩:=ay.open iB;obtain ⟨np,nc,rfl,-,-⟩:=ay.open iC;have iB:ah _ w4 (.slice pp (flat r).ps.length pc) (flat r).ps:=iB;have iC:au _ w4 (.slice np (flat r).ns.length nc) (flat r).ns:=iC;have cE:=Up.alloc w4 (.cells #[.slice pp (flat r).ps.length pc,.slice np (flat r).ns.length nc] 39);have b0:=iU w4 (.slice pp (flat r).ps.length pc) (.slice np (flat r).ns.length nc) 39
 have b1:=iV w4 (.slice pp (flat r).ps.length pc) (.slice np (flat r).ns.length nc) 39;have mX:=aa b0;have lK:=aa b1;have zH:=(bI (di.trans cE) w.heap.size (by have:=oQ.out;omega)).trans mP.out;have UX:=aa zH;have UY:=aa (bD.out.trans (di.trans cE));have uQ:Hid (aI (fun b=>w2.heap.size<=b) (w4.alloc (.cells #[.slice pp (flat r).ps.length pc,.slice np (flat r).ns.length nc] 39)) (.agg #[.slice pp (flat r).ps.length pc,.slice np (flat r).ns.length nc]) (flat r)):=aI.keep ⟨_,_,rfl,iB,iC⟩ (cE.kept _)
 have gy:=aa (BW _ _ _ (flat r) uQ.out UT.out UU.out UW.out);have xy:Hid (w2.heap.size<=(w4.alloc (.cells #[.slice pp (flat r).ps.length pc,.slice np (flat r).ns.length nc] 39)).heap.size):=(di.trans cE).size;clear di iB iC cE uk zH mP bD q0 q1 q2 q3 t1 t2;go_wp2_with fail;generalize w4.alloc (.cells #[.slice pp (flat r).ps.length pc,.slice np (flat r).ns.length nc] 39)=w5 at *;refine gy.out.mono ?_;rintro e w6 ⟨rfl,dL⟩;have dL:Up w5 w6:=dL;have b0:=dL.cell mX.out;have b1:=dL.cell lK.out
 have tB:=(bI dL w.heap.size (by have:=oQ.out;have:=xy.out;omega)).trans UX.out;have B5:=aa tB;have LU:=aa (UY.out.trans dL);have Dg:=aa (uQ.out.keep (dL.kept _));obtain ⟨q0,q1,q2,q3⟩:=boxed tB;clear dL tB gy;rw [Hi.out];have HST:=aa (gq (w:=w) (p:=.slice pp (flat r).ps.length pc) (q:=.slice np (flat r).ns.length nc) B5.out (af _) LU.out);go_wp2_with fail;obtain ⟨s1,s2,s3,s4⟩:=HST.out;obtain ⟨P7,N7,e7,Nj,hN7⟩:=Dg.out
 have e8:P7=.slice pp (flat r).ps.length pc/\N7=.slice np (flat r).ns.length nc:=by injection e7 with e7;have:=congrArg Array.toList e7;simp at this;exact ⟨this.1.symm,this.2.symm⟩
 obtain ⟨rfl,rfl⟩:=e8;have hsw:=oQ.out;refine ⟨rfl,.tuple #[.agg #[.slice pp (flat r).ps.length pc,.slice np (flat r).ns.length nc],.int .i64 0],by simp [results,Tryz.results146,go_sem,s2,s3],?_⟩;refine ⟨s1,_,rfl,?_⟩;exact ⟨_,_,rfl,(ah.keep Nj fun b hb _=>s4 b (by have:w2.heap.size<=b:=hb;omega)).sub fun b hb _=>by have:w2.heap.size<=b:=hb;omega,(au.keep hN7 fun b hb _=>s4 b (by have:w2.heap.size<=b:=hb;omega)).sub fun b hb _=>by have:w2.heap.size<=b:=hb;omega⟩
def Mb (w:World) (aac:List ByteArray) (e:Ending) (w':World):Prop:=Up w w'/\∃v,e=.returned v/\fQ Any w' v (allT aac)
def AgI (w w2:World) (aac:List ByteArray) (n:Nat) (tv:Value) (wr:World):Prop :=
 ∃qs:List RT,zq (w.heap.size+1) w w2 wr tv (qs.map cz)/\qs.Perm (((ur aac.tail).take n).map (uR aac))/\qs.Pairwise kZ
def AgJ (w w2:World) (qs:List RT) (q:RT) (k:Nat) (tv:Value) (wr:World):Prop :=
 ∃j:ByteArray,zq (w.heap.size+1) w w2 wr tv (Ce (qs.map cz) k j)/\∀i,k<=i->i<qs.length->¬kZ (qs.getD i (.node ByteArray.empty [])) q
theorem rfs_gs {L:List ByteArray} {n:Nat} (h:n<(ur L).length):gs (dF L) n=qx (gB (ur L) n)/\gB (ur L) n∈r5 L:=by
 unfold gs gB dF;constructor
 ·simp [h]
 ·rw [(L3 L).mem_iff];simp [h]
theorem Kf {qs:List RT} {i:Nat} (h:i<qs.length):gs (qs.map cz) i=cz (qs.getD i (.node ByteArray.empty [])):=by simp [gs,h]
theorem key_le (y q:RT):kZ y q↔Op.bytesLess (cz y).toList (cz q).toList=true\/(cz y).toList=(cz q).toList:=by
 have e:∀r:RT,(cz r).toList=fq r:=fun r=>by rw [toList_data];unfold cz;simp
 rw [e,e,FV,decide_eq_true_iff];unfold kZ;constructor
 ·intro h
  by_cases h0:Lib.compareBytes (fq y) (fq q)=0
  ·exact .inr (xT h0)
  ·exact .inl (by omega)
 ·rintro (h | h)
  ·omega
  ·rw [h,FD];exact lT _
theorem key_yes {y q:RT} (h:(!Op.bytesLess (cz y).toList (cz q).toList)=false\/(!(cz y).toList==(cz q).toList)=false):kZ y q:=by
 rw [key_le];rcases h with h | h
 ·exact .inl (by simpa using h)
 ·exact .inr (by simpa using h)
theorem key_no {y q:RT} (h:(!Op.bytesLess (cz y).toList (cz q).toList)=true/\(!(cz y).toList==(cz q).toList)=true):¬kZ y q:=by
 rw [key_le];rintro (e | e)
 ·rw [e] at h;exact absurd h.1 (by decide)
 ·have:=h.2;rw [e] at this;simp at this
theorem allR34_t (S:Nat->Prop) (w:World) (v:Value) (aac:List ByteArray) (hok:gT aac) (h:au S w v aac):Calls Tryz.prog 105 #[v] w (Mb w aac):=by
 have hlo:=hok.lo;have hhi:=hok.hi;obtain ⟨p,cap,rfl,hcap,-⟩:=ay.open h;have h:au S w (.slice p aac.length cap) aac:=h;obtain ⟨nb,no,rfl,hc0⟩:=dr h (k:=0) (by omega);rw [jZ] at hc0;have hz:∀x∈aac,x.size<=20:=fun x hx=>tT (hok.nm x hx);have sU:=Up.alloc w (.cells #[] 9);have hs0:(w.alloc (.cells #[] 9)).heap.size=w.heap.size+1:=aQ _ _
 have KY:=aa (XX aac.tail.length aac.tail (af _) (by rw [yD];omega) (by rw [yD];omega) (fun x hx=>hz x (JU hx)) S (w.alloc (.cells #[] 9)) _ (Rw (au.keep h (sU.kept _)) hlo));have xK:=aa hok;have jx:=aa hc0;have HO0:=aa (ax.made w 9);have EZ:=aa sU;have HS0:=aa hs0;have zi:Hid (aac.tail.length<=4/\1<=aac.tail.length):=by unfold Hid;rw [yD];omega
 have HGZ:Hid ((gs aac 0).size<=20):=lF hz 0;have HZT:Hid (∀k,(gs (dF aac.tail) k).size<=100):=lF fun x hx=>L8 zi.out.1 (fun x hx=>hz x (JU hx)) hx;have ug:Hid ((dF aac.tail).length=(ur aac.tail).length/\(dF aac.tail).length<=15):=⟨by unfold dF;rw [aG],yh zi.out.1⟩;have i0:¬cap=1:=by omega
 have i1:(1:Int)<=(aac.length:Int):=by omega
 have i2:1<=aac.length:=by omega
 clear h hc0 hz hok hhi sU hs0
 go_enter Tryz.func105,Tryz.ntmps105
 go_wp2_with fail;generalize w.alloc (.cells #[] 9)=w1 at *;refine KY.out.mono ?_;rintro e w2 ⟨aK,tv,rfl,U8⟩;obtain ⟨tp,tc,rfl,-⟩:=U8.form (n:=(dF aac.tail).length) (by rw [aG]);have HTV:Hid (au (fun b=>w.heap.size+1<=b/\b<w2.heap.size) w2 (.slice tp (dF aac.tail).length tc) (dF aac.tail)):=U8.strs.sub fun b hb hl=>⟨by have:=HS0.out;omega,hl⟩
 have qP:Hid (AgI w w2 aac 0 (.slice (some ⟨w.heap.size,0,none⟩) 0 0) w2):=by refine ⟨[],⟨EZ.out.trans aK,⟨lz _,by have:=HS0.out;have:=aK.size;omega,af _⟩,HO0.out.fM fun b hb=>bI aK b (by have:=(av HO0.out hb).2;exact this),fun b hb=>.inl ?_,fun _ _ _=>rfl⟩,by simp,List.Pairwise.nil⟩;have hb:some w.heap.size=some b:=hb;injection hb with hb;omega
 clear U8 aK KY HO0 HS0;go_wp2_with fail
 go_loopw [3,5,6,7,8,9,10] (fun texts i _ _ _ _ _ wr=>∃n:Nat,n<=(dF aac.tail).length/\i=.int .i64 n/\Hid (AgI w w2 aac n texts wr)) (fun _ i _ _ _ _ _ _=>(dF aac.tail).length - (intOf i).toNat)
 case atStart=>exact ⟨0,aL _,rfl,qP.out⟩
 case round =>
  obtain ⟨n,hn,rfl,hI⟩:=hrel;obtain ⟨wo,rfl⟩:∃wo:World,wo=wr:=⟨_,rfl⟩;obtain ⟨qs,hA,hp,hs⟩:=hI.out;have i3:(0:Int)<=(n:Int):=by omega
  have hqn:qs.length<=15:=by have h1:=hp.length_eq;rw [aG,gV] at h1;have:=ug.out;omega
  by_cases hlt:n<(dF aac.tail).length
  ·obtain ⟨tb,to',rfl,hct⟩:=dr (hA.strs HTV.out) hlt
   (have hnl:n<(ur aac.tail).length:=by rw [<- ug.out.1];exact hlt);obtain ⟨g1,g2⟩:=rfs_gs hnl;have Ry:=enF xK.out g2;(have oy:Hid (((ur aac.tail).take (n+1)).map (uR aac)=((ur aac.tail).take n).map (uR aac)++[uR aac (gB (ur aac.tail) n)]):=by unfold Hid;rw [Za hnl,cg];rfl);have z1:=HGZ.out;have z2:(gs (dF aac.tail) n).size<=100:=HZT.out n;rw [g1] at hct z2;have Jb:Hid (∀W,Calls Tryz.prog 146 #[.string (wA aac (qx (gB (ur aac.tail) n)))] W (I6 W (wA aac (qx (gB (ur aac.tail) n))))):=fun W=>parse31R_t W _ Ry.psz;unfold wA at Jb
   have ri:=aa Ry;have HA:=aa hA;have HP:=aa hp;have HS:=aa hs;have bu:=aa hlt;have HQN:=aa hqn;have HU0':=aa hA.up;have jt:=hA.up.cell jx.out;(have i4:(n:Int)<((dF aac.tail).length:Int):=by omega);(have i5:(n:Int)<16:=by have:=ug.out.2;omega);(have i6:0<aac.length:=by omega);have i7:n<(dF aac.tail).length:=hlt;(have i8:(0:Int)<(aac.length:Int):=by omega);(have y1:(9223372036854775807<1+(gs aac 0).size)=False:=by simp;omega);have y2:(9223372036854775807<1+(gs aac 0).size+1)=False:=by simp;omega
   (have y3:(9223372036854775807<1+(gs aac 0).size+1+(qx (gB (ur aac.tail) n)).size)=False:=by simp;omega);(have y4:(9223372036854775807<1+(gs aac 0).size+1+(qx (gB (ur aac.tail) n)).size+2)=False:=by simp;omega);clear hI Ry hA hp hs hlt hnl g1 g2 hqn;generalize gB (ur aac.tail) n=r at *;(have hpe:Df (wA aac (qx r))=0:=by unfold Df;rw [ri.out.pars];exact ri.out.te);(have hpt:zU (wA aac (qx r))=flat (eF (uB aac r)):=by unfold zU;rw [ri.out.pars];simp [ri.out.te]);unfold wA at hpe hpt;have I7:=aa hpe;have EG:=aa hpt;clear hpe hpt;go_wp2_with fail
   go_cut [6,7] from 25 to 39 (fun s6 s7 wx=>∃B:Nat,s6=.pointer (some ⟨B,0,none⟩)/\s7=.int .i64 0/\Hid (F7 wo B wx (flat (eF (uB aac r)))))
   case first =>
    refine gQ (by kernel_rfl) 12 (fun w'=>w'.cell? ⟨nb,no,none⟩=some (.string (gs aac 0))/\w'.cell? ⟨tb,to'+n,none⟩=some (.string (qx r))) ⟨jt,hct⟩ (fun hS=>?_);simp only [eW,aT,dO,Nat.reduceAdd,ji,jk,eV,cH,cr];refine aj.tk 0 hS ?_;(try simp only [Act.put,aA,aB,aC]);refine aj.tk 1 hS ?_;(try simp only [Act.put,aA,aB,aC]);refine aj.tk 2 hS ?_
    (try simp only [Act.put,aA,aB,aC]);refine aj.tk 3 hS ?_;(try simp only [Act.put,aA,aB,aC]);refine aj.tk 4 hS ?_;(try simp only [Act.put,aA,aB,aC]);refine aj.tk 5 hS ?_;(try simp only [Act.put,aA,aB,aC]);refine aj.tk 6 hS ?_;(try simp only [Act.put,aA,aB,aC]);refine aj.tk 7 hS ?_
    (try simp only [Act.put,aA,aB,aC]);refine aj.tk 8 hS ?_;(try simp only [Act.put,aA,aB,aC]);refine aj.tk 9 hS ?_;(try simp only [Act.put,aA,aB,aC]);refine aj.tk 10 hS ?_;(try simp only [Act.put,aA,aB,aC]);refine aj.yG (i:=11) (i2:=15) rfl rfl (by kernel_rfl) (fun K' hK=>?_) (fun K' hK=>?_)
    ·go_simp
     refine (Jb.out _).mono ?_;rintro e w2 ⟨aK,pv,rfl,hpv⟩;rw [I7.out];(have hpv:aI Any w2 pv (flat (eF (uB aac r))):=by have h:=hpv;unfold wA at h;rw [EG.out] at h;exact h);obtain ⟨P2,N2,rfl,lD,mD⟩:=hpv;obtain ⟨pp,pc,rfl,-,-⟩:=ay.open lD;obtain ⟨np,nc,rfl,-,-⟩:=ay.open mD;have kL:Up wo w2:=(Up.drewN wo 1).trans aK;have cE:=Up.alloc w2 (.cells #[.slice none 0 0,.slice none 0 0] 39);have hb3:=gp (w:=w2) (P:=.slice none 0 0) (N:=.slice none 0 0) (T:=39)
     have CR:Hid (F7 wo w2.heap.size (w2.alloc (.cells #[.slice pp (flat (eF (uB aac r))).ps.length pc,.slice np (flat (eF (uB aac r))).ns.length nc] 39)) (flat (eF (uB aac r)))):=F7.of_alloc kL ⟨_,_,rfl,lD,mD⟩;have eo:=aa (kL.trans cE);have pW:Hid (wo.heap.size<=w2.heap.size):=kL.size;obtain ⟨b0,b1,b2,b3⟩:=boxed hb3;have KZ:=aa hb3;generalize flat (eF (uB aac r))=q0 at *;clear lD mD aK kL cE hb3;refine hK.out _ _ (aO (by kernel_rfl)) (fun _=>?_);try simp only [aA,aB,aC]
     refine aj.fr 12 (aO (by kernel_rfl)) ?_;(try simp only [Act.put,aA,aB,aC]);refine aj.fr 13 (aO (by kernel_rfl)) ?_;(try simp only [Act.put,aA,aB,aC]);refine aj.fr 14 (aO (by kernel_rfl)) ?_;(try simp only [Act.put,aA,aB,aC]);refine aj.step (i:=15) rfl (by kernel_rfl) (fun K' hK=>?_);go_simp;refine hK.out _ _ (aO (by kernel_rfl)) (fun _=>?_)
     (try simp only [aA,aB,aC]);refine aj.step (i:=16) rfl (by kernel_rfl) (fun K' hK=>?_);go_simp;refine hK.out _ _ (aO (by kernel_rfl)) (fun _=>?_);(try simp only [aA,aB,aC]);refine aj.step (i:=17) rfl (by kernel_rfl) (fun K' hK=>?_);go_simp;refine hK.out _ _ (aO (by kernel_rfl)) (fun _=>?_);refine aj.done (by kernel_rfl) ?_;go_wp2_with fail;go_meet
     case rel=>exact ⟨_,rfl,rfl,CR.out⟩
    ·go_simp
     have cE:=Up.alloc wo (.cells #[.slice none 0 0,.slice none 0 0] 39);have hd:=Up.drewN (wo.alloc (.cells #[.slice none 0 0,.slice none 0 0] 39)) 1;have hb1:=gp (w:=wo) (P:=.slice none 0 0) (N:=.slice none 0 0) (T:=39);have hs1:(wo.alloc (.cells #[.slice none 0 0,.slice none 0 0] 39)).heap.size=wo.heap.size+1:=aQ _ _;refine hK.out _ _ (fun _=>⟨cE.cell jt,cE.cell hct⟩) (fun hS=>?_);replace hS:=hS ⟨11,by decide,rfl⟩;(try simp only [aA,aB,aC]);refine aj.step (i:=11) rfl (by kernel_rfl) (fun K' hK=>?_);go_simp
     refine (Jb.out _).mono ?_;rintro e w2 ⟨aK,pv,rfl,hpv⟩;rw [I7.out];(have hpv:aI Any w2 pv (flat (eF (uB aac r))):=by have h:=hpv;unfold wA at h;rw [EG.out] at h;exact h);have kL:=(cE.trans hd).trans aK;have hb3:w2.heap[wo.heap.size]? = some (Obj.cells #[.slice none 0 0,.slice none 0 0] 39 (0,0)):=(bI (hd.trans aK) _ (by rw [hs1];omega)).trans hb1;have hpv:=K1 hpv hb3;obtain ⟨P2,N2,rfl,lD,mD⟩:=hpv;obtain ⟨pp,pc,rfl,-,-⟩:=ay.open lD;obtain ⟨np,nc,rfl,-,-⟩:=ay.open mD
     have HT3:Hid (aI (fun b=>b≠wo.heap.size) w2 (.agg #[.slice pp (flat (eF (uB aac r))).ps.length pc,.slice np (flat (eF (uB aac r))).ns.length nc]) (flat (eF (uB aac r)))):=⟨_,_,rfl,lD,mD⟩;have eo:=aa kL;have pW:Hid (wo.heap.size<=wo.heap.size):=af _;obtain ⟨b0,b1,b2,b3⟩:=boxed hb3;have KZ:=aa hb3;generalize flat (eF (uB aac r))=q0 at *;clear lD mD aK kL cE hd hb1 hs1 hb3;refine hK.out _ _ (aO (by kernel_rfl)) (fun _=>?_);try simp only [aA,aB,aC]
     refine aj.fr 12 (aO (by kernel_rfl)) ?_;(try simp only [Act.put,aA,aB,aC]);refine aj.fr 13 (aO (by kernel_rfl)) ?_;(try simp only [Act.put,aA,aB,aC]);refine aj.fr 14 (aO (by kernel_rfl)) ?_;(try simp only [Act.put,aA,aB,aC]);refine aj.step (i:=16) rfl (by kernel_rfl) (fun K' hK=>?_);go_simp;refine hK.out _ _ (aO (by kernel_rfl)) (fun _=>?_)
     (try simp only [aA,aB,aC]);refine aj.step (i:=17) rfl (by kernel_rfl) (fun K' hK=>?_);go_simp;refine hK.out _ _ (aO (by kernel_rfl)) (fun _=>?_);refine aj.done (by kernel_rfl) ?_;go_wp2_with fail;go_meet
     case rel=>exact ⟨_,rfl,rfl,F7.Vf KZ.out pW.out eo.out HT3.out⟩
   case rest =>
    obtain ⟨B,rfl,rfl,hB⟩:=hcut;obtain ⟨w3,rfl⟩:∃w3:World,w3=wc:=⟨_,rfl⟩;obtain ⟨pp,pc,np,nc,hb3,QS⟩:=hB.out.ex;obtain ⟨q0,G9⟩:∃q0,q0=flat (eF (uB aac r)):=⟨_,rfl⟩;obtain ⟨q1,hq1⟩:∃q1,q1=flat (uR aac r):=⟨_,rfl⟩;have dz:=aa hB.out;rw [<- G9] at hb3 QS;(have hl0:q0.ps.length<=1000000/\q0.ns.length<=1000000:=by have:=ri.out.len;rw [G9,wj,AZ];omega);(have kI:q1.ps.length<=1000000/\q1.ns.length<=1000000:=by have:=ri.out.len;rw [hq1,wj,AZ];omega);have CW:=aa (canonR_t _ w3 _ q0 QS hl0.1 hl0.2 (by rw [G9];exact ri.out.sz))
    (have xO:Hid (aH q0=0/\DV q0=q1):=by (have h1:aH q0=0:=by rw [G9];exact ri.out.te);refine ⟨h1,?_⟩;rw [canR_canT h1,G9,hq1];exact ri.out.can);(have oT:Hid (G1 q1=0/\(⟨(De q1).toArray⟩:ByteArray)=cz (uR aac r)):=by unfold Hid;rw [hq1];refine ⟨by unfold G1;rw [if_neg (by simp [ri.out.te2])],?_⟩;unfold cz;rw [ri.out.tx]);have zV:Hid (∀W v,aI Any W v q1->Calls Tryz.prog 148 #[v] W (NQ W q1)):=fun W v h=>printR31_t Any W v q1 h kI.1 kI.2 (by rw [hq1];exact ri.out.sz2);have KZ:=aa hb3;obtain ⟨b0,b1,b2,b3⟩:=boxed hb3
    clear hl0 kI G9 hq1 QS hb3 jt hct Jb I7 EG hB y1 y2 y3 y4;go_wp2_with fail;refine CW.out.mono ?_;rintro e w4 ⟨di,⟨rE,-⟩ | ⟨-,cv,rfl,P4,N4,rfl,iB,iC⟩⟩
    ·exact absurd xO.out.1 rE
    rw [xO.out.2] at iB iC;obtain ⟨p4,c4,rfl,-,-⟩:=ay.open iB;obtain ⟨n4,d4,rfl,-,-⟩:=ay.open iC;have hb4:=(bI di B dz.out.lo.2).trans KZ.out;have HX5:=aa (F7.Vf (w:=wo) (t:=q1) (pp:=p4) (np:=n4) (pc:=c4) (nc:=d4) hb4 dz.out.lo.1 (dz.out.up.trans di) (aI.sub ⟨_,_,rfl,iB,iC⟩ fun b hb _=>by have:=dz.out.lo.2;omega));obtain ⟨b0,b1,b2,b3⟩:=boxed hb4;obtain ⟨_,_,_,s4⟩:=gq (w:=wo) (p:=.slice p4 q1.ps.length c4) (q:=.slice n4 q1.ns.length d4) hb4 dz.out.lo.1 (dz.out.up.trans di)
    have Ql:aI Any ((w4.setCell ⟨B,0,none⟩ (.slice p4 q1.ps.length c4)).setCell ⟨B,1,none⟩ (.slice n4 q1.ns.length d4)) (.agg #[.slice p4 q1.ps.length c4,.slice n4 q1.ns.length d4]) q1 :=
     ((aI.sub (T:=fun b=>b≠B) ⟨_,_,rfl,iB,iC⟩ fun b hb _=>by have:=dz.out.lo.2;omega).keep fun b hb _=>s4 b hb).sub fun _ _ _=>trivial
    have uQ:=aa Ql;clear hb4 di iB iC CW dz KZ s4 Ql;go_wp2_with fail;generalize (w4.setCell ⟨B,0,none⟩ _).setCell ⟨B,1,none⟩ _=w5 at *;refine (zV.out w5 _ uQ.out).mono ?_;rintro e w6 ⟨dL,rfl⟩;rw [oT.out.1,oT.out.2];have HA6:=aa (HA.out.next (HX5.out.up.trans dL));obtain ⟨oq,oc,U6,-⟩:=HA6.out.own.form (n:=qs.length) (by rw [aG,aG]);subst U6;have HQ:Hid (∃q,q=uR aac r):=⟨_,rfl⟩;obtain ⟨q,hq⟩:=HQ.out;rw [<- hq] at oT oy ⊢;have VA:Hid (((qs.map cz).map Value.string).length=qs.length):=by unfold Hid;rw [aG,aG]
    (have fA:Hid (w.heap.size<=w6.heap.size):=by obtain ⟨z1,z2,z3⟩:=HA6.out.sz;unfold Hid;omega);clear dL HX5 zV uQ oT xO ri hq HQ b0 b1 b2 b3 HA z1 z2;go_wp2_with (at_builtin;refine jI w6 rfl _ _ 22 rfl w.heap.size 9 (.string ⟨#[]⟩) 16 Tryz.underlying22 Tryz.kR rfl (by decide) HA6.out.own rfl (.string (cz q)) rfl rfl qs.length VA.out (by have:=HQN.out;omega) fA.out ?_;intro g8 oz w8 fH ic jJ;have KV:=aa (HA6.out.app fH ic jJ);clear fH ic jJ);have kK:Hid ((qs.map cz).length=qs.length):=aG _
    have G5:Hid (AgJ w w2 qs q qs.length (.slice (some ⟨g8,0,none⟩) (qs.length+1) oz) w8):=by refine ⟨cz q,?_,fun i h1 h2=>by omega⟩;have h:=KV.out;rw [jk_start,kK.out] at h;exact h
    have jr:Hid (∀(m:Nat) (wr:World),m<=qs.length->AgJ w w2 qs q m (.slice (some ⟨g8,0,none⟩) (qs.length+1) oz) wr->(m=0\/kZ (qs.getD (m - 1) (.node ByteArray.empty [])) q)->AgI w w2 aac (n+1) (.slice (some ⟨g8,0,none⟩) (qs.length+1) oz) (wr.setCell ⟨g8,m,none⟩ (.string (cz q)))):=fun m wr hm hJ hlo=>by
     obtain ⟨j,hj,hhi⟩:=hJ;obtain ⟨i1,i2⟩:=ins_at HS.out hm hhi hlo;obtain ⟨g,cp,e,_,_,h4⟩:=hj.set (j:=m) (by rw [Vy,kK.out];omega);injection e with e;injection e with e;injection e with e;subst e;refine ⟨qs.take m++q::qs.drop m,?_,?_,i2⟩
     ·have h5:=h4 (cz q)
      rw [jk_put (by rw [kK.out];exact hm)] at h5;(have e2:(qs.take m++q::qs.drop m).map cz=Ce (qs.map cz) m (cz q):=by unfold Ce;simp);rw [e2];exact h5
     ·rw [oy.out]
      exact i1.trans ((HP.out.cons q).trans (Bi (l₁:=[q])))
    have qT:Hid (∀(m:Nat) (wr:World),m<=qs.length->AgJ w w2 qs q m (.slice (some ⟨g8,0,none⟩) (qs.length+1) oz) wr->wr.frozen? ⟨g8,m,none⟩=false/\(∃x,wr.cell? ⟨g8,m,none⟩=some (.string x))/\(0<m->wr.cell? ⟨g8,m - 1,none⟩=some (.string (cz (qs.getD (m - 1) (.node ByteArray.empty [])))))/\(0<m->¬kZ (qs.getD (m - 1) (.node ByteArray.empty [])) q->AgJ w w2 qs q (m - 1) (.slice (some ⟨g8,0,none⟩) (qs.length+1) oz) (wr.setCell ⟨g8,m,none⟩ (.string (cz (qs.getD (m - 1) (.node ByteArray.empty []))))))):=fun m wr hm hJ=>by
     obtain ⟨j,hj,hhi⟩:=hJ;obtain ⟨g,cp,e,h2,h3,h4⟩:=hj.set (j:=m) (by rw [Vy,kK.out];omega);injection e with e;injection e with e;injection e with e;subst e;refine ⟨h3,⟨_,h2⟩,fun h0=>?_,fun h0 hn=>?_⟩
     ·obtain ⟨g',cp',e',Qf,_,_⟩:=hj.set (j:=m - 1) (by rw [Vy,kK.out];omega)
      injection e' with e';injection e' with e';injection e' with e';subst e';rw [jk_prev h0 (by rw [kK.out];exact hm),Kf (by omega)] at Qf;exact Qf
     ·refine ⟨gs (qs.map cz) (m - 1),?_,fun i q1 q2=>?_⟩
      ·have h5:=h4 (cz (qs.getD (m - 1) (.node ByteArray.empty [])))
       rw [<- Kf (by omega),jk_shift h0 (by rw [kK.out];exact hm)] at h5;rw [<- Kf (by omega)];exact h5
      ·by_cases ei:i=m - 1
       ·rw [ei];exact hn
       ·exact hhi i (by omega) q2
    have HQ15:Hid (qs.length<=15):=HQN.out;clear KV HA6 kK oy HP VA fA;go_wp2_with fail
    go_loopw [10] (fun k wr=>∃m:Nat,m<=qs.length/\k=.int .i64 m/\Hid (AgJ w w2 qs q m (.slice (some ⟨g8,0,none⟩) (qs.length+1) oz) wr)) (fun k _=>(intOf k).toNat)
    case atStart=>exact ⟨qs.length,af _,rfl,G5.out⟩
    case round =>
     obtain ⟨m,hm,rfl,hJ⟩:=hrel;obtain ⟨wi,rfl⟩:∃wi:World,wi=wr:=⟨_,rfl⟩;obtain ⟨hf,⟨x0,hx0⟩,hc1,hsh⟩:=qT.out m wi hm hJ.out;(have m1:(0:Int)<=(m:Int):=by omega);(have m2:(m:Int)<((qs.length+1:Nat):Int):=by omega);(have m3:(m:Int)<16:=by have:=HQ15.out;omega);(have m4:m<qs.length+1:=by omega);by_cases h0:m=0
     ·subst h0
      have kA:=aa (jr.out 0 wi (aL _) hJ.out (.inl rfl));clear hJ hsh hc1;go_wp2_with fail
      go_roundw
      case rel=>exact ⟨n+1,bu.out,by go_num,kA.out⟩
      case measure=>have:=bu.out;simp [intOf];omega
     ·have hc2:=hc1 (by omega)
      (have hw:wrap64 ((m:Int) - 1)=((m - 1:Nat):Int):=by unfold wrap64;omega);(have m5:(0:Int)<(m:Int):=by omega);(have m6:((m - 1:Nat):Int)<((qs.length+1:Nat):Int):=by omega);(have m7:m - 1<qs.length+1:=by omega);obtain ⟨y,hy⟩:∃y,y=qs.getD (m - 1) (.node ByteArray.empty []):=⟨_,rfl⟩;rw [<- hy] at hc2 hsh;have C7:=aa (jr.out m wi hm hJ.out);rw [<- hy] at C7;have HSH:=aa hsh;have HM0:Hid (0<m/\m<=qs.length):=⟨by omega,hm⟩;have HJJ:=aa hJ.out;clear hc1 hsh hy hJ;go_wp2_with fail
      ·have hno:=key_no ‹_/\_›
       have hm0:=HM0.out;have HX:=aa (HSH.out hm0.1 hno)
       go_roundw
       case rel=>exact ⟨m - 1,by omega,by go_num,HX.out⟩
       case measure=>simp [intOf];omega
      ·have hyes:=key_yes ‹_\/_›
       have kA:=aa (C7.out (.inr hyes))
       go_roundw
       case rel=>exact ⟨n+1,bu.out,by go_num,kA.out⟩
       case measure=>have:=bu.out;simp [intOf];omega
  ·obtain rfl:n=(dF aac.tail).length:=by omega
   (have hqs:qs=cI aac:=by refine rf_all xK.out ?_ hs;rw [ug.out.1,gh] at hp;exact hp);subst hqs;have oV:=aa hA.up;have HST:Hid (au Any wo u3 ((cI aac).map cz)):=hA.own.strs.sub fun _ _ _=>trivial;obtain ⟨op,oc,U6,-⟩:=hA.own.form (n:=(cI aac).length) (by rw [aG,aG]);subst U6;have HST:Hid (au Any wo (.slice op (cI aac).length oc) ((cI aac).map cz)):=HST.out;(have gG:Hid ((allT aac).length=(cI aac).length):=by unfold Hid allT;rw [aG]);have HQ15:=aa hqn;clear hI hA hp hs hlt hn hqn
   (have qP:Hid (AlI wo aac 0 (.slice (some ⟨wo.heap.size,0,none⟩) 0 0) (wo.alloc (.cells #[] 39))):=by refine ⟨Up.alloc _ _,[],⟨World.ownsRow_made wo #[] 0 (af _) (by unfold maxLen;omega) (by simp),fun _ h=>by cases h⟩,by simp⟩);go_wp2_with fail
   go_loopw [11,12,13,14] (fun out i _ _ wr=>∃k:Nat,k<=(cI aac).length/\i=.int .i64 k/\Hid (AlI wo aac k out wr)) (fun _ i _ _ _=>(cI aac).length - (intOf i).toNat)
   case atStart=>exact ⟨0,aL _,rfl,qP.out⟩
   case round =>
    obtain ⟨k,hk,rfl,hI⟩:=hrel;obtain ⟨wi,rfl⟩:∃wi:World,wi=wr:=⟨_,rfl⟩;obtain ⟨wD,es,hes,hem⟩:=hI.out;(have k0:(0:Int)<=(k:Int):=by omega);by_cases hlk:k<(cI aac).length
    ·have hmem:(cI aac).getD k (.node ByteArray.empty [])∈cI aac:=by simp [hlk]
     obtain ⟨p1,p2,p3⟩:=keyB_parse xK.out hmem;obtain ⟨_,_,_,_,p5,_⟩:=jU xK.out hmem;obtain ⟨xb,xo,rfl,xI⟩:=dr (au.keep HST.out (wD.kept _)) (k:=k) (by rw [aG];exact hlk);rw [Kf hlk] at xI;have za:qw (cz ((cI aac).getD k (.node ByteArray.empty []))).data.toList=some ((cI aac).getD k (.node ByteArray.empty [])):=by have hg:=(jU xK.out hmem).1.good;(have e:(cz ((cI aac).getD k (.node ByteArray.empty []))).data.toList=dy ((cI aac).getD k (.node ByteArray.empty []))++[59]:=by unfold cz fq;simp);rw [e];exact EK hg.qq
     have Jb:=aa (XY wi _ p1 za p5);(have hlt2:k<(allT aac).length:=by rw [gG.out];exact hlk);(have hgt:gt (allT aac) k=flat ((cI aac).getD k (.node ByteArray.empty [])):=by unfold allT gt;simp [hlk]);(have oy:Hid ((allT aac).take (k+1)=es.map (·.2)++[flat ((cI aac).getD k (.node ByteArray.empty []))]):=by unfold Hid;rw [Pt hlt2,hem,hgt]);(have jv:es.length=k:=by have:=congrArg List.length hem;rw [aG,gV] at this;omega);have gI:=aa jv;obtain ⟨op2,oc2,rfl⟩:=hes.form
     (have Dj:Hid (nw wo.heap.size wi (.slice op2 k oc2) es):=by have h:=hes;rw [jv] at h;exact h);have Ze:=aa wD;have E3:=aa hlk;(have k1:(k:Int)<((cI aac).length:Int):=by omega);(have k2:(k:Int)<16:=by have:=HQ15.out;omega);rw [jv];clear hI wD hes hem hlk hlt2 hgt hmem p1 p2 p3 p5 za jv;generalize cz ((cI aac).getD k (.node ByteArray.empty []))=key at *;generalize flat ((cI aac).getD k (.node ByteArray.empty []))=q at *;go_wp2_with fail;refine Jb.out.mono ?_;rintro e w2 ⟨aK,v2,rfl,ht2⟩;obtain ⟨P2,N2,rfl,lD,mD⟩:=ht2;obtain ⟨pp,pc,rfl,-,-⟩:=ay.open lD
     obtain ⟨np,nc,rfl,-,-⟩:=ay.open mD;have cE:=Up.alloc w2 (.cells #[.slice pp q.ps.length pc,.slice np q.ns.length nc] 39);have hES2:=Dj.out.up (aK.trans cE);have HES2:=aa hES2;have hlo:=fun b hb=>(j8 Dj.out.1 b hb);have U9:Hid (aI (fun b=>some b≠(Value.slice op2 k oc2).ownBlock) (w2.alloc (.cells #[.slice pp q.ps.length pc,.slice np q.ns.length nc] 39)) (.agg #[.slice pp q.ps.length pc,.slice np q.ns.length nc]) q) :=
      (aI.keep ⟨_,_,rfl,lD,mD⟩ (cE.kept _)).sub fun b hb _ e=>by have h1:=(hlo b e.symm).2;have h2:wi.heap.size<=b:=hb;omega
     have bD:=aa (Ze.out.trans (aK.trans cE));have mX:=aa (iU w2 (.slice pp q.ps.length pc) (.slice np q.ns.length nc) 39);have lK:=aa (iV w2 (.slice pp q.ps.length pc) (.slice np q.ns.length nc) 39);have HEQ:Hid (es.length=k):=gI.out;(have HK6:Hid (k<=1000000):=by have:=E3.out;have:=HQ15.out;unfold Hid;omega);clear aK lD mD cE hES2 hlo Jb Dj
     go_wp2_with (at_builtin;refine Ca _ rfl _ _ 33 rfl wo.heap.size _ 48 Tryz.underlying33 Tryz.infoTree rfl (by decide) HES2.out rfl ((.slice pp q.ps.length pc,.slice np q.ns.length nc),q) (by rw [aQ];rfl) U9.out k HEQ.out HK6.out bD.out.size ?_;intro g8 oz w8 fH ic B6;have Va:=aa fH;have qQ:=aa B6;clear fH ic B6)
     go_roundw
     case rel=>exact ⟨k+1,E3.out,by go_num,iH (show Below wo.heap.size wo _ from bD.out) qQ.out,_,Va.out,by rw [oy.out,cg];rfl⟩
     case measure=>have:=E3.out;simp [intOf];omega
    ·obtain rfl:k=(cI aac).length:=by omega
     (have B7:es.map (·.2)=allT aac:=by rw [hem,<- gG.out,gh]);have kA:Hid (Mb w aac (.returned u11) wi):=⟨oV.out.trans wD,u11,rfl,B7 ▸ hes.trees⟩;clear hI wD hes hem B7 hlk;go_wp2_with fail;go_ret;exact kA.out
theorem VJ (S:Nat->Prop) (w:World) (v:Value) (aac:List ByteArray) (h:au S w v aac) (hn:aac.length<=1000000) (hz:∀k,(gs aac k).size<=70000) (h5:aac.length<=5\/7<aac.length) :
  Calls Tryz.prog 61 #[v] w (tV w aac):=by
 have je:=aa (Oj S w v aac h hn hz);obtain ⟨p,cap,rfl,hcap,-⟩:=ay.open h;have h:au S w (.slice p aac.length cap) aac:=h;have EU:Hid (∀W,Up w W->dm aac=0->Calls Tryz.prog 105 #[.slice p aac.length cap] W (Mb W aac)):=fun W hW h0=>by
  have h5':aac.length<=5:=by
   rcases h5 with h5 | h5
   ·exact h5
   ·unfold dm at h0;rw [if_pos (.inr h5)] at h0;cases h0
  exact allR34_t S W _ aac ((mQ h5').1 h0) (au.keep h (hW.kept S))
 clear h hz h5
 go_enter Tryz.func61,Tryz.ntmps61
 go_wp2_with fail;refine je.out.mono ?_;rintro e w1 ⟨rfl,bA⟩;have cA:=aa bA;have VK:=aa (EU.out w1 bA);clear bA je EU;by_cases c1:dm aac=0
 ·have VL:=aa (VK.out c1)
  have kA:Hid (∀W v,Up w W->fQ Any W v (allT aac)->tV w aac (.returned (.tuple #[v,.int .i64 0])) W):=fun W v hu ht=>⟨hu,v,by rw [c1],by rw [if_pos c1];exact ht⟩;rw [c1];clear c1 VK;go_wp2_with fail;refine VL.out.mono ?_;rintro e w2 ⟨aK,v2,rfl,ht2⟩;have tC:=aa (kA.out w2 v2 (cA.out.trans aK) ht2);clear aK ht2 VL;go_wp2_with fail;go_ret2;exact tC.out
 ·have kA:Hid (tV w aac (.returned (.tuple #[.slice none 0 0,.int .i64 (dm aac)])) w1):=⟨cA.out,_,rfl,by rw [if_neg c1];exact fQ.nil _ _⟩
  generalize dm aac=a at *;go_wp2_with fail;go_ret2;exact kA.out
end
end Go.Proofs.YthgabkgmkolobaaGreat
