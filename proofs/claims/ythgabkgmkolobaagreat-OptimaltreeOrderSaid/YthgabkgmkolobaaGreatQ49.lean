/- The law of OptimaltreeOrder. -/
import Derived.Test.YthgabkgmkolobaaGreatQ48
set_option maxRecDepth 100000
set_option maxHeartbeats 16000000
namespace Go.Proofs.YthgabkgmkolobaaGreat
open Go.RowKit Go.Deep
theorem J1 (w:World) (v vs:Value) (acw:List ByteArray) (acy:List (List Int)) (c:Nat) (h:av Any w v acw) (hS:bh Any w vs acy) (hc:c<256)
  (hn:acw.length<=9223372036854775807) (hz:∀k,(gs acw k).size<=9223372036854775807) (hm:acy.length<=9223372036854775807) (hr:∀k,(gl acy k).length<=9223372036854775807) :
  Calls Tryz.prog 6 #[v,vs,.int .u8 c] w fun e w'=>e=.returned (.bool true)/\Up w w':=by
 obtain ⟨p,cap,rfl,hcap,-⟩:=aA.open h;have tQ:=aa hcap;have h:av Any w (.slice p acw.length cap) acw:=h;obtain ⟨sp,sc,rfl,hsc,-⟩:=gM hS;have rG:=aa hsc;have rF:=aa (Sh Any Any w _ _ acw acy h hS hn hz hm hr);have TE:Hid (∀W,Calls Tryz.prog 26 #[] W fun e w'=>e=.returned (.bool true)/\Up W w'):=Pz;have YT:Hid (kB acw acy=true->PU acw acy):=PV;have HH:=aa h;have HS:=aa hS;clear h hS hz hr hn hm
 go_enter Tryz.func6,Tryz.ntmps6
 go_wp2_with fail;refine rF.out.mono ?_;rintro e w1 ⟨rfl,bw⟩;have b9:=aa bw;cases hf:kB acw acy
 ·clear hf YT rF bw
  go_wp2_with fail;refine (TE.out _).mono ?_;rintro e w' ⟨rfl,uK⟩;go_wp2_with fail;go_ret;exact ⟨rfl,b9.out.trans uK⟩
 have hF:=YT.out hf;have hcs:=hF.cs;have hnm:=hcs.nm;have TF:=hnm.hi;have hnl:=hnm.lo;have hlen:=hcs.len;have HZ:Hid (∀k,(gs acw k).size<=70000):=fun k=>aR (iL (M:=20) (fun x hx=>si (hnm.nm x hx)) k) (by decide);have DV:Hid (∀k,(gl acy k).length<=1000000):=fun k=>by
  by_cases hk:k<acy.length
  ·have:=((zT hcs.ag).2 k hk).1;have:=hF.wd;omega
  ·have:gl acy k=[]:=by simp [gl,hk]
   rw [this];simp
 obtain ⟨k,hk⟩:∃k,k=c % acw.length:=⟨_,rfl⟩;have fT:k<acw.length:=by rw [hk];exact Nat.mod_lt _ (by omega)
 have hse:(c:Int).tmod (acw.length:Int)=(k:Int):=by rw [Int.tmod_eq_emod_of_nonneg (by omega),hk];push_cast;rfl
 have aa3:(c:Int) % (acw.length:Int)=(k:Int):=by rw [hk];push_cast;rfl
 have Zw:(c:Int)<256:=by omega
 have hc0:(0:Int)<=(c:Int):=by omega
 have hwd:IntKind.i64.wrap (c:Int)=(c:Int):=IntWalk.i64_in _ (by omega);have hl0:(acw.length:Int)≠0:=by omega
 have d0:((acw.length:Int)==0)=false:=beq_eq_false_iff_ne.2 hl0;have nW:=Bv Any w1 _ _ acw acy (av.keep HH.out (bw.kept _)) (by omega) HZ.out (HS.out.keep (bw.kept _)) (by omega) DV.out (.inl TF);unfold tH xC xD at nW;rw [(Bo TF).2 hcs,if_pos rfl,if_pos rfl] at nW;have gT:=aa nW;have htr:=Mp hcs fT;have Eg:=aa htr;have fQ:=aa (And.intro hnl (And.intro TF hlen));have e9:=aa fT;clear hf YT rF bw hF hcs hnm hk hc nW htr hlen TF hnl fT hcap hsc;go_wp2_with fail;clear hse aa3 Zw hc0 hwd hl0 d0
 refine gT.out.mono ?_;rintro e w2 ⟨aJ,v2,rfl,ht2⟩;obtain ⟨p2,c2,rfl,-⟩:=o6 ht2;have bY:=aa (b9.out.trans aJ);obtain ⟨nb,no,rfl,-⟩:=cA HH.out (k:=0) (by have:=fQ.out;omega);obtain ⟨sb,so,s0,s1,rfl,-,-⟩:=iP HS.out (k:=0) (by have:=fQ.out;omega);have i0:(0:Int)<=(k:Int):=by have:=fQ.out;have:=e9.out;have:=tQ.out;have:=rG.out;omega
 have i1:(k:Int)<=(acw.length:Int):=by have:=fQ.out;have:=e9.out;have:=tQ.out;have:=rG.out;omega
 have i2:(k:Int)<=(acy.length:Int):=by have:=fQ.out;have:=e9.out;have:=tQ.out;have:=rG.out;omega
 have i3:(k:Int)<=(cap:Int):=by have:=fQ.out;have:=e9.out;have:=tQ.out;have:=rG.out;omega
 have i4:(k:Int)<=(sc:Int):=by have:=fQ.out;have:=e9.out;have:=tQ.out;have:=rG.out;omega
 have i5:k<=acw.length:=by have:=fQ.out;have:=e9.out;have:=tQ.out;have:=rG.out;omega
 have i6:k<=acy.length:=by have:=fQ.out;have:=e9.out;have:=tQ.out;have:=rG.out;omega
 have i7:k<=cap:=by have:=fQ.out;have:=e9.out;have:=tQ.out;have:=rG.out;omega
 have i8:k<=sc:=by have:=fQ.out;have:=e9.out;have:=tQ.out;have:=rG.out;omega
 have i9:¬cap=k:=by have:=fQ.out;have:=e9.out;have:=tQ.out;have:=rG.out;omega
 have i10:¬sc=k:=by have:=fQ.out;have:=e9.out;have:=tQ.out;have:=rG.out;omega
 clear aJ ht2 gT h;have YU:=aa (Sk HH.out e9.out fQ.out.2.1);have YV:=aa (Sl HS.out (by rw [fQ.out.2.2];exact e9.out) (by rw [fQ.out.2.2];exact fQ.out.2.1));have x5:=aa (PX Eg.out fQ.out.2.1 (Sm HZ.out) (Sn DV.out) (by rw [bg,gw,dD];have:=fQ.out;omega));go_wp2_with fail;refine eC (by kernel_rfl) 24 (fun _=>True) trivial (fun hS=>?_)
 simp only [fo,aO,dz,Nat.reduceAdd,ic,ig,fk,cw,bz];refine af.tk 0 hS ?_;try simp only [Act.put,aj,aq,au]
 refine af.tk 1 hS ?_;try simp only [Act.put,aj,aq,au]
 refine af.tk 2 hS ?_;try simp only [Act.put,aj,aq,au]
 refine af.tk 3 hS ?_;try simp only [Act.put,aj,aq,au]
 refine af.tk 4 hS ?_;try simp only [Act.put,aj,aq,au]
 refine af.tk 5 hS ?_;try simp only [Act.put,aj,aq,au]
 refine af.tk 8 hS ?_;try simp only [Act.put,aj,aq,au]
 refine af.tk 9 hS ?_;try simp only [Act.put,aj,aq,au]
 refine af.tk 10 hS ?_;try simp only [Act.put,aj,aq,au]
 refine af.tk 11 hS ?_;try simp only [Act.put,aj,aq,au]
 refine af.tk 12 hS ?_;try simp only [Act.put,aj,aq,au]
 refine af.tk 13 hS ?_;try simp only [Act.put,aj,aq,au]
 obtain ⟨Wd,YW⟩:∃Wd:World,Wd=w2.drew:=⟨_,rfl⟩;have HUd:Hid (Up w Wd):=by rw [YW];exact bY.out.trans (Up.drewN _ 1)
 rw [<- YW];clear YW;refine af.ug (i:=6) (i2:=14) rfl rfl (by kernel_rfl) (fun K' hK=>?_) (fun K' hK=>?_)
 ·go_simp
  have bq:=Up.alloc Wd (.cells #[.slice (some ⟨nb,no+k,none⟩) (acw.length - k) (cap - k),.slice (some ⟨nb,no,none⟩) k cap] 22);have b9:=aa (HUd.out.trans bq);have hn:=And.intro (aH Wd #[.slice (some ⟨nb,no+k,none⟩) (acw.length - k) (cap - k),.slice (some ⟨nb,no,none⟩) k cap] 22 0) (aH Wd #[.slice (some ⟨nb,no+k,none⟩) (acw.length - k) (cap - k),.slice (some ⟨nb,no,none⟩) k cap] 22 1);have FW:=aa hn;clear bq hn;refine hK.out _ _ (fun _=>trivial) (fun _=>?_);try simp only [aj,aq,au]
  refine af.ug (i:=7) (i2:=14) rfl rfl (by kernel_rfl) (fun K' hK=>?_) (fun K' hK=>?_)
  ·go_simp
   refine (YU.out _ _ b9.out FW.out.1 FW.out.2).mono ?_;rintro e W2 ⟨hu,v2,rfl,hv⟩;have bY:=aa (b9.out.trans hu);have aa4:=aa hv;clear hu hv;refine hK.out _ _ (fun _=>trivial) (fun _=>?_);(try simp only [aj,aq,au]);refine af.step (i:=14) rfl (by kernel_rfl) (fun K' hK=>?_);go_simp;have bq:=Up.alloc W2 (.cells #[.slice (some ⟨sb,so+k,none⟩) (acy.length - k) (sc - k),.slice (some ⟨sb,so,none⟩) k sc] 23);have ek:=aa (bY.out.trans bq);have Jo:=aa (av.keep aa4.out (bq.kept _))
   have hn:=And.intro (aH W2 #[.slice (some ⟨sb,so+k,none⟩) (acy.length - k) (sc - k),.slice (some ⟨sb,so,none⟩) k sc] 23 0) (aH W2 #[.slice (some ⟨sb,so+k,none⟩) (acy.length - k) (sc - k),.slice (some ⟨sb,so,none⟩) k sc] 23 1);have zo:=aa hn;clear bq hn;refine hK.out _ _ (fun _=>trivial) (fun _=>?_);(try simp only [aj,aq,au]);refine af.step (i:=15) rfl (by kernel_rfl) (fun K' hK=>?_);go_simp;refine (YV.out _ _ ek.out zo.out.1 zo.out.2).mono ?_;rintro e W4 ⟨hu,v4,rfl,hv⟩
   have kX:=aa (ek.out.trans hu);have zq:=aa (av.keep Jo.out (hu.kept _));have zu:=aa hv;clear hu hv;refine hK.out _ _ (fun _=>trivial) (fun _=>?_);(try simp only [aj,aq,au]);refine af.step (i:=16) rfl (by kernel_rfl) (fun K' hK=>?_);go_simp;refine (x5.out _ _ _ zq.out zu.out).mono ?_;rintro e Wf ⟨hu,p3,c3,rfl⟩;have Cj:=aa (kX.out.trans hu);clear hu;refine hK.out _ _ (fun _=>trivial) (fun _=>?_);(try simp only [aj,aq,au]);refine af.tk 17 hS ?_
   (try simp only [Act.put,aj,aq,au]);refine af.tk 18 hS ?_;(try simp only [Act.put,aj,aq,au]);refine af.tk 19 hS ?_;(try simp only [Act.put,aj,aq,au]);refine af.tk 20 hS ?_;(try simp only [Act.put,aj,aq,au]);refine af.step (i:=21) rfl (by kernel_rfl) (fun K' hK=>?_);go_simp;refine hK.out _ _ (fun _=>trivial) (fun _=>?_)
   (try simp only [aj,aq,au]);refine af.step (i:=22) rfl (by kernel_rfl) (fun K' hK=>?_);go_simp;refine hK.out _ _ (fun _=>trivial) (fun _=>?_);(try simp only [aj,aq,au]);refine af.step (i:=23) rfl (by kernel_rfl) (fun K' hK=>?_);go_simp;refine hK.out _ _ (fun _=>trivial) (fun _=>?_);(try simp only [aj,aq,au]);refine af.done (by kernel_rfl) ?_;clear zq zu;go_wp2_with fail;refine (TE.out _).mono ?_;rintro e w' ⟨rfl,uK⟩
   go_wp2_with fail;go_ret;exact ⟨rfl,Cj.out.trans uK⟩
  ·go_simp
   have bq:=Up.alloc (Wd.alloc (.cells #[.slice (some ⟨nb,no+k,none⟩) (acw.length - k) (cap - k),.slice (some ⟨nb,no,none⟩) k cap] 22)) (.cells #[.slice (some ⟨sb,so+k,none⟩) (acy.length - k) (sc - k),.slice (some ⟨sb,so,none⟩) k sc] 23);have bY:=aa (b9.out.trans bq);have Jp:=aa (And.intro (bq.cell FW.out.1) (bq.cell FW.out.2))
   have hn:=And.intro (aH (Wd.alloc (.cells #[.slice (some ⟨nb,no+k,none⟩) (acw.length - k) (cap - k),.slice (some ⟨nb,no,none⟩) k cap] 22)) #[.slice (some ⟨sb,so+k,none⟩) (acy.length - k) (sc - k),.slice (some ⟨sb,so,none⟩) k sc] 23 0) (aH (Wd.alloc (.cells #[.slice (some ⟨nb,no+k,none⟩) (acw.length - k) (cap - k),.slice (some ⟨nb,no,none⟩) k cap] 22)) #[.slice (some ⟨sb,so+k,none⟩) (acy.length - k) (sc - k),.slice (some ⟨sb,so,none⟩) k sc] 23 1);rw [aL] at hn;have Jq:=aa hn;clear bq hn;refine hK.out _ _ (fun _=>trivial) (fun _=>?_)
   (try simp only [aj,aq,au]);refine af.step (i:=7) rfl (by kernel_rfl) (fun K' hK=>?_);go_simp;refine (YU.out _ _ bY.out Jp.out.1 Jp.out.2).mono ?_;rintro e W3 ⟨hu,v3,rfl,hv⟩;have ek:=aa (bY.out.trans hu);have zo:=aa (And.intro (hu.cell Jq.out.1) (hu.cell Jq.out.2));have Jo:=aa hv;clear hu hv;refine hK.out _ _ (fun _=>trivial) (fun _=>?_);(try simp only [aj,aq,au]);refine af.step (i:=15) rfl (by kernel_rfl) (fun K' hK=>?_);go_simp
   refine (YV.out _ _ ek.out zo.out.1 zo.out.2).mono ?_;rintro e W4 ⟨hu,v4,rfl,hv⟩;have kX:=aa (ek.out.trans hu);have zq:=aa (av.keep Jo.out (hu.kept _));have zu:=aa hv;clear hu hv;refine hK.out _ _ (fun _=>trivial) (fun _=>?_);(try simp only [aj,aq,au]);refine af.step (i:=16) rfl (by kernel_rfl) (fun K' hK=>?_);go_simp;refine (x5.out _ _ _ zq.out zu.out).mono ?_;rintro e Wf ⟨hu,p3,c3,rfl⟩;have Cj:=aa (kX.out.trans hu);clear hu;refine hK.out _ _ (fun _=>trivial) (fun _=>?_)
   (try simp only [aj,aq,au]);refine af.tk 17 hS ?_;(try simp only [Act.put,aj,aq,au]);refine af.tk 18 hS ?_;(try simp only [Act.put,aj,aq,au]);refine af.tk 19 hS ?_;(try simp only [Act.put,aj,aq,au]);refine af.tk 20 hS ?_;try simp only [Act.put,aj,aq,au]
   refine af.step (i:=21) rfl (by kernel_rfl) (fun K' hK=>?_);go_simp;refine hK.out _ _ (fun _=>trivial) (fun _=>?_);(try simp only [aj,aq,au]);refine af.step (i:=22) rfl (by kernel_rfl) (fun K' hK=>?_);go_simp;refine hK.out _ _ (fun _=>trivial) (fun _=>?_);(try simp only [aj,aq,au]);refine af.step (i:=23) rfl (by kernel_rfl) (fun K' hK=>?_);go_simp;refine hK.out _ _ (fun _=>trivial) (fun _=>?_);try simp only [aj,aq,au]
   refine af.done (by kernel_rfl) ?_;clear zq zu;go_wp2_with fail;refine (TE.out _).mono ?_;rintro e w' ⟨rfl,uK⟩;go_wp2_with fail;go_ret;exact ⟨rfl,Cj.out.trans uK⟩
 ·go_simp
  have bq:=Up.alloc Wd (.cells #[.slice (some ⟨sb,so+k,none⟩) (acy.length - k) (sc - k),.slice (some ⟨sb,so,none⟩) k sc] 23);have b9:=aa (HUd.out.trans bq);have hn:=And.intro (aH Wd #[.slice (some ⟨sb,so+k,none⟩) (acy.length - k) (sc - k),.slice (some ⟨sb,so,none⟩) k sc] 23 0) (aH Wd #[.slice (some ⟨sb,so+k,none⟩) (acy.length - k) (sc - k),.slice (some ⟨sb,so,none⟩) k sc] 23 1);have YX:=aa hn;clear bq hn;refine hK.out _ _ (fun _=>trivial) (fun _=>?_);try simp only [aj,aq,au]
  refine af.step (i:=6) rfl (by kernel_rfl) (fun K' hK=>?_);go_simp;have bq:=Up.alloc (Wd.alloc (.cells #[.slice (some ⟨sb,so+k,none⟩) (acy.length - k) (sc - k),.slice (some ⟨sb,so,none⟩) k sc] 23)) (.cells #[.slice (some ⟨nb,no+k,none⟩) (acw.length - k) (cap - k),.slice (some ⟨nb,no,none⟩) k cap] 22);have bY:=aa (b9.out.trans bq);have Jq:=aa (And.intro (bq.cell YX.out.1) (bq.cell YX.out.2))
  have hn:=And.intro (aH (Wd.alloc (.cells #[.slice (some ⟨sb,so+k,none⟩) (acy.length - k) (sc - k),.slice (some ⟨sb,so,none⟩) k sc] 23)) #[.slice (some ⟨nb,no+k,none⟩) (acw.length - k) (cap - k),.slice (some ⟨nb,no,none⟩) k cap] 22 0) (aH (Wd.alloc (.cells #[.slice (some ⟨sb,so+k,none⟩) (acy.length - k) (sc - k),.slice (some ⟨sb,so,none⟩) k sc] 23)) #[.slice (some ⟨nb,no+k,none⟩) (acw.length - k) (cap - k),.slice (some ⟨nb,no,none⟩) k cap] 22 1);rw [aL] at hn;have Jp:=aa hn;clear bq hn;refine hK.out _ _ (fun _=>trivial) (fun _=>?_)
  try simp only [aj,aq,au]
  refine af.step (i:=7) rfl (by kernel_rfl) (fun K' hK=>?_);go_simp;refine (YU.out _ _ bY.out Jp.out.1 Jp.out.2).mono ?_;rintro e W3 ⟨hu,v3,rfl,hv⟩;have ek:=aa (bY.out.trans hu);have zo:=aa (And.intro (hu.cell Jq.out.1) (hu.cell Jq.out.2));have Jo:=aa hv;clear hu hv;refine hK.out _ _ (fun _=>trivial) (fun _=>?_);try simp only [aj,aq,au]
  refine af.step (i:=15) rfl (by kernel_rfl) (fun K' hK=>?_);go_simp;refine (YV.out _ _ ek.out zo.out.1 zo.out.2).mono ?_;rintro e W4 ⟨hu,v4,rfl,hv⟩;have kX:=aa (ek.out.trans hu);have zq:=aa (av.keep Jo.out (hu.kept _));have zu:=aa hv;clear hu hv;refine hK.out _ _ (fun _=>trivial) (fun _=>?_);try simp only [aj,aq,au]
  refine af.step (i:=16) rfl (by kernel_rfl) (fun K' hK=>?_);go_simp;refine (x5.out _ _ _ zq.out zu.out).mono ?_;rintro e Wf ⟨hu,p3,c3,rfl⟩;have Cj:=aa (kX.out.trans hu);clear hu;refine hK.out _ _ (fun _=>trivial) (fun _=>?_);try simp only [aj,aq,au]
  refine af.tk 17 hS ?_;try simp only [Act.put,aj,aq,au]
  refine af.tk 18 hS ?_;try simp only [Act.put,aj,aq,au]
  refine af.tk 19 hS ?_;try simp only [Act.put,aj,aq,au]
  refine af.tk 20 hS ?_;try simp only [Act.put,aj,aq,au]
  refine af.step (i:=21) rfl (by kernel_rfl) (fun K' hK=>?_);go_simp;refine hK.out _ _ (fun _=>trivial) (fun _=>?_);try simp only [aj,aq,au]
  refine af.step (i:=22) rfl (by kernel_rfl) (fun K' hK=>?_);go_simp;refine hK.out _ _ (fun _=>trivial) (fun _=>?_);try simp only [aj,aq,au]
  refine af.step (i:=23) rfl (by kernel_rfl) (fun K' hK=>?_);go_simp;refine hK.out _ _ (fun _=>trivial) (fun _=>?_);try simp only [aj,aq,au]
  refine af.done (by kernel_rfl) ?_;clear zq zu;go_wp2_with fail;refine (TE.out _).mono ?_;rintro e w' ⟨rfl,uK⟩;go_wp2_with fail;go_ret;exact ⟨rfl,Cj.out.trans uK⟩
theorem Jr (w:World) (v vs:Value) (acw:List ByteArray) (acy:List (List Int)) (x:Int) (h:av Any w v acw) (hS:bh Any w vs acy) (hx:0<=x/\x<=255)
  (hn:acw.length<=9223372036854775807) (hz:∀k,(gs acw k).size<=9223372036854775807) (hm:acy.length<=9223372036854775807) (hr:∀k,(gl acy k).length<=9223372036854775807) :
  Calls Tryz.prog 6 #[v,vs,.int .u8 x] w fun e w'=>e=.returned (.bool true)/\Up w w':=by
 obtain ⟨c,rfl⟩:=tR hx.1;exact J1 w v vs acw acy c h hS (by omega) hn hz hm hr
end Go.Proofs.YthgabkgmkolobaaGreat
